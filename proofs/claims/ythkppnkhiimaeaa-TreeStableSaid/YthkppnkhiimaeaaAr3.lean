/- The arena (layer 1): New, run, Fill and Bytes. -/
import Derived.Test.YthkppnkhiimaeaaAr2
import Derived.Laws.CopyOwn
set_option linter.unusedVariables false
set_option linter.unusedSimpArgs false
namespace Go.Proofs.Ythkppnkhiimaeaa
open Go.RowKit

theorem info_u8 : (Try.prog.info? 5).map (fun i => (i.zero, i.size, i.bytes)) = some (some (.int .u8 0), 1, 1) := by kernel_rfl

theorem madeCells_u8 (n : Nat) : madeCells #[Value.int .u8 0] n = ((List.replicate n (0 : Int)).map (Value.int .u8)).toArray := by
  apply Array.toList_inj.1
  rw [toList_madeCells_one]
  simp

/-- So many bytes 0. -/
def zeros (n : Nat) : List Int := List.replicate n 0
theorem zeros_length (n : Nat) : (zeros n).length = n := List.length_replicate

theorem New_bad (n : Int) (w : World) (h : n < 0 ∨ 65536 < n) :
    Calls Try.prog 32 #[.int .i64 n] w fun e w' => e = .returned (.tuple #[.pointer none, .int .i64 1]) ∧ w = w' := by
  by_cases h0 : n < 0
  · clear h
    go_enter Try.func32, Try.ntmps32
    go_wp2
    go_ret2
    exact ⟨rfl, rfl⟩
  · have h1 : 65536 < n := by omega
    clear h
    go_enter Try.func32, Try.ntmps32
    go_wp2
    go_ret2
    exact ⟨rfl, rfl⟩

theorem New_ok (n : Int) (w : World) (h0 : 0 ≤ n) (h1 : n ≤ 65536) :
    Calls Try.prog 32 #[.int .i64 n] w fun e w' => ∃ p d : Nat, e = .returned (.tuple #[.pointer (some ⟨p, 0, none⟩), .int .i64 0]) ∧
      Ar w' p d (zeros n.toNat) ∧ w.heap.size ≤ p ∧ w.heap.size ≤ d ∧ Below w.heap.size w w' := by
  obtain ⟨N, rfl⟩ := Int.eq_ofNat_of_zero_le h0
  have hmk := fun W => run_make_row' (P := Try.prog) 58 5 (.int .u8 0) 1 Try.underlying58 info_u8 rfl .i64 .i64 N (by omega) (by omega) W
  rw [Int.toNat_natCast]
  unfold zeros
  have HM := Lib.hid (madeCells_u8 N)
  go_enter Try.func32, Try.ntmps32
  go_wp2
  go_ret2
  refine ⟨w.heap.size + 1, w.heap.size, rfl, ⟨?_, ?_, by omega, by simp; omega, ?_⟩, by omega, by omega, ?_⟩
  · rw [List.length_replicate]
    have := heap_alloc_new (w.alloc (.cells (madeCells #[Value.int .u8 0] N) 5)) (.cells #[.slice (some ⟨w.heap.size, 0, none⟩) N N] 89)
    simpa using this
  · rw [← HM.out]
    exact (Below.heap_alloc _ _ w.heap.size (by simp)).trans (heap_alloc_new w _)
  · intro x hx
    have := List.eq_of_mem_replicate hx
    omega
  · exact ((Below.refl _ _).alloc (Nat.le_refl _) _).alloc (by simp) _

theorem run_bad (p : Value) (at_ n : Int) (w : World) (h : n < 0) :
    Calls Try.prog 60 #[p, .int .i64 at_, .int .i64 n] w fun e w' => e = .returned (.tuple #[.slice none 0 0, .int .i64 1]) ∧ w = w' := by
  go_enter Try.func60, Try.ntmps60
  go_wp2
  go_ret2
  exact ⟨rfl, rfl⟩

theorem run_far (p : Value) (m at_ n : Int) (w : World) (hm0 : 0 ≤ m) (hm1 : m ≤ 65536) (hL : Tells w p m) (hn0 : 0 ≤ n) (hn1 : n ≤ 9223372036854775807) (hfar : at_ < 0 ∨ m - n < at_) :
    Calls Try.prog 60 #[p, .int .i64 at_, .int .i64 n] w fun e w' => e = .returned (.tuple #[.slice none 0 0, .int .i64 4]) ∧ w = w' := by
  have HL := Lib.hid hL
  clear hL
  by_cases ha : at_ < 0
  · clear hfar
    go_enter Try.func60, Try.ntmps60
    go_wp2
    go_ret2
    exact ⟨rfl, rfl⟩
  · have hfar' : m - n < at_ := by omega
    clear hfar
    go_enter Try.func60, Try.ntmps60
    go_wp2_with fail
    refine (HL.out _ (Below.refl _ _)).mono ?_
    rintro e w' ⟨rfl, rfl⟩
    go_wp2
    go_ret2
    exact ⟨rfl, rfl⟩

theorem run_none (p : Value) (m at_ : Int) (w : World) (hm1 : m ≤ 65536) (hL : Tells w p m) (ha : 0 ≤ at_) (hb : at_ ≤ m) :
    Calls Try.prog 60 #[p, .int .i64 at_, .int .i64 0] w fun e w' => e = .returned (.tuple #[.slice none 0 0, .int .i64 0]) ∧ w = w' := by
  have HL := Lib.hid hL
  clear hL
  go_enter Try.func60, Try.ntmps60
  go_wp2_with fail
  refine (HL.out _ (Below.refl _ _)).mono ?_
  rintro e w' ⟨rfl, rfl⟩
  go_wp2
  go_ret2
  exact ⟨rfl, rfl⟩

theorem run_ok {p d : Nat} {bs : List Int} (at_ n : Int) (w : World) (h : Ar w p d bs) (hn : 1 ≤ n) (ha : 0 ≤ at_) (hb : at_ ≤ bs.length - n) :
    Calls Try.prog 60 #[.pointer (some ⟨p, 0, none⟩), .int .i64 at_, .int .i64 n] w fun e w' =>
      e = .returned (.tuple #[.slice (some ⟨d, at_.toNat, none⟩) n.toNat (bs.length - at_.toNat), .int .i64 0]) ∧ w = w' := by
  have hL := h.tells
  have HL := Lib.hid hL
  have hlen := h.len
  have hc := h.hdrCell
  clear h hL
  have hn0 : (n == 0) = false := beq_eq_false_iff_ne.2 (by omega)
  go_enter Try.func60, Try.ntmps60
  go_wp2_with fail
  refine (HL.out _ (Below.refl _ _)).mono ?_
  rintro e w' ⟨rfl, rfl⟩
  go_wp2
  go_ret2
  have e : (at_ + n).toNat - at_.toNat = n.toNat := by omega
  exact ⟨ret2 (by simp [e]) rfl, rfl⟩

theorem Fill_bad (p : Value) (at_ n c : Int) (w : World) (h : n < 0) :
    Calls Try.prog 37 #[p, .int .i64 at_, .int .i64 n, .int .u8 c] w fun e w' => e = .returned (.int .i64 1) ∧ w = w' := by
  go_enter Try.func37, Try.ntmps37
  go_wp2_with fail
  refine (run_bad p at_ n _ h).mono ?_
  rintro e w' ⟨rfl, rfl⟩
  go_wp2
  refine wp_loop_rounds 1 ?_
  rw [rounds_succ]
  go_wp2
  go_ret
  exact ⟨rfl, rfl⟩

theorem Fill_far (p : Value) (m at_ n c : Int) (w : World) (hm0 : 0 ≤ m) (hm1 : m ≤ 65536) (hL : Tells w p m) (hn0 : 0 ≤ n) (hn1 : n ≤ 9223372036854775807) (hfar : at_ < 0 ∨ m - n < at_) :
    Calls Try.prog 37 #[p, .int .i64 at_, .int .i64 n, .int .u8 c] w fun e w' => e = .returned (.int .i64 4) ∧ w = w' := by
  have H := Lib.hid (And.intro hm0 (And.intro hm1 (And.intro hL (And.intro hn0 (And.intro hn1 hfar)))))
  clear hm0 hm1 hL hn0 hn1 hfar
  go_enter Try.func37, Try.ntmps37
  go_wp2_with fail
  refine (run_far p m at_ n _ H.out.1 H.out.2.1 H.out.2.2.1 H.out.2.2.2.1 H.out.2.2.2.2.1 H.out.2.2.2.2.2).mono ?_
  rintro e w' ⟨rfl, rfl⟩
  go_wp2
  refine wp_loop_rounds 1 ?_
  rw [rounds_succ]
  go_wp2
  go_ret
  exact ⟨rfl, rfl⟩

theorem Fill_none (p : Value) (m at_ c : Int) (w : World) (hm1 : m ≤ 65536) (hL : Tells w p m) (ha : 0 ≤ at_) (hb : at_ ≤ m) :
    Calls Try.prog 37 #[p, .int .i64 at_, .int .i64 0, .int .u8 c] w fun e w' => e = .returned (.int .i64 0) ∧ w = w' := by
  have HL := Lib.hid hL
  clear hL
  go_enter Try.func37, Try.ntmps37
  go_wp2_with fail
  refine (run_none p m at_ _ hm1 HL.out ha hb).mono ?_
  rintro e w' ⟨rfl, rfl⟩
  go_wp2
  refine wp_loop_rounds 1 ?_
  rw [rounds_succ]
  go_wp2
  go_ret
  exact ⟨rfl, rfl⟩

theorem Fill_ok {p d : Nat} {bs : List Int} (at_ n c : Int) (w : World) (h : Ar w p d bs) (hn : 1 ≤ n) (ha : 0 ≤ at_) (hb : at_ ≤ bs.length - n) (hc0 : 0 ≤ c) (hc1 : c ≤ 255) :
    Calls Try.prog 37 #[.pointer (some ⟨p, 0, none⟩), .int .i64 at_, .int .i64 n, .int .u8 c] w fun e w' =>
      e = .returned (.int .i64 0) ∧ Ar w' p d (put bs at_.toNat (fun _ => c) n.toNat) ∧ w.grownBy w' (some d) := by
  obtain ⟨A, rfl⟩ := Int.eq_ofNat_of_zero_le ha
  obtain ⟨N, rfl⟩ := Int.eq_ofNat_of_zero_le (show 0 ≤ n by omega)
  have HA := Lib.hid h
  have hlen := h.len
  have hb' : A + N ≤ bs.length := by omega
  clear h
  go_enter Try.func37, Try.ntmps37
  go_wp2_with fail
  refine (run_ok (A : Int) (N : Int) _ HA.out hn ha hb).mono ?_
  rintro e w' ⟨rfl, rfl⟩
  rw [Int.toNat_natCast, Int.toNat_natCast]
  go_wp2
  go_loopw [21] (fun i wr => ∃ k : Nat, k ≤ N ∧ i = .int .i64 k ∧ Ar wr p d (put bs A (fun _ => c) k) ∧ w.grownBy wr (some d)) (fun i _ => N - (intOf i).toNat)
  case atStart => exact ⟨0, by omega, rfl, HA.out, World.grownBy.refl _ _⟩
  case round =>
    obtain ⟨k, hk, rfl, hA, hg⟩ := hrel
    by_cases hlt : k < N
    · have hcell := (hA.byte (A + k) (by rw [put_length]; omega)).1
      have hfr := hA.frozen (A + k)
      have HAr := Lib.hid hA
      have HG := Lib.hid hg
      clear hA hg
      go_wp2
      go_roundw
      case rel => exact ⟨k + 1, by omega, by go_num, HAr.out.set (A + k) _ ⟨hc0, hc1⟩, only_setCell HG.out (.inl rfl) _⟩
      case measure => simp [intOf]; omega
    · obtain rfl : k = N := by omega
      have HAr := Lib.hid hA
      have HG := Lib.hid hg
      clear hA hg
      go_wp2
      go_ret
      exact ⟨rfl, HAr.out, HG.out⟩

/-- A block of bytes. -/
def Bk (w : World) (g : Nat) (bs : List Int) : Prop := w.heap[g]? = some (.cells (bs.map (Value.int .u8)).toArray 5 (0, 0))
theorem Bk.lt {w : World} {g : Nat} {bs : List Int} (h : Bk w g bs) : g < w.heap.size := by
  rcases Nat.lt_or_ge g w.heap.size with hlt | hge
  · exact hlt
  · unfold Bk at h; rw [Array.getElem?_eq_none hge] at h; cases h
theorem Bk.below {w w' : World} {g : Nat} {bs : List Int} (h : Bk w g bs) (hb : Below w.heap.size w w') : Bk w' g bs := (hb.block g h.lt).trans h
theorem Bk.byte {w : World} {g : Nat} {bs : List Int} (h : Bk w g bs) (i : Nat) (hi : i < bs.length) : w.cell? ⟨g, i, none⟩ = some (.int .u8 (gb bs i)) := by
  unfold gb
  rw [cell_of_row w g i _ _ _ h]
  simp [List.getElem?_eq_getElem hi]

/-- What lies in so many bytes from a place on. -/
def cutb (bs : List Int) (at_ n : Nat) : List Int := (bs.drop at_).take n
theorem cutb_length (bs : List Int) (at_ n : Nat) (h : at_ + n ≤ bs.length) : (cutb bs at_ n).length = n := by simp [cutb]; omega

theorem size_u8 : (Try.prog.info? 5).map (·.size) = some 1 := by kernel_rfl

theorem splice_all (xs ys : List Value) (h : xs.length = ys.length) : splice xs 0 ys = ys := by
  unfold splice
  simp [h]

theorem Bytes_of (p : Value) (at_ n er : Int) (A : Option Addr) (len cap : Nat) (ys : List Int) (w : World) (hlen : len ≤ 65536) (hys : ys.length = len)
    (hrun : Calls Try.prog 60 #[p, .int .i64 at_, .int .i64 n] w fun e w' => e = .returned (.tuple #[.slice A len cap, .int .i64 er]) ∧ w = w')
    (hsrc : ∀ w', Below w.heap.size w w' → 0 < len → ∃ ad, A = some ad ∧ ∀ j a, ys[j]? = some a → w'.cell? (ad.add j) = some (.int .u8 a)) :
    Calls Try.prog 29 #[p, .int .i64 at_, .int .i64 n] w fun e w' => ∃ g, e = .returned (.tuple #[.slice (some ⟨g, 0, none⟩) len len, .int .i64 er]) ∧
      Bk w' g ys ∧ w.heap.size ≤ g ∧ Below w.heap.size w w' := by
  have hmk := fun W => run_make_row' (P := Try.prog) 58 5 (.int .u8 0) 1 Try.underlying58 info_u8 rfl .i64 .i64 len (by omega) (by omega) W
  have HM := Lib.hid (madeCells_u8 len)
  have HR := Lib.hid hrun
  have HS := Lib.hid hsrc
  have HY := Lib.hid hys
  clear hrun hsrc hys
  go_enter Try.func29, Try.ntmps29
  go_wp2_with fail
  refine HR.out.mono ?_
  rintro e w' ⟨rfl, rfl⟩
  go_wp2_with (with_reducible refine wpList_copy_splice rfl (.tmp 21) (.tmp 22) _ _ rfl 5 Try.underlying58 size_u8 _ _ _ _ _ _ rfl rfl w.heap.size 0 ((List.replicate len (0 : Int)).map (Value.int .u8)) 5 ?c1 (ys.map (Value.int .u8)) ?c2 ?c3 ?c4 ?c5 w.heap.size w ?c6 (Nat.le_refl _) ?_)
  case c1 =>
    rw [← HM.out]
    exact heap_alloc_new w _
  case c2 => simp [HY.out]
  case c3 =>
    intro hpos
    obtain ⟨ad, hA, hc⟩ := HS.out _ ((Below.refl _ _).alloc (Nat.le_refl _) _) (by simpa [HY.out] using hpos)
    exact ⟨ad, hA, hc⟩
  case c4 => simp [HY.out]
  case c5 =>
    intro v hv
    obtain ⟨x, _, rfl⟩ := List.mem_map.1 hv
    rfl
  case c6 => exact (Below.refl _ _).alloc (Nat.le_refl _) _
  intro w1 hw1 hb1
  have HB := Lib.hid hb1
  clear hb1
  go_wp2
  go_ret2
  refine ⟨w.heap.size, rfl, ?_, Nat.le_refl _, HB.out⟩
  have h1 := hw1.out
  rw [splice_all _ _ (by simp [HY.out])] at h1
  exact h1

theorem Bytes_bad (p : Value) (at_ n : Int) (w : World) (h : n < 0) :
    Calls Try.prog 29 #[p, .int .i64 at_, .int .i64 n] w fun e w' => ∃ g, e = .returned (.tuple #[.slice (some ⟨g, 0, none⟩) 0 0, .int .i64 1]) ∧
      Bk w' g [] ∧ w.heap.size ≤ g ∧ Below w.heap.size w w' :=
  Bytes_of p at_ n 1 none 0 0 [] w (by omega) rfl (run_bad p at_ n w h) (fun _ _ h => absurd h (by omega))

theorem Bytes_far (p : Value) (m at_ n : Int) (w : World) (hm0 : 0 ≤ m) (hm1 : m ≤ 65536) (hL : Tells w p m) (hn0 : 0 ≤ n) (hn1 : n ≤ 9223372036854775807) (hfar : at_ < 0 ∨ m - n < at_) :
    Calls Try.prog 29 #[p, .int .i64 at_, .int .i64 n] w fun e w' => ∃ g, e = .returned (.tuple #[.slice (some ⟨g, 0, none⟩) 0 0, .int .i64 4]) ∧
      Bk w' g [] ∧ w.heap.size ≤ g ∧ Below w.heap.size w w' :=
  Bytes_of p at_ n 4 none 0 0 [] w (by omega) rfl (run_far p m at_ n w hm0 hm1 hL hn0 hn1 hfar) (fun _ _ h => absurd h (by omega))

theorem add_at (d i j : Nat) : (⟨d, i, none⟩ : Addr).add j = ⟨d, i + j, none⟩ := by unfold Addr.add; split <;> simp_all

theorem Bytes_ok {p d : Nat} {bs : List Int} (at_ n : Int) (w : World) (h : Ar w p d bs) (hn : 0 ≤ n) (ha : 0 ≤ at_) (hb : at_ ≤ bs.length - n) :
    Calls Try.prog 29 #[.pointer (some ⟨p, 0, none⟩), .int .i64 at_, .int .i64 n] w fun e w' => ∃ g, e = .returned (.tuple #[.slice (some ⟨g, 0, none⟩) n.toNat n.toNat, .int .i64 0]) ∧
      Bk w' g (cutb bs at_.toNat n.toNat) ∧ w.heap.size ≤ g ∧ Below w.heap.size w w' := by
  have hlen := h.len
  by_cases h0 : n = 0
  · subst h0
    have e : cutb bs at_.toNat 0 = [] := by simp [cutb]
    show Calls _ _ _ _ fun e w' => ∃ g, e = .returned (.tuple #[.slice (some ⟨g, 0, none⟩) 0 0, .int .i64 0]) ∧ Bk w' g (cutb bs at_.toNat 0) ∧ w.heap.size ≤ g ∧ Below w.heap.size w w'
    rw [e]
    exact Bytes_of _ at_ 0 0 none 0 0 [] w (by omega) rfl (run_none _ bs.length at_ w (by omega) h.tells ha (by omega)) (fun _ _ h => absurd h (by omega))
  · refine Bytes_of _ at_ n 0 _ n.toNat _ (cutb bs at_.toNat n.toNat) w (by omega) (cutb_length _ _ _ (by omega)) (run_ok at_ n w h (by omega) ha hb) ?_
    intro w' hB _
    refine ⟨_, rfl, ?_⟩
    intro j v hj
    have h' := h.below hB
    have hj' : j < n.toNat := by
      have := (List.getElem?_eq_some_iff.1 hj).1
      rw [cutb_length _ _ _ (by omega)] at this
      exact this
    rw [add_at, (h'.byte (at_.toNat + j) (by omega)).1]
    unfold cutb at hj
    rw [List.getElem?_take, if_pos hj', List.getElem?_drop] at hj
    unfold gb
    rw [List.getD_eq_getElem?_getD, hj]
    rfl
end Go.Proofs.Ythkppnkhiimaeaa
