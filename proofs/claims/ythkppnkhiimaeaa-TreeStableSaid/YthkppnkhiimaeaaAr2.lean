/- The arena (layer 1): Load and Store. -/
import Derived.Test.YthkppnkhiimaeaaAr
set_option linter.unusedVariables false
set_option linter.unusedSimpArgs false
namespace Go.Proofs.Ythkppnkhiimaeaa
open Go.RowKit

/-- The byte at a place; behind the end: 0. -/
def gb (bs : List Int) (i : Nat) : Int := bs.getD i 0

/-- The number that so many bytes at a place are, the lowest first. -/
def ldv (bs : List Int) (at_ : Nat) : Nat → Int
  | 0 => 0
  | k + 1 => ldv bs at_ k + gb bs (at_ + k) * 256 ^ k

theorem Ar.byte {w : World} {p d : Nat} {bs : List Int} (h : Ar w p d bs) (i : Nat) (hi : i < bs.length) : w.cell? ⟨d, i, none⟩ = some (.int .u8 (gb bs i)) ∧ 0 ≤ gb bs i ∧ gb bs i ≤ 255 := by
  unfold gb
  refine ⟨?_, ?_⟩
  · rw [cell_of_row w d i _ _ _ h.row]
    simp [List.getElem?_eq_getElem hi]
  · rw [List.getD_eq_getElem?_getD, List.getElem?_eq_getElem hi]
    exact h.rng _ (List.getElem_mem hi)

theorem ldv_range (bs : List Int) (hr : ∀ x ∈ bs, 0 ≤ x ∧ x ≤ 255) (at_ : Nat) : ∀ k, 0 ≤ ldv bs at_ k ∧ ldv bs at_ k < 256 ^ k
  | 0 => by simp [ldv]
  | k + 1 => by
    have ih := ldv_range bs hr at_ k
    have hb : 0 ≤ gb bs (at_ + k) ∧ gb bs (at_ + k) ≤ 255 := by
      unfold gb
      rw [List.getD_eq_getElem?_getD]
      by_cases hi : at_ + k < bs.length
      · rw [List.getElem?_eq_getElem hi]; exact hr _ (List.getElem_mem hi)
      · rw [List.getElem?_eq_none (by omega)]; simp
    simp only [ldv]
    have hp : (0 : Int) < 256 ^ k := Int.pow_pos (by omega)
    have h1 : 0 ≤ gb bs (at_ + k) * 256 ^ k := Int.mul_nonneg hb.1 (by omega)
    have h2 : gb bs (at_ + k) * 256 ^ k ≤ 255 * 256 ^ k := Int.mul_le_mul_of_nonneg_right hb.2 (by omega)
    rw [Int.pow_succ]
    constructor <;> omega

theorem or_step (a b : Int) (k : Nat) (h0 : 0 ≤ a) (h1 : a < 256 ^ k) (h2 : 0 ≤ b) (h3 : b ≤ 255) (hk : k ≤ 7) :
    bits .or .u64 a (IntKind.u64.wrap (b * 2 ^ (8 * k))) = a + b * 256 ^ k := by
  obtain ⟨A, rfl⟩ := Int.eq_ofNat_of_zero_le h0
  obtain ⟨B, rfl⟩ := Int.eq_ofNat_of_zero_le h2
  have h1' : A < 2 ^ (8 * k) := by
    rw [show (256 : Int) ^ k = ((2 ^ (8 * k) : Nat) : Int) from by rw [Nat.pow_mul]; simp] at h1
    exact Int.ofNat_lt.1 h1
  have hB : B ≤ 255 := by omega
  have hp : 2 ^ (8 * k) ≤ 2 ^ 56 := Nat.pow_le_pow_right (by omega) (by omega)
  have hm : B * 2 ^ (8 * k) ≤ 255 * 2 ^ 56 := Nat.mul_le_mul hB hp
  have hw2 : IntKind.u64.wrap ((B : Int) * 2 ^ (8 * k)) = ((B * 2 ^ (8 * k) : Nat) : Int) := by
    rw [show (B : Int) * 2 ^ (8 * k) = ((B * 2 ^ (8 * k) : Nat) : Int) from by simp]
    simp only [IntKind.wrap, IntKind.bits, IntKind.signed]
    simp
    have : ((B * 2 ^ (8 * k) : Nat) : Int) = (B : Int) * 2 ^ (8 * k) := by simp
    omega
  rw [hw2, u64_or_nat A _ (by omega) (by omega)]
  have e := Nat.two_pow_add_eq_or_of_lt h1' B
  rw [Nat.or_comm, Nat.mul_comm B, ← e, Nat.pow_mul]
  simp
  rw [Int.mul_comm, Int.add_comm]

theorem Load_bad (p : Value) (at_ wd : Int) (w : World) (hw : ¬ WOk wd) :
    Calls Try.prog 20 #[p, .int .i64 at_, .int .i64 wd] w fun e w' => e = .returned (.tuple #[.int .u64 0, .int .i64 1]) ∧ Below w.heap.size w w' := by
  have H := Lib.hid hw
  clear hw
  go_enter Try.func20, Try.ntmps20
  go_wp2_with fail
  refine (part_bad p at_ wd _ H.out).mono ?_
  rintro e w' ⟨rfl, hb⟩
  go_wp2
  refine wp_loop_rounds 1 ?_
  rw [rounds_succ]
  go_wp2
  go_ret2
  exact ⟨rfl, hb⟩

theorem Load_far (p : Value) (n at_ wd : Int) (w : World) (hw : WOk wd) (hn0 : 0 ≤ n) (hn1 : n ≤ 65536) (hL : Tells w p n) (hfar : at_ < 0 ∨ n - wd < at_) :
    Calls Try.prog 20 #[p, .int .i64 at_, .int .i64 wd] w fun e w' => e = .returned (.tuple #[.int .u64 0, .int .i64 4]) ∧ Below w.heap.size w w' := by
  have H := Lib.hid (And.intro hw (And.intro hn0 (And.intro hn1 (And.intro hL hfar))))
  clear hw hn0 hn1 hL hfar
  go_enter Try.func20, Try.ntmps20
  go_wp2_with fail
  refine (part_far p n at_ wd _ H.out.1 H.out.2.1 H.out.2.2.1 H.out.2.2.2.1 H.out.2.2.2.2).mono ?_
  rintro e w' ⟨rfl, hb⟩
  go_wp2
  refine wp_loop_rounds 1 ?_
  rw [rounds_succ]
  go_wp2
  go_ret2
  exact ⟨rfl, hb⟩

theorem Load_ok {p d : Nat} {bs : List Int} (at_ wd : Int) (w : World) (h : Ar w p d bs) (hw : WOk wd) (ha : 0 ≤ at_) (hb : at_ ≤ bs.length - wd) :
    Calls Try.prog 20 #[.pointer (some ⟨p, 0, none⟩), .int .i64 at_, .int .i64 wd] w fun e w' =>
      e = .returned (.tuple #[.int .u64 (ldv bs at_.toNat wd.toNat), .int .i64 0]) ∧ Below w.heap.size w w' := by
  obtain ⟨A, rfl⟩ := Int.eq_ofNat_of_zero_le ha
  obtain ⟨W, rfl⟩ := Int.eq_ofNat_of_zero_le (show 0 ≤ wd by unfold WOk at hw; omega)
  have H := Lib.hid hw
  have HA := Lib.hid h
  have hlen := h.len
  have hW : 1 ≤ W ∧ W ≤ 8 := by unfold WOk at hw; omega
  have hb' : A + W ≤ bs.length := by omega
  clear hw h
  obtain ⟨hw1, hw2⟩ := hW
  go_enter Try.func20, Try.ntmps20
  go_wp2_with fail
  refine (part_ok (A : Int) (W : Int) _ HA.out H.out ha hb).mono ?_
  rintro e w' ⟨rfl, hB⟩
  have HA' := Lib.hid (HA.out.below hB)
  have HB := Lib.hid hB
  clear hB
  rw [Int.toNat_natCast, Int.toNat_natCast]
  go_wp2
  go_loop [10, 21] (fun v i => ∃ k : Nat, k ≤ W ∧ i = .int .i64 k ∧ v = .int .u64 (ldv bs A k)) (fun _ i => W - (intOf i).toNat)
  case atStart => exact ⟨0, by omega, rfl, rfl⟩
  case round =>
    obtain ⟨k, hk, rfl, rfl⟩ := hrel
    by_cases hlt : k < W
    · have hcell := HA'.out.byte (A + k) (by omega)
      obtain ⟨hc1, hc2, hc3⟩ := hcell
      go_wp2
      go_round
      case rel => 
        refine ⟨k + 1, by omega, by go_num, ?_⟩
        have hr := ldv_range bs HA.out.rng A k
        rw [or_step (ldv bs A k) (gb bs (A + k)) k hr.1 hr.2 hc2 hc3 (by omega)]
        rfl
      case measure => simp [intOf]; omega
    · obtain rfl : k = W := by omega
      go_wp2
      go_ret2
      exact ⟨rfl, HB.out⟩

/-- Bytes with others in the place of so many from one on. -/
def put (bs : List Int) (at_ : Nat) (f : Nat → Int) : Nat → List Int
  | 0 => bs
  | k + 1 => (put bs at_ f k).set (at_ + k) (f k)
def byteOf (v : Int) (k : Nat) : Int := v / 256 ^ k % 256
/-- Bytes with a number's lowest bytes laid down at a place, the lowest first. -/
def stv (bs : List Int) (at_ : Nat) (v : Int) (k : Nat) : List Int := put bs at_ (byteOf v) k

theorem put_length (bs : List Int) (at_ : Nat) (f : Nat → Int) : ∀ k, (put bs at_ f k).length = bs.length
  | 0 => rfl
  | k + 1 => by simp [put, put_length bs at_ f k]
theorem stv_length (bs : List Int) (at_ : Nat) (v : Int) (k : Nat) : (stv bs at_ v k).length = bs.length := put_length _ _ _ _

theorem Ar.frozen {w : World} {p d : Nat} {bs : List Int} (h : Ar w p d bs) (i : Nat) : w.frozen? ⟨d, i, none⟩ = false := by
  have := h.row
  simp [World.frozen?, this]

theorem Ar.set {w : World} {p d : Nat} {bs : List Int} (h : Ar w p d bs) (i : Nat) (x : Int) (hx : 0 ≤ x ∧ x ≤ 255) : Ar (w.setCell ⟨d, i, none⟩ (.int .u8 x)) p d (bs.set i x) := by
  refine ⟨?_, ?_, h.ne, by simpa using h.len, ?_⟩
  · rw [Below.heap_setCell w ⟨d, i, none⟩ _ p h.ne, List.length_set]
    exact h.hdr
  · have hr := h.row
    simp [World.setCell, Array.getElem?_modify, hr]
  · intro y hy
    rcases List.mem_or_eq_of_mem_set hy with hy | hy
    · exact h.rng y hy
    · subst hy; exact hx

theorem only_setCell {a w : World} {g : Nat} (h : a.grownBy w (some g)) {p : Addr} (hp : p.block = g ∨ a.heap.size ≤ p.block) (u : Value) : a.grownBy (w.setCell p u) (some g) :=
  ⟨h.os, h.tape, h.output, by simpa [World.setCell] using h.size, fun i hi hne => (Below.heap_setCell w p u i (by
    rintro rfl
    rcases hp with hp | hp
    · exact hne (by rw [hp])
    · omega)).trans (h.block i hi hne)⟩
theorem only_of_below {a w : World} (h : Below a.heap.size a w) (row : Option Nat) : a.grownBy w row := ⟨h.os, h.tape, h.output, h.size, fun i hi _ => h.block i hi⟩

theorem Store_bad (p : Value) (at_ wd v : Int) (w : World) (hw : ¬ WOk wd) :
    Calls Try.prog 28 #[p, .int .i64 at_, .int .i64 wd, .int .u64 v] w fun e w' => e = .returned (.int .i64 1) ∧ Below w.heap.size w w' := by
  have H := Lib.hid hw
  clear hw
  go_enter Try.func28, Try.ntmps28
  go_wp2_with fail
  refine (part_bad p at_ wd _ H.out).mono ?_
  rintro e w' ⟨rfl, hb⟩
  go_wp2
  refine wp_loop_rounds 1 ?_
  rw [rounds_succ]
  go_wp2
  go_ret
  exact ⟨rfl, hb⟩

theorem Store_far (p : Value) (n at_ wd v : Int) (w : World) (hw : WOk wd) (hn0 : 0 ≤ n) (hn1 : n ≤ 65536) (hL : Tells w p n) (hfar : at_ < 0 ∨ n - wd < at_) :
    Calls Try.prog 28 #[p, .int .i64 at_, .int .i64 wd, .int .u64 v] w fun e w' => e = .returned (.int .i64 4) ∧ Below w.heap.size w w' := by
  have H := Lib.hid (And.intro hw (And.intro hn0 (And.intro hn1 (And.intro hL hfar))))
  clear hw hn0 hn1 hL hfar
  go_enter Try.func28, Try.ntmps28
  go_wp2_with fail
  refine (part_far p n at_ wd _ H.out.1 H.out.2.1 H.out.2.2.1 H.out.2.2.2.1 H.out.2.2.2.2).mono ?_
  rintro e w' ⟨rfl, hb⟩
  go_wp2
  refine wp_loop_rounds 1 ?_
  rw [rounds_succ]
  go_wp2
  go_ret
  exact ⟨rfl, hb⟩

theorem Store_ok {p d : Nat} {bs : List Int} (at_ wd v : Int) (w : World) (h : Ar w p d bs) (hw : WOk wd) (ha : 0 ≤ at_) (hb : at_ ≤ bs.length - wd) (hv0 : 0 ≤ v) :
    Calls Try.prog 28 #[.pointer (some ⟨p, 0, none⟩), .int .i64 at_, .int .i64 wd, .int .u64 v] w fun e w' =>
      e = .returned (.int .i64 0) ∧ Ar w' p d (stv bs at_.toNat v wd.toNat) ∧ w.grownBy w' (some d) := by
  obtain ⟨A, rfl⟩ := Int.eq_ofNat_of_zero_le ha
  obtain ⟨W, rfl⟩ := Int.eq_ofNat_of_zero_le (show 0 ≤ wd by unfold WOk at hw; omega)
  have H := Lib.hid hw
  have HA := Lib.hid h
  have hlen := h.len
  have hW : 1 ≤ W ∧ W ≤ 8 := by unfold WOk at hw; omega
  have hb' : A + W ≤ bs.length := by omega
  clear hw h
  obtain ⟨hw1, hw2⟩ := hW
  go_enter Try.func28, Try.ntmps28
  go_wp2_with fail
  refine (part_ok (A : Int) (W : Int) _ HA.out H.out ha hb).mono ?_
  rintro e w' ⟨rfl, hB⟩
  have HA' := Lib.hid (HA.out.below hB)
  have HB := Lib.hid hB
  clear hB
  rw [Int.toNat_natCast, Int.toNat_natCast]
  go_wp2
  go_loopw [21] (fun i wr => ∃ k : Nat, k ≤ W ∧ i = .int .i64 k ∧ Ar wr p d (stv bs A v k) ∧ w.grownBy wr (some d)) (fun i _ => W - (intOf i).toNat)
  case atStart => exact ⟨0, by omega, rfl, HA'.out, only_of_below HB.out _⟩
  case round =>
    obtain ⟨k, hk, rfl, hA, hg⟩ := hrel
    by_cases hlt : k < W
    · have hcell := (hA.byte (A + k) (by rw [stv_length]; omega)).1
      have hfr := hA.frozen (A + k)
      have HAr := Lib.hid hA
      have HG := Lib.hid hg
      clear hA hg
      go_wp2
      go_roundw
      case rel =>
        refine ⟨k + 1, by omega, by go_num, ?_, only_setCell HG.out (.inl rfl) _⟩
        have e : v / 2 ^ (8 * k) % 256 = byteOf v k := by unfold byteOf; rw [Int.pow_mul]; rfl
        rw [e]
        exact HAr.out.set (A + k) _ (by unfold byteOf; omega)
      case measure => simp [intOf]; omega
    · obtain rfl : k = W := by omega
      have HAr := Lib.hid hA
      have HG := Lib.hid hg
      clear hA hg
      go_wp2
      go_ret
      exact ⟨rfl, HAr.out, HG.out⟩
end Go.Proofs.Ythkppnkhiimaeaa
