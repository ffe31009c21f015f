/- Lemmas of the claim TreePlays. -/
import Derived.Test.YthkppnkhiimaeaaProg
import Derived.Below
import Derived.Deep.Draws
import Derived.Laws.OwnMore
import Derived.Laws.Rows
import Derived.Laws.MakeOwn
import Derived.Laws.Slices
import Derived.OwnWalk
import Derived.WalkKit
import Derived.KernelRfl
import Derived.Deep.LoopGhost
import Derived.Deep.QuietTactic
import Derived.BigQuiet
import Derived.Lib.Hide
import Derived.IntWalk
import Derived.WalkSmall
import Derived.WalkSpells
import Derived.WalkLawsBesides
import Derived.Deep.OwnRows
import Derived.Laws.CopyOwn
import Derived.ShutString
/- The arena (layer 1): what each of its functions answers, and what it leaves in memory. -/
set_option linter.unusedVariables false
set_option linter.unusedSimpArgs false
namespace Go.Proofs.Ythkppnkhiimaeaa
open Go.RowKit
theorem ret_bool {a b : Bool} (h : a = b) : Ending.returned (.bool a) = .returned (.bool b) := by rw [h]
theorem ret2 {a b a' b' : Value} (h : a = a') (h2 : b = b') : Ending.returned (.tuple #[a, b]) = .returned (.tuple #[a', b']) := by rw [h, h2]
theorem ret_int {k : IntKind} {a b : Int} (h : a = b) : Ending.returned (.int k a) = .returned (.int k b) := by rw [h]
structure Ar (w : World) (p d : Nat) (bs : List Int) : Prop where
  hdr : w.heap[p]? = some (.cells #[.slice (some ⟨d, 0, none⟩) bs.length bs.length] 89 (0, 0))
  row : w.heap[d]? = some (.cells (bs.map (Value.int .u8)).toArray 5 (0, 0))
  ne : p ≠ d
  len : bs.length ≤ 65536
  rng : ∀ x ∈ bs, 0 ≤ x ∧ x ≤ 255
theorem Ar.hdrCell {w : World} {p d : Nat} {bs : List Int} (h : Ar w p d bs) : w.cell? ⟨p, 0, none⟩ = some (.slice (some ⟨d, 0, none⟩) bs.length bs.length) := by
  rw [cell_of_row w p 0 _ _ _ h.hdr]; rfl
theorem Len_calls {w : World} {p d : Nat} {bs : List Int} (h : Ar w p d bs) :
    Calls Try.prog 63 #[.pointer (some ⟨p, 0, none⟩)] w fun e w' => e = .returned (.int .i64 (bs.length : Int)) ∧ w = w' := by
  have hc := h.hdrCell
  go_enter Try.func63, Try.ntmps63
  go_wp2
  go_ret
  exact ⟨rfl, rfl⟩
def WOk (v : Int) : Prop := v = 1 ∨ v = 2 ∨ v = 4 ∨ v = 8
instance (v : Int) : Decidable (WOk v) := by unfold WOk; infer_instance
def FirstOf (v r : Int) : Prop := (0 ≤ r ↔ WOk v)
theorem Index_calls (g : Nat) (v : Int) (w : World) (h : w.heap[g]? = some (.cells #[.int .i64 1, .int .i64 2, .int .i64 4, .int .i64 8] 90 (0, 0))) :
    Calls Try.prog 65 #[.slice (some ⟨g, 0, none⟩) 4 4, .int .i64 v] w fun e w' => ∃ r : Int, e = .returned (.int .i64 r) ∧ FirstOf v r ∧ w = w' := by
  have h0 : w.cell? ⟨g, 0, none⟩ = some (.int .i64 1) := by rw [cell_of_row w g 0 _ _ _ h]; rfl
  have h1 : w.cell? ⟨g, 1, none⟩ = some (.int .i64 2) := by rw [cell_of_row w g 1 _ _ _ h]; rfl
  have h2 : w.cell? ⟨g, 2, none⟩ = some (.int .i64 4) := by rw [cell_of_row w g 2 _ _ _ h]; rfl
  have h3 : w.cell? ⟨g, 3, none⟩ = some (.int .i64 8) := by rw [cell_of_row w g 3 _ _ _ h]; rfl
  clear h
  go_enter Try.func65, Try.ntmps65
  go_wp2
  go_loop [8] (fun i => ∃ k : Nat, k ≤ 4 ∧ i = .int .i64 k ∧ (1 ≤ k → v ≠ 1) ∧ (2 ≤ k → v ≠ 2) ∧ (3 ≤ k → v ≠ 4) ∧ (4 ≤ k → v ≠ 8)) (fun i => 4 - (intOf i).toNat)
  case atStart => exact ⟨0, by omega, rfl, by omega, by omega, by omega, by omega⟩
  case round =>
    obtain ⟨k, hk, rfl, g1, g2, g3, g4⟩ := hrel
    have G1 := Lib.hid g1
    have G2 := Lib.hid g2
    have G3 := Lib.hid g3
    have G4 := Lib.hid g4
    clear g1 g2 g3 g4
    obtain rfl | rfl | rfl | rfl | rfl : k = 0 ∨ k = 1 ∨ k = 2 ∨ k = 3 ∨ k = 4 := by omega
    · by_cases hv : v = 1
      · subst hv
        go_wp2
        go_ret
        exact ⟨0, rfl, by simp [FirstOf, WOk], rfl⟩
      · have hb : (v == 1) = false := beq_eq_false_iff_ne.2 hv
        go_wp2
        go_round
        case rel => exact ⟨1, by omega, by go_num, by omega, by omega, by omega, by omega⟩
        case measure => simp [intOf]
    · by_cases hv : v = 2
      · subst hv
        go_wp2
        go_ret
        exact ⟨1, rfl, by simp [FirstOf, WOk], rfl⟩
      · have hb : (v == 2) = false := beq_eq_false_iff_ne.2 hv
        go_wp2
        go_round
        case rel => exact ⟨2, by omega, by go_num, by have := G1.out; omega, by omega, by omega, by omega⟩
        case measure => simp [intOf]
    · by_cases hv : v = 4
      · subst hv
        go_wp2
        go_ret
        exact ⟨2, rfl, by simp [FirstOf, WOk], rfl⟩
      · have hb : (v == 4) = false := beq_eq_false_iff_ne.2 hv
        go_wp2
        go_round
        case rel => exact ⟨3, by omega, by go_num, by have := G1.out; omega, by have := G2.out; omega, by omega, by omega⟩
        case measure => simp [intOf]
    · by_cases hv : v = 8
      · subst hv
        go_wp2
        go_ret
        exact ⟨3, rfl, by simp [FirstOf, WOk], rfl⟩
      · have hb : (v == 8) = false := beq_eq_false_iff_ne.2 hv
        go_wp2
        go_round
        case rel => exact ⟨4, by omega, by go_num, by have := G1.out; omega, by have := G2.out; omega, by have := G3.out; omega, by omega⟩
        case measure => simp [intOf]
    · go_wp2
      go_ret
      refine ⟨-1, rfl, ?_, rfl⟩
      have := G1.out; have := G2.out; have := G3.out; have := G4.out
      unfold FirstOf WOk
      omega
theorem Contains_calls (g : Nat) (v : Int) (w : World) (h : w.heap[g]? = some (.cells #[.int .i64 1, .int .i64 2, .int .i64 4, .int .i64 8] 90 (0, 0))) :
    Calls Try.prog 64 #[.slice (some ⟨g, 0, none⟩) 4 4, .int .i64 v] w fun e w' => e = .returned (.bool (decide (WOk v))) ∧ w = w' := by
  have H := Lib.hid h
  clear h
  go_enter Try.func64, Try.ntmps64
  go_wp2_with fail
  refine (Index_calls g v _ H.out).mono ?_
  rintro e w' ⟨r, rfl, hr, rfl⟩
  go_wp2
  go_ret
  exact ⟨ret_bool (by rw [decide_eq_decide]; exact hr), rfl⟩
def Tells (w : World) (p : Value) (n : Int) : Prop := ∀ W, Below w.heap.size w W → Calls Try.prog 63 #[p] W fun e w' => e = .returned (.int .i64 n) ∧ W = w'
theorem Ar.lt {w : World} {p d : Nat} {bs : List Int} (h : Ar w p d bs) : p < w.heap.size ∧ d < w.heap.size := by
  have hp := h.hdr
  have hd := h.row
  constructor
  · rcases Nat.lt_or_ge p w.heap.size with hlt | hge
    · exact hlt
    · rw [Array.getElem?_eq_none hge] at hp; cases hp
  · rcases Nat.lt_or_ge d w.heap.size with hlt | hge
    · exact hlt
    · rw [Array.getElem?_eq_none hge] at hd; cases hd
theorem Ar.below {w w' : World} {p d : Nat} {bs : List Int} (h : Ar w p d bs) (hb : Below w.heap.size w w') : Ar w' p d bs :=
  ⟨(hb.block p h.lt.1).trans h.hdr, (hb.block d h.lt.2).trans h.row, h.ne, h.len, h.rng⟩
theorem Ar.tells {w : World} {p d : Nat} {bs : List Int} (h : Ar w p d bs) : Tells w (.pointer (some ⟨p, 0, none⟩)) bs.length := fun _ hb => Len_calls (h.below hb)
theorem part_bad (p : Value) (at_ wd : Int) (w : World) (hw : ¬ WOk wd) :
    Calls Try.prog 50 #[p, .int .i64 at_, .int .i64 wd] w fun e w' => e = .returned (.tuple #[.slice none 0 0, .int .i64 1]) ∧ Below w.heap.size w w' := by
  have H := Lib.hid hw
  clear hw
  have hd : decide (WOk wd) = false := by simpa using H.out
  go_enter Try.func50, Try.ntmps50
  go_wp2_with fail
  refine (Contains_calls _ wd _ (heap_alloc_new _ _)).mono ?_
  rintro e w' ⟨rfl, rfl⟩
  go_wp2
  go_ret2
  exact ⟨rfl, (Below.refl _ _).alloc (Nat.le_refl _) _⟩
theorem part_far (p : Value) (n at_ wd : Int) (w : World) (hw : WOk wd) (hn0 : 0 ≤ n) (hn1 : n ≤ 65536) (hL : Tells w p n) (hfar : at_ < 0 ∨ n - wd < at_) :
    Calls Try.prog 50 #[p, .int .i64 at_, .int .i64 wd] w fun e w' => e = .returned (.tuple #[.slice none 0 0, .int .i64 4]) ∧ Below w.heap.size w w' := by
  have H := Lib.hid hw
  have HL := Lib.hid hL
  have hwd : 1 ≤ wd ∧ wd ≤ 8 := by unfold WOk at hw; omega
  clear hw hL
  obtain ⟨hw1, hw2⟩ := hwd
  have hd : decide (WOk wd) = true := by simpa using H.out
  by_cases ha : at_ < 0
  · clear hfar
    go_enter Try.func50, Try.ntmps50
    go_wp2_with fail
    refine (Contains_calls _ wd _ (heap_alloc_new _ _)).mono ?_
    rintro e w' ⟨rfl, rfl⟩
    go_wp2
    go_ret2
    exact ⟨rfl, (Below.refl _ _).alloc (Nat.le_refl _) _⟩
  · have hfar' : n - wd < at_ := by omega
    clear hfar
    go_enter Try.func50, Try.ntmps50
    go_wp2_with fail
    refine (Contains_calls _ wd _ (heap_alloc_new _ _)).mono ?_
    rintro e w' ⟨rfl, rfl⟩
    go_wp2_with fail
    refine (HL.out _ ((Below.refl _ _).alloc (Nat.le_refl _) _)).mono ?_
    rintro e w' ⟨rfl, rfl⟩
    go_wp2
    go_ret2
    exact ⟨rfl, (Below.refl _ _).alloc (Nat.le_refl _) _⟩
theorem part_ok {p d : Nat} {bs : List Int} (at_ wd : Int) (w : World) (h : Ar w p d bs) (hw : WOk wd) (ha : 0 ≤ at_) (hb : at_ ≤ bs.length - wd) :
    Calls Try.prog 50 #[.pointer (some ⟨p, 0, none⟩), .int .i64 at_, .int .i64 wd] w fun e w' =>
      e = .returned (.tuple #[.slice (some ⟨d, at_.toNat, none⟩) wd.toNat (bs.length - at_.toNat), .int .i64 0]) ∧ Below w.heap.size w w' := by
  have H := Lib.hid hw
  have hL := h.tells
  have HL := Lib.hid hL
  have hlen := h.len
  have hwd : 1 ≤ wd ∧ wd ≤ 8 := by unfold WOk at hw; omega
  clear hw hL
  obtain ⟨hw1, hw2⟩ := hwd
  have hd : decide (WOk wd) = true := by simpa using H.out
  have hc : (w.alloc (.cells #[.int .i64 1, .int .i64 2, .int .i64 4, .int .i64 8] 90)).cell? ⟨p, 0, none⟩ = some (.slice (some ⟨d, 0, none⟩) bs.length bs.length) := (h.below ((Below.refl _ _).alloc (Nat.le_refl _) _)).hdrCell
  clear h
  go_enter Try.func50, Try.ntmps50
  go_wp2_with fail
  refine (Contains_calls _ wd _ (heap_alloc_new _ _)).mono ?_
  rintro e w' ⟨rfl, rfl⟩
  go_wp2_with fail
  refine (HL.out _ ((Below.refl _ _).alloc (Nat.le_refl _) _)).mono ?_
  rintro e w' ⟨rfl, rfl⟩
  go_wp2
  go_ret2
  have e : (at_ + wd).toNat - at_.toNat = wd.toNat := by omega
  exact ⟨ret2 (by simp [e]) rfl, (Below.refl _ _).alloc (Nat.le_refl _) _⟩
end Go.Proofs.Ythkppnkhiimaeaa

/- The arena (layer 1): Load and Store. -/
set_option linter.unusedVariables false
set_option linter.unusedSimpArgs false
namespace Go.Proofs.Ythkppnkhiimaeaa
open Go.RowKit
def gb (bs : List Int) (i : Nat) : Int := bs.getD i 0
def ldv (bs : List Int) (at_ : Nat) : Nat → Int
  | 0 => 0
  | k + 1 => ldv bs at_ k + gb bs (at_ + k) * 256 ^ k
theorem Ar.byte {w : World} {p d : Nat} {bs : List Int} (h : Ar w p d bs) (i : Nat) (hi : i < bs.length) : w.cell? ⟨d, i, none⟩ = some (.int .u8 (gb bs i)) ∧ 0 ≤ gb bs i ∧ gb bs i ≤ 255 := by
  unfold gb
  refine ⟨?_, ?_⟩
  · rw [cell_of_row w d i _ _ _ h.row]
    simp [List.getElem?_eq_getElem hi]
  · rw [List.getD_eq_getElem?_getD, List.getElem?_eq_getElem hi]
    exact h.rng _ (List.getElem_mem hi)
theorem ldv_range (bs : List Int) (hr : ∀ x ∈ bs, 0 ≤ x ∧ x ≤ 255) (at_ : Nat) : ∀ k, 0 ≤ ldv bs at_ k ∧ ldv bs at_ k < 256 ^ k
  | 0 => by simp [ldv]
  | k + 1 => by
    have ih := ldv_range bs hr at_ k
    have hb : 0 ≤ gb bs (at_ + k) ∧ gb bs (at_ + k) ≤ 255 := by
      unfold gb
      rw [List.getD_eq_getElem?_getD]
      by_cases hi : at_ + k < bs.length
      · rw [List.getElem?_eq_getElem hi]; exact hr _ (List.getElem_mem hi)
      · rw [List.getElem?_eq_none (by omega)]; simp
    simp only [ldv]
    have hp : (0 : Int) < 256 ^ k := Int.pow_pos (by omega)
    have h1 : 0 ≤ gb bs (at_ + k) * 256 ^ k := Int.mul_nonneg hb.1 (by omega)
    have h2 : gb bs (at_ + k) * 256 ^ k ≤ 255 * 256 ^ k := Int.mul_le_mul_of_nonneg_right hb.2 (by omega)
    rw [Int.pow_succ]
    constructor <;> omega
theorem or_step (a b : Int) (k : Nat) (h0 : 0 ≤ a) (h1 : a < 256 ^ k) (h2 : 0 ≤ b) (h3 : b ≤ 255) (hk : k ≤ 7) :
    bits .or .u64 a (IntKind.u64.wrap (b * 2 ^ (8 * k))) = a + b * 256 ^ k := by
  obtain ⟨A, rfl⟩ := Int.eq_ofNat_of_zero_le h0
  obtain ⟨B, rfl⟩ := Int.eq_ofNat_of_zero_le h2
  have h1' : A < 2 ^ (8 * k) := by
    rw [show (256 : Int) ^ k = ((2 ^ (8 * k) : Nat) : Int) from by rw [Nat.pow_mul]; simp] at h1
    exact Int.ofNat_lt.1 h1
  have hB : B ≤ 255 := by omega
  have hp : 2 ^ (8 * k) ≤ 2 ^ 56 := Nat.pow_le_pow_right (by omega) (by omega)
  have hm : B * 2 ^ (8 * k) ≤ 255 * 2 ^ 56 := Nat.mul_le_mul hB hp
  have hw2 : IntKind.u64.wrap ((B : Int) * 2 ^ (8 * k)) = ((B * 2 ^ (8 * k) : Nat) : Int) := by
    rw [show (B : Int) * 2 ^ (8 * k) = ((B * 2 ^ (8 * k) : Nat) : Int) from by simp]
    simp only [IntKind.wrap, IntKind.bits, IntKind.signed]
    simp
    have : ((B * 2 ^ (8 * k) : Nat) : Int) = (B : Int) * 2 ^ (8 * k) := by simp
    omega
  rw [hw2, u64_or_nat A _ (by omega) (by omega)]
  have e := Nat.two_pow_add_eq_or_of_lt h1' B
  rw [Nat.or_comm, Nat.mul_comm B, ← e, Nat.pow_mul]
  simp
  rw [Int.mul_comm, Int.add_comm]
theorem Load_bad (p : Value) (at_ wd : Int) (w : World) (hw : ¬ WOk wd) :
    Calls Try.prog 20 #[p, .int .i64 at_, .int .i64 wd] w fun e w' => e = .returned (.tuple #[.int .u64 0, .int .i64 1]) ∧ Below w.heap.size w w' := by
  have H := Lib.hid hw
  clear hw
  go_enter Try.func20, Try.ntmps20
  go_wp2_with fail
  refine (part_bad p at_ wd _ H.out).mono ?_
  rintro e w' ⟨rfl, hb⟩
  go_wp2
  refine wp_loop_rounds 1 ?_
  rw [rounds_succ]
  go_wp2
  go_ret2
  exact ⟨rfl, hb⟩
theorem Load_far (p : Value) (n at_ wd : Int) (w : World) (hw : WOk wd) (hn0 : 0 ≤ n) (hn1 : n ≤ 65536) (hL : Tells w p n) (hfar : at_ < 0 ∨ n - wd < at_) :
    Calls Try.prog 20 #[p, .int .i64 at_, .int .i64 wd] w fun e w' => e = .returned (.tuple #[.int .u64 0, .int .i64 4]) ∧ Below w.heap.size w w' := by
  have H := Lib.hid (And.intro hw (And.intro hn0 (And.intro hn1 (And.intro hL hfar))))
  clear hw hn0 hn1 hL hfar
  go_enter Try.func20, Try.ntmps20
  go_wp2_with fail
  refine (part_far p n at_ wd _ H.out.1 H.out.2.1 H.out.2.2.1 H.out.2.2.2.1 H.out.2.2.2.2).mono ?_
  rintro e w' ⟨rfl, hb⟩
  go_wp2
  refine wp_loop_rounds 1 ?_
  rw [rounds_succ]
  go_wp2
  go_ret2
  exact ⟨rfl, hb⟩
theorem Load_ok {p d : Nat} {bs : List Int} (at_ wd : Int) (w : World) (h : Ar w p d bs) (hw : WOk wd) (ha : 0 ≤ at_) (hb : at_ ≤ bs.length - wd) :
    Calls Try.prog 20 #[.pointer (some ⟨p, 0, none⟩), .int .i64 at_, .int .i64 wd] w fun e w' =>
      e = .returned (.tuple #[.int .u64 (ldv bs at_.toNat wd.toNat), .int .i64 0]) ∧ Below w.heap.size w w' := by
  obtain ⟨A, rfl⟩ := Int.eq_ofNat_of_zero_le ha
  obtain ⟨W, rfl⟩ := Int.eq_ofNat_of_zero_le (show 0 ≤ wd by unfold WOk at hw; omega)
  have H := Lib.hid hw
  have HA := Lib.hid h
  have hlen := h.len
  have hW : 1 ≤ W ∧ W ≤ 8 := by unfold WOk at hw; omega
  have hb' : A + W ≤ bs.length := by omega
  clear hw h
  obtain ⟨hw1, hw2⟩ := hW
  go_enter Try.func20, Try.ntmps20
  go_wp2_with fail
  refine (part_ok (A : Int) (W : Int) _ HA.out H.out ha hb).mono ?_
  rintro e w' ⟨rfl, hB⟩
  have HA' := Lib.hid (HA.out.below hB)
  have HB := Lib.hid hB
  clear hB
  rw [Int.toNat_natCast, Int.toNat_natCast]
  go_wp2
  go_loop [10, 21] (fun v i => ∃ k : Nat, k ≤ W ∧ i = .int .i64 k ∧ v = .int .u64 (ldv bs A k)) (fun _ i => W - (intOf i).toNat)
  case atStart => exact ⟨0, by omega, rfl, rfl⟩
  case round =>
    obtain ⟨k, hk, rfl, rfl⟩ := hrel
    by_cases hlt : k < W
    · have hcell := HA'.out.byte (A + k) (by omega)
      obtain ⟨hc1, hc2, hc3⟩ := hcell
      go_wp2
      go_round
      case rel => 
        refine ⟨k + 1, by omega, by go_num, ?_⟩
        have hr := ldv_range bs HA.out.rng A k
        rw [or_step (ldv bs A k) (gb bs (A + k)) k hr.1 hr.2 hc2 hc3 (by omega)]
        rfl
      case measure => simp [intOf]; omega
    · obtain rfl : k = W := by omega
      go_wp2
      go_ret2
      exact ⟨rfl, HB.out⟩
def put (bs : List Int) (at_ : Nat) (f : Nat → Int) : Nat → List Int
  | 0 => bs
  | k + 1 => (put bs at_ f k).set (at_ + k) (f k)
def byteOf (v : Int) (k : Nat) : Int := v / 256 ^ k % 256
def stv (bs : List Int) (at_ : Nat) (v : Int) (k : Nat) : List Int := put bs at_ (byteOf v) k
theorem put_length (bs : List Int) (at_ : Nat) (f : Nat → Int) : ∀ k, (put bs at_ f k).length = bs.length
  | 0 => rfl
  | k + 1 => by simp [put, put_length bs at_ f k]
theorem stv_length (bs : List Int) (at_ : Nat) (v : Int) (k : Nat) : (stv bs at_ v k).length = bs.length := put_length _ _ _ _
theorem Ar.frozen {w : World} {p d : Nat} {bs : List Int} (h : Ar w p d bs) (i : Nat) : w.frozen? ⟨d, i, none⟩ = false := by
  have := h.row
  simp [World.frozen?, this]
theorem Ar.set {w : World} {p d : Nat} {bs : List Int} (h : Ar w p d bs) (i : Nat) (x : Int) (hx : 0 ≤ x ∧ x ≤ 255) : Ar (w.setCell ⟨d, i, none⟩ (.int .u8 x)) p d (bs.set i x) := by
  refine ⟨?_, ?_, h.ne, by simpa using h.len, ?_⟩
  · rw [Below.heap_setCell w ⟨d, i, none⟩ _ p h.ne, List.length_set]
    exact h.hdr
  · have hr := h.row
    simp [World.setCell, Array.getElem?_modify, hr]
  · intro y hy
    rcases List.mem_or_eq_of_mem_set hy with hy | hy
    · exact h.rng y hy
    · subst hy; exact hx
theorem only_setCell {a w : World} {g : Nat} (h : a.grownBy w (some g)) {p : Addr} (hp : p.block = g ∨ a.heap.size ≤ p.block) (u : Value) : a.grownBy (w.setCell p u) (some g) :=
  ⟨h.os, h.tape, h.output, by simpa [World.setCell] using h.size, fun i hi hne => (Below.heap_setCell w p u i (by
    rintro rfl
    rcases hp with hp | hp
    · exact hne (by rw [hp])
    · omega)).trans (h.block i hi hne)⟩
theorem only_of_below {a w : World} (h : Below a.heap.size a w) (row : Option Nat) : a.grownBy w row := ⟨h.os, h.tape, h.output, h.size, fun i hi _ => h.block i hi⟩
theorem Store_bad (p : Value) (at_ wd v : Int) (w : World) (hw : ¬ WOk wd) :
    Calls Try.prog 28 #[p, .int .i64 at_, .int .i64 wd, .int .u64 v] w fun e w' => e = .returned (.int .i64 1) ∧ Below w.heap.size w w' := by
  have H := Lib.hid hw
  clear hw
  go_enter Try.func28, Try.ntmps28
  go_wp2_with fail
  refine (part_bad p at_ wd _ H.out).mono ?_
  rintro e w' ⟨rfl, hb⟩
  go_wp2
  refine wp_loop_rounds 1 ?_
  rw [rounds_succ]
  go_wp2
  go_ret
  exact ⟨rfl, hb⟩
theorem Store_far (p : Value) (n at_ wd v : Int) (w : World) (hw : WOk wd) (hn0 : 0 ≤ n) (hn1 : n ≤ 65536) (hL : Tells w p n) (hfar : at_ < 0 ∨ n - wd < at_) :
    Calls Try.prog 28 #[p, .int .i64 at_, .int .i64 wd, .int .u64 v] w fun e w' => e = .returned (.int .i64 4) ∧ Below w.heap.size w w' := by
  have H := Lib.hid (And.intro hw (And.intro hn0 (And.intro hn1 (And.intro hL hfar))))
  clear hw hn0 hn1 hL hfar
  go_enter Try.func28, Try.ntmps28
  go_wp2_with fail
  refine (part_far p n at_ wd _ H.out.1 H.out.2.1 H.out.2.2.1 H.out.2.2.2.1 H.out.2.2.2.2).mono ?_
  rintro e w' ⟨rfl, hb⟩
  go_wp2
  refine wp_loop_rounds 1 ?_
  rw [rounds_succ]
  go_wp2
  go_ret
  exact ⟨rfl, hb⟩
theorem Store_ok {p d : Nat} {bs : List Int} (at_ wd v : Int) (w : World) (h : Ar w p d bs) (hw : WOk wd) (ha : 0 ≤ at_) (hb : at_ ≤ bs.length - wd) (hv0 : 0 ≤ v) :
    Calls Try.prog 28 #[.pointer (some ⟨p, 0, none⟩), .int .i64 at_, .int .i64 wd, .int .u64 v] w fun e w' =>
      e = .returned (.int .i64 0) ∧ Ar w' p d (stv bs at_.toNat v wd.toNat) ∧ w.grownBy w' (some d) := by
  obtain ⟨A, rfl⟩ := Int.eq_ofNat_of_zero_le ha
  obtain ⟨W, rfl⟩ := Int.eq_ofNat_of_zero_le (show 0 ≤ wd by unfold WOk at hw; omega)
  have H := Lib.hid hw
  have HA := Lib.hid h
  have hlen := h.len
  have hW : 1 ≤ W ∧ W ≤ 8 := by unfold WOk at hw; omega
  have hb' : A + W ≤ bs.length := by omega
  clear hw h
  obtain ⟨hw1, hw2⟩ := hW
  go_enter Try.func28, Try.ntmps28
  go_wp2_with fail
  refine (part_ok (A : Int) (W : Int) _ HA.out H.out ha hb).mono ?_
  rintro e w' ⟨rfl, hB⟩
  have HA' := Lib.hid (HA.out.below hB)
  have HB := Lib.hid hB
  clear hB
  rw [Int.toNat_natCast, Int.toNat_natCast]
  go_wp2
  go_loopw [21] (fun i wr => ∃ k : Nat, k ≤ W ∧ i = .int .i64 k ∧ Ar wr p d (stv bs A v k) ∧ w.grownBy wr (some d)) (fun i _ => W - (intOf i).toNat)
  case atStart => exact ⟨0, by omega, rfl, HA'.out, only_of_below HB.out _⟩
  case round =>
    obtain ⟨k, hk, rfl, hA, hg⟩ := hrel
    by_cases hlt : k < W
    · have hcell := (hA.byte (A + k) (by rw [stv_length]; omega)).1
      have hfr := hA.frozen (A + k)
      have HAr := Lib.hid hA
      have HG := Lib.hid hg
      clear hA hg
      go_wp2
      go_roundw
      case rel =>
        refine ⟨k + 1, by omega, by go_num, ?_, only_setCell HG.out (.inl rfl) _⟩
        have e : v / 2 ^ (8 * k) % 256 = byteOf v k := by unfold byteOf; rw [Int.pow_mul]; rfl
        rw [e]
        exact HAr.out.set (A + k) _ (by unfold byteOf; omega)
      case measure => simp [intOf]; omega
    · obtain rfl : k = W := by omega
      have HAr := Lib.hid hA
      have HG := Lib.hid hg
      clear hA hg
      go_wp2
      go_ret
      exact ⟨rfl, HAr.out, HG.out⟩
end Go.Proofs.Ythkppnkhiimaeaa

/- The arena (layer 1): New, run, Fill and Bytes. -/
set_option linter.unusedVariables false
set_option linter.unusedSimpArgs false
namespace Go.Proofs.Ythkppnkhiimaeaa
open Go.RowKit
theorem info_u8 : (Try.prog.info? 5).map (fun i => (i.zero, i.size, i.bytes)) = some (some (.int .u8 0), 1, 1) := by kernel_rfl
theorem madeCells_u8 (n : Nat) : madeCells #[Value.int .u8 0] n = ((List.replicate n (0 : Int)).map (Value.int .u8)).toArray := by
  apply Array.toList_inj.1
  rw [toList_madeCells_one]
  simp
def zeros (n : Nat) : List Int := List.replicate n 0
theorem zeros_length (n : Nat) : (zeros n).length = n := List.length_replicate
theorem New_ok (n : Int) (w : World) (h0 : 0 ≤ n) (h1 : n ≤ 65536) :
    Calls Try.prog 32 #[.int .i64 n] w fun e w' => ∃ p d : Nat, e = .returned (.tuple #[.pointer (some ⟨p, 0, none⟩), .int .i64 0]) ∧
      Ar w' p d (zeros n.toNat) ∧ w.heap.size ≤ p ∧ w.heap.size ≤ d ∧ Below w.heap.size w w' := by
  obtain ⟨N, rfl⟩ := Int.eq_ofNat_of_zero_le h0
  have hmk := fun W => run_make_row' (P := Try.prog) 58 5 (.int .u8 0) 1 Try.underlying58 info_u8 rfl .i64 .i64 N (by omega) (by omega) W
  rw [Int.toNat_natCast]
  unfold zeros
  have HM := Lib.hid (madeCells_u8 N)
  go_enter Try.func32, Try.ntmps32
  go_wp2
  go_ret2
  refine ⟨w.heap.size + 1, w.heap.size, rfl, ⟨?_, ?_, by omega, by simp; omega, ?_⟩, by omega, by omega, ?_⟩
  · rw [List.length_replicate]
    have := heap_alloc_new (w.alloc (.cells (madeCells #[Value.int .u8 0] N) 5)) (.cells #[.slice (some ⟨w.heap.size, 0, none⟩) N N] 89)
    simpa using this
  · rw [← HM.out]
    exact (Below.heap_alloc _ _ w.heap.size (by simp)).trans (heap_alloc_new w _)
  · intro x hx
    have := List.eq_of_mem_replicate hx
    omega
  · exact ((Below.refl _ _).alloc (Nat.le_refl _) _).alloc (by simp) _
theorem run_bad (p : Value) (at_ n : Int) (w : World) (h : n < 0) :
    Calls Try.prog 60 #[p, .int .i64 at_, .int .i64 n] w fun e w' => e = .returned (.tuple #[.slice none 0 0, .int .i64 1]) ∧ w = w' := by
  go_enter Try.func60, Try.ntmps60
  go_wp2
  go_ret2
  exact ⟨rfl, rfl⟩
theorem run_far (p : Value) (m at_ n : Int) (w : World) (hm0 : 0 ≤ m) (hm1 : m ≤ 65536) (hL : Tells w p m) (hn0 : 0 ≤ n) (hn1 : n ≤ 9223372036854775807) (hfar : at_ < 0 ∨ m - n < at_) :
    Calls Try.prog 60 #[p, .int .i64 at_, .int .i64 n] w fun e w' => e = .returned (.tuple #[.slice none 0 0, .int .i64 4]) ∧ w = w' := by
  have HL := Lib.hid hL
  clear hL
  by_cases ha : at_ < 0
  · clear hfar
    go_enter Try.func60, Try.ntmps60
    go_wp2
    go_ret2
    exact ⟨rfl, rfl⟩
  · have hfar' : m - n < at_ := by omega
    clear hfar
    go_enter Try.func60, Try.ntmps60
    go_wp2_with fail
    refine (HL.out _ (Below.refl _ _)).mono ?_
    rintro e w' ⟨rfl, rfl⟩
    go_wp2
    go_ret2
    exact ⟨rfl, rfl⟩
theorem run_none (p : Value) (m at_ : Int) (w : World) (hm1 : m ≤ 65536) (hL : Tells w p m) (ha : 0 ≤ at_) (hb : at_ ≤ m) :
    Calls Try.prog 60 #[p, .int .i64 at_, .int .i64 0] w fun e w' => e = .returned (.tuple #[.slice none 0 0, .int .i64 0]) ∧ w = w' := by
  have HL := Lib.hid hL
  clear hL
  go_enter Try.func60, Try.ntmps60
  go_wp2_with fail
  refine (HL.out _ (Below.refl _ _)).mono ?_
  rintro e w' ⟨rfl, rfl⟩
  go_wp2
  go_ret2
  exact ⟨rfl, rfl⟩
theorem run_ok {p d : Nat} {bs : List Int} (at_ n : Int) (w : World) (h : Ar w p d bs) (hn : 1 ≤ n) (ha : 0 ≤ at_) (hb : at_ ≤ bs.length - n) :
    Calls Try.prog 60 #[.pointer (some ⟨p, 0, none⟩), .int .i64 at_, .int .i64 n] w fun e w' =>
      e = .returned (.tuple #[.slice (some ⟨d, at_.toNat, none⟩) n.toNat (bs.length - at_.toNat), .int .i64 0]) ∧ w = w' := by
  have hL := h.tells
  have HL := Lib.hid hL
  have hlen := h.len
  have hc := h.hdrCell
  clear h hL
  have hn0 : (n == 0) = false := beq_eq_false_iff_ne.2 (by omega)
  go_enter Try.func60, Try.ntmps60
  go_wp2_with fail
  refine (HL.out _ (Below.refl _ _)).mono ?_
  rintro e w' ⟨rfl, rfl⟩
  go_wp2
  go_ret2
  have e : (at_ + n).toNat - at_.toNat = n.toNat := by omega
  exact ⟨ret2 (by simp [e]) rfl, rfl⟩
theorem Fill_bad (p : Value) (at_ n c : Int) (w : World) (h : n < 0) :
    Calls Try.prog 37 #[p, .int .i64 at_, .int .i64 n, .int .u8 c] w fun e w' => e = .returned (.int .i64 1) ∧ w = w' := by
  go_enter Try.func37, Try.ntmps37
  go_wp2_with fail
  refine (run_bad p at_ n _ h).mono ?_
  rintro e w' ⟨rfl, rfl⟩
  go_wp2
  refine wp_loop_rounds 1 ?_
  rw [rounds_succ]
  go_wp2
  go_ret
  exact ⟨rfl, rfl⟩
theorem Fill_far (p : Value) (m at_ n c : Int) (w : World) (hm0 : 0 ≤ m) (hm1 : m ≤ 65536) (hL : Tells w p m) (hn0 : 0 ≤ n) (hn1 : n ≤ 9223372036854775807) (hfar : at_ < 0 ∨ m - n < at_) :
    Calls Try.prog 37 #[p, .int .i64 at_, .int .i64 n, .int .u8 c] w fun e w' => e = .returned (.int .i64 4) ∧ w = w' := by
  have H := Lib.hid (And.intro hm0 (And.intro hm1 (And.intro hL (And.intro hn0 (And.intro hn1 hfar)))))
  clear hm0 hm1 hL hn0 hn1 hfar
  go_enter Try.func37, Try.ntmps37
  go_wp2_with fail
  refine (run_far p m at_ n _ H.out.1 H.out.2.1 H.out.2.2.1 H.out.2.2.2.1 H.out.2.2.2.2.1 H.out.2.2.2.2.2).mono ?_
  rintro e w' ⟨rfl, rfl⟩
  go_wp2
  refine wp_loop_rounds 1 ?_
  rw [rounds_succ]
  go_wp2
  go_ret
  exact ⟨rfl, rfl⟩
theorem Fill_none (p : Value) (m at_ c : Int) (w : World) (hm1 : m ≤ 65536) (hL : Tells w p m) (ha : 0 ≤ at_) (hb : at_ ≤ m) :
    Calls Try.prog 37 #[p, .int .i64 at_, .int .i64 0, .int .u8 c] w fun e w' => e = .returned (.int .i64 0) ∧ w = w' := by
  have HL := Lib.hid hL
  clear hL
  go_enter Try.func37, Try.ntmps37
  go_wp2_with fail
  refine (run_none p m at_ _ hm1 HL.out ha hb).mono ?_
  rintro e w' ⟨rfl, rfl⟩
  go_wp2
  refine wp_loop_rounds 1 ?_
  rw [rounds_succ]
  go_wp2
  go_ret
  exact ⟨rfl, rfl⟩
theorem Fill_ok {p d : Nat} {bs : List Int} (at_ n c : Int) (w : World) (h : Ar w p d bs) (hn : 1 ≤ n) (ha : 0 ≤ at_) (hb : at_ ≤ bs.length - n) (hc0 : 0 ≤ c) (hc1 : c ≤ 255) :
    Calls Try.prog 37 #[.pointer (some ⟨p, 0, none⟩), .int .i64 at_, .int .i64 n, .int .u8 c] w fun e w' =>
      e = .returned (.int .i64 0) ∧ Ar w' p d (put bs at_.toNat (fun _ => c) n.toNat) ∧ w.grownBy w' (some d) := by
  obtain ⟨A, rfl⟩ := Int.eq_ofNat_of_zero_le ha
  obtain ⟨N, rfl⟩ := Int.eq_ofNat_of_zero_le (show 0 ≤ n by omega)
  have HA := Lib.hid h
  have hlen := h.len
  have hb' : A + N ≤ bs.length := by omega
  clear h
  go_enter Try.func37, Try.ntmps37
  go_wp2_with fail
  refine (run_ok (A : Int) (N : Int) _ HA.out hn ha hb).mono ?_
  rintro e w' ⟨rfl, rfl⟩
  rw [Int.toNat_natCast, Int.toNat_natCast]
  go_wp2
  go_loopw [21] (fun i wr => ∃ k : Nat, k ≤ N ∧ i = .int .i64 k ∧ Ar wr p d (put bs A (fun _ => c) k) ∧ w.grownBy wr (some d)) (fun i _ => N - (intOf i).toNat)
  case atStart => exact ⟨0, by omega, rfl, HA.out, World.grownBy.refl _ _⟩
  case round =>
    obtain ⟨k, hk, rfl, hA, hg⟩ := hrel
    by_cases hlt : k < N
    · have hcell := (hA.byte (A + k) (by rw [put_length]; omega)).1
      have hfr := hA.frozen (A + k)
      have HAr := Lib.hid hA
      have HG := Lib.hid hg
      clear hA hg
      go_wp2
      go_roundw
      case rel => exact ⟨k + 1, by omega, by go_num, HAr.out.set (A + k) _ ⟨hc0, hc1⟩, only_setCell HG.out (.inl rfl) _⟩
      case measure => simp [intOf]; omega
    · obtain rfl : k = N := by omega
      have HAr := Lib.hid hA
      have HG := Lib.hid hg
      clear hA hg
      go_wp2
      go_ret
      exact ⟨rfl, HAr.out, HG.out⟩
def Bk (w : World) (g : Nat) (bs : List Int) : Prop := w.heap[g]? = some (.cells (bs.map (Value.int .u8)).toArray 5 (0, 0))
theorem Bk.lt {w : World} {g : Nat} {bs : List Int} (h : Bk w g bs) : g < w.heap.size := by
  rcases Nat.lt_or_ge g w.heap.size with hlt | hge
  · exact hlt
  · unfold Bk at h; rw [Array.getElem?_eq_none hge] at h; cases h
theorem Bk.below {w w' : World} {g : Nat} {bs : List Int} (h : Bk w g bs) (hb : Below w.heap.size w w') : Bk w' g bs := (hb.block g h.lt).trans h
theorem Bk.byte {w : World} {g : Nat} {bs : List Int} (h : Bk w g bs) (i : Nat) (hi : i < bs.length) : w.cell? ⟨g, i, none⟩ = some (.int .u8 (gb bs i)) := by
  unfold gb
  rw [cell_of_row w g i _ _ _ h]
  simp [List.getElem?_eq_getElem hi]
theorem add_at (d i j : Nat) : (⟨d, i, none⟩ : Addr).add j = ⟨d, i + j, none⟩ := by unfold Addr.add; split <;> simp_all
end Go.Proofs.Ythkppnkhiimaeaa

/- The arena (layer 1): each function's answer at whatever is asked; plain lemmas on bytes. -/
set_option linter.unusedVariables false
set_option linter.unusedSimpArgs false
namespace Go.Proofs.Ythkppnkhiimaeaa
open Go.RowKit
def nErr (n at_ wd : Int) : Int := if WOk wd then (if at_ < 0 ∨ n - wd < at_ then 4 else 0) else 1
def rErr (n at_ m : Int) : Int := if m < 0 then 1 else if at_ < 0 ∨ n - m < at_ then 4 else 0
def ldA (bs : List Int) (at_ wd : Int) : Int := if nErr bs.length at_ wd = 0 then ldv bs at_.toNat wd.toNat else 0
def stA (bs : List Int) (at_ wd v : Int) : List Int := if nErr bs.length at_ wd = 0 then stv bs at_.toNat v wd.toNat else bs
def fillA (bs : List Int) (at_ m c : Int) : List Int := if rErr bs.length at_ m = 0 then put bs at_.toNat (fun _ => c) m.toNat else bs
theorem nErr_bad {n at_ wd : Int} (h : ¬ WOk wd) : nErr n at_ wd = 1 := by simp [nErr, h]
theorem nErr_far {n at_ wd : Int} (h : WOk wd) (h1 : at_ < 0 ∨ n - wd < at_) : nErr n at_ wd = 4 := by simp [nErr, h, h1]
theorem nErr_ok {n at_ wd : Int} (h : WOk wd) (h1 : 0 ≤ at_) (h2 : at_ ≤ n - wd) : nErr n at_ wd = 0 := by simp only [nErr, h, if_true]; rw [if_neg (by omega)]
theorem nErr_zero {n at_ wd : Int} (h : nErr n at_ wd = 0) : WOk wd ∧ 0 ≤ at_ ∧ at_ ≤ n - wd := by
  unfold nErr at h
  split at h
  · rename_i hw
    split at h
    · omega
    · exact ⟨hw, by omega, by omega⟩
  · omega
theorem rErr_ok {n at_ m : Int} (h : 0 ≤ m) (h1 : 0 ≤ at_) (h2 : at_ ≤ n - m) : rErr n at_ m = 0 := by unfold rErr; rw [if_neg (by omega), if_neg (by omega)]
theorem Load_any {p d : Nat} {bs : List Int} (at_ wd : Int) (w : World) (h : Ar w p d bs) :
    Calls Try.prog 20 #[.pointer (some ⟨p, 0, none⟩), .int .i64 at_, .int .i64 wd] w fun e w' =>
      e = .returned (.tuple #[.int .u64 (ldA bs at_ wd), .int .i64 (nErr bs.length at_ wd)]) ∧ Below w.heap.size w w' := by
  have hlen := h.len
  by_cases hw : WOk wd
  · by_cases hf : at_ < 0 ∨ (bs.length : Int) - wd < at_
    · have e := nErr_far (n := bs.length) hw hf
      rw [show ldA bs at_ wd = 0 from by unfold ldA; rw [if_neg (by omega)], e]
      exact Load_far _ bs.length at_ wd w hw (by omega) (by omega) h.tells hf
    · have e := nErr_ok (n := bs.length) hw (show 0 ≤ at_ by omega) (by omega)
      rw [show ldA bs at_ wd = ldv bs at_.toNat wd.toNat from by unfold ldA; rw [if_pos e], e]
      exact Load_ok at_ wd w h hw (by omega) (by omega)
  · have e := nErr_bad (n := bs.length) (at_ := at_) hw
    rw [show ldA bs at_ wd = 0 from by unfold ldA; rw [if_neg (by omega)], e]
    exact Load_bad _ at_ wd w hw
theorem Store_any {p d : Nat} {bs : List Int} (at_ wd v : Int) (w : World) (h : Ar w p d bs) (hv : 0 ≤ v) :
    Calls Try.prog 28 #[.pointer (some ⟨p, 0, none⟩), .int .i64 at_, .int .i64 wd, .int .u64 v] w fun e w' =>
      e = .returned (.int .i64 (nErr bs.length at_ wd)) ∧ Ar w' p d (stA bs at_ wd v) ∧ w.grownBy w' (some d) := by
  have hlen := h.len
  by_cases hw : WOk wd
  · by_cases hf : at_ < 0 ∨ (bs.length : Int) - wd < at_
    · have e := nErr_far (n := bs.length) hw hf
      rw [show stA bs at_ wd v = bs from by unfold stA; rw [if_neg (by omega)], e]
      exact (Store_far _ bs.length at_ wd v w hw (by omega) (by omega) h.tells hf).mono fun _ _ ⟨h1, h2⟩ => ⟨h1, h.below h2, only_of_below h2 _⟩
    · have e := nErr_ok (n := bs.length) hw (show 0 ≤ at_ by omega) (by omega)
      rw [show stA bs at_ wd v = stv bs at_.toNat v wd.toNat from by unfold stA; rw [if_pos e], e]
      exact Store_ok at_ wd v w h hw (by omega) (by omega) hv
  · have e := nErr_bad (n := bs.length) (at_ := at_) hw
    rw [show stA bs at_ wd v = bs from by unfold stA; rw [if_neg (by omega)], e]
    exact (Store_bad _ at_ wd v w hw).mono fun _ _ ⟨h1, h2⟩ => ⟨h1, h.below h2, only_of_below h2 _⟩
theorem Fill_any {p d : Nat} {bs : List Int} (at_ m c : Int) (w : World) (h : Ar w p d bs) (hm : m ≤ 9223372036854775807) (hc0 : 0 ≤ c) (hc1 : c ≤ 255) :
    Calls Try.prog 37 #[.pointer (some ⟨p, 0, none⟩), .int .i64 at_, .int .i64 m, .int .u8 c] w fun e w' =>
      e = .returned (.int .i64 (rErr bs.length at_ m)) ∧ Ar w' p d (fillA bs at_ m c) ∧ w.grownBy w' (some d) := by
  have hlen := h.len
  unfold fillA rErr
  by_cases hn : m < 0
  · rw [if_pos hn, if_neg (by omega)]
    refine (Fill_bad _ at_ m c w hn).mono ?_
    rintro e w' ⟨h1, rfl⟩
    exact ⟨h1, h, World.grownBy.refl _ _⟩
  · rw [if_neg hn]
    by_cases hf : at_ < 0 ∨ (bs.length : Int) - m < at_
    · rw [if_pos hf, if_neg (by omega)]
      refine (Fill_far _ bs.length at_ m c w (by omega) (by omega) h.tells (by omega) hm hf).mono ?_
      rintro e w' ⟨h1, rfl⟩
      exact ⟨h1, h, World.grownBy.refl _ _⟩
    · rw [if_neg hf, if_pos rfl]
      by_cases h0 : m = 0
      · subst h0
        refine (Fill_none _ bs.length at_ c w (by omega) h.tells (by omega) (by omega)).mono ?_
        rintro e w' ⟨h1, rfl⟩
        exact ⟨h1, h, World.grownBy.refl _ _⟩
      · exact Fill_ok at_ m c w h (by omega) (by omega) (by omega) hc0 hc1
/-! ### Plain lemmas -/
theorem gb_set (bs : List Int) (i j : Nat) (x : Int) : gb (bs.set i x) j = if i = j ∧ j < bs.length then x else gb bs j := by
  unfold gb
  rw [List.getD_eq_getElem?_getD, List.getD_eq_getElem?_getD, List.getElem?_set]
  by_cases h : i = j
  · subst h
    by_cases hl : i < bs.length <;> simp [hl]
  · simp [h]
theorem gb_put (bs : List Int) (at_ : Nat) (f : Nat → Int) (j : Nat) : ∀ k, gb (put bs at_ f k) j = if at_ ≤ j ∧ j < at_ + k ∧ j < bs.length then f (j - at_) else gb bs j
  | 0 => by rw [if_neg (by omega)]; rfl
  | k + 1 => by
    show gb ((put bs at_ f k).set (at_ + k) (f k)) j = _
    rw [gb_set, gb_put bs at_ f j k, put_length]
    by_cases h1 : at_ + k = j ∧ j < bs.length
    · rw [if_pos h1, if_pos (by omega)]
      congr 1
      omega
    · rw [if_neg h1]
      by_cases h2 : at_ ≤ j ∧ j < at_ + k ∧ j < bs.length
      · rw [if_pos h2, if_pos (by omega)]
      · rw [if_neg h2, if_neg (by omega)]
theorem ldv_congr (xs ys : List Int) (a b : Nat) : ∀ k, (∀ j, j < k → gb xs (a + j) = gb ys (b + j)) → ldv xs a k = ldv ys b k
  | 0, _ => rfl
  | k + 1, h => by
    show ldv xs a k + gb xs (a + k) * 256 ^ k = ldv ys b k + gb ys (b + k) * 256 ^ k
    rw [ldv_congr xs ys a b k (fun j hj => h j (by omega)), h k (by omega)]
theorem ldv_bytes (xs : List Int) (a : Nat) (v : Int) : ∀ k, (∀ j, j < k → gb xs (a + j) = byteOf v j) → ldv xs a k = v % 256 ^ k
  | 0, _ => by simp [ldv]
  | k + 1, h => by
    show ldv xs a k + gb xs (a + k) * 256 ^ k = _
    rw [ldv_bytes xs a v k (fun j hj => h j (by omega)), h k (by omega)]
    unfold byteOf
    have e : v % 256 ^ (k + 1) = v % 256 ^ k + (v / 256 ^ k % 256) * 256 ^ k := by
      have hp : (0 : Int) < 256 ^ k := Int.pow_pos (by omega)
      have h1 := Int.mul_ediv_add_emod v (256 ^ (k + 1))
      have h2 := Int.mul_ediv_add_emod v (256 ^ k)
      have h3 := Int.mul_ediv_add_emod (v / 256 ^ k) 256
      have h4 : v / 256 ^ (k + 1) = v / 256 ^ k / 256 := by rw [Int.pow_succ, Int.ediv_ediv_of_nonneg (by omega)]
      rw [h4] at h1
      rw [Int.pow_succ] at h1 ⊢
      generalize v / 256 ^ k / 256 = q at *
      generalize v / 256 ^ k % 256 = r at *
      generalize v / 256 ^ k = u at *
      generalize (256 : Int) ^ k = P at *
      have : P * u = P * (256 * q + r) := by rw [h3]
      rw [Int.mul_add] at this
      have e1 : P * (256 * q) = P * 256 * q := by rw [Int.mul_assoc]
      have e2 : r * P = P * r := Int.mul_comm _ _
      omega
    rw [e]
theorem ldv_stv (bs : List Int) (at_ : Nat) (v : Int) (k : Nat) (h : at_ + k ≤ bs.length) : ldv (stv bs at_ v k) at_ k = v % 256 ^ k := by
  apply ldv_bytes
  intro j hj
  unfold stv
  rw [gb_put, if_pos (by omega)]
  congr 1
  omega
theorem ldv_stv_other (bs : List Int) (at_ to k m : Nat) (v : Int) (h : at_ + k ≤ to ∨ to + m ≤ at_) : ldv (stv bs at_ v k) to m = ldv bs to m := by
  apply ldv_congr
  intro j hj
  unfold stv
  rw [gb_put, if_neg (by omega)]
theorem stA_length (bs : List Int) (at_ wd v : Int) : (stA bs at_ wd v).length = bs.length := by unfold stA; split; exact stv_length _ _ _ _; rfl
theorem fillA_length (bs : List Int) (at_ m c : Int) : (fillA bs at_ m c).length = bs.length := by unfold fillA; split; exact put_length _ _ _ _; rfl
end Go.Proofs.Ythkppnkhiimaeaa

/- One arena of the call's own: each function's step. -/
set_option linter.unusedVariables false
set_option linter.unusedSimpArgs false
namespace Go.Proofs.Ythkppnkhiimaeaa
open Go.RowKit
theorem grown_below {B : Nat} {w w1 w2 : World} (h : Below B w w1) {g : Nat} (hg : w1.grownBy w2 (some g)) (hB : B ≤ g) (hs : B ≤ w1.heap.size) : Below B w w2 :=
  h.grown hg hs (fun k hk => by injection hk with hk; omega)
theorem below_then {B : Nat} {w w1 w2 : World} (h : Below B w w1) (hB : B ≤ w1.heap.size) (k : Below w1.heap.size w1 w2) : Below B w w2 :=
  h.trans ⟨k.os, k.tape, k.output, k.size, fun i hi => k.block i (Nat.lt_of_lt_of_le hi hB)⟩
structure Kept (w0 w : World) : Prop where
  below : Below w0.heap.size w0 w
theorem Kept.refl (w : World) : Kept w w := ⟨Below.refl _ _⟩
theorem Kept.then_ {w0 w w1 : World} (h : Kept w0 w) (k : Below w.heap.size w w1) : Kept w0 w1 := ⟨below_then h.below h.below.size k⟩
structure One (w0 w : World) (p d : Nat) (bs : List Int) : Prop where
  kept : Kept w0 w
  ar : Ar w p d bs
  new : w0.heap.size ≤ d
theorem One.then_ {w0 w w1 : World} {p d : Nat} {bs : List Int} (h : One w0 w p d bs) (k : Below w.heap.size w w1) : One w0 w1 p d bs := ⟨h.kept.then_ k, h.ar.below k, h.new⟩
theorem New_st {w0 w : World} (K : Kept w0 w) (n : Int) (h0 : 0 ≤ n) (h1 : n ≤ 65536) :
    Calls Try.prog 32 #[.int .i64 n] w fun e w' => ∃ p d : Nat, e = .returned (.tuple #[.pointer (some ⟨p, 0, none⟩), .int .i64 0]) ∧ One w0 w' p d (zeros n.toNat) := by
  refine (New_ok n w h0 h1).mono ?_
  rintro e w' ⟨p, d, h, hA, hp, hd, hB⟩
  exact ⟨p, d, h, K.then_ hB, hA, Nat.le_trans K.below.size hd⟩
theorem ldA_stA {bs : List Int} {at_ wd v : Int} (h : nErr bs.length at_ wd = 0) : ldA (stA bs at_ wd v) at_ wd = v % 256 ^ wd.toNat := by
  have ⟨hw, h0, h1⟩ := nErr_zero h
  have hw' : 1 ≤ wd ∧ wd ≤ 8 := by unfold WOk at hw; omega
  unfold ldA
  rw [stA_length, if_pos h]
  unfold stA
  rw [if_pos h]
  exact ldv_stv _ _ _ _ (by omega)
theorem ldA_stA_other {bs : List Int} {at_ wd v to k : Int} (h : nErr bs.length at_ wd = 0) (hk : to + k ≤ at_ ∨ at_ + wd ≤ to) : ldA (stA bs at_ wd v) to k = ldA bs to k := by
  have ⟨hw, h0, h1⟩ := nErr_zero h
  unfold ldA
  rw [stA_length]
  split
  · rename_i hz
    have ⟨hw2, h2, h3⟩ := nErr_zero hz
    have hw' : 1 ≤ wd ∧ wd ≤ 8 := by unfold WOk at hw; omega
    have hk' : 1 ≤ k ∧ k ≤ 8 := by unfold WOk at hw2; omega
    unfold stA
    rw [if_pos h]
    apply ldv_stv_other
    omega
  · rfl
end Go.Proofs.Ythkppnkhiimaeaa
