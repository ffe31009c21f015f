/- The arena (layer 1): what each of its functions answers, and what it leaves in memory. -/
import Derived.Test.YthkppnkhiimaeaaProg
import Derived.Below
import Derived.Deep.Draws
import Derived.Laws.OwnMore
import Derived.Laws.Rows
import Derived.Laws.MakeOwn
import Derived.Laws.Slices
import Derived.OwnWalk
import Derived.WalkKit
import Derived.KernelRfl
import Derived.Deep.LoopGhost
import Derived.Deep.QuietTactic
import Derived.BigQuiet
import Derived.Lib.Hide
import Derived.IntWalk
import Derived.WalkSmall
import Derived.WalkSpells
import Derived.WalkLawsBesides
import Derived.Deep.OwnRows
set_option linter.unusedVariables false
set_option linter.unusedSimpArgs false
namespace Go.Proofs.Ythkppnkhiimaeaa
open Go.RowKit

theorem ret_bool {a b : Bool} (h : a = b) : Ending.returned (.bool a) = .returned (.bool b) := by rw [h]
theorem ret2 {a b a' b' : Value} (h : a = a') (h2 : b = b') : Ending.returned (.tuple #[a, b]) = .returned (.tuple #[a', b']) := by rw [h, h2]
theorem ret_int {k : IntKind} {a b : Int} (h : a = b) : Ending.returned (.int k a) = .returned (.int k b) := by rw [h]

/-- An arena in memory: its header in block p, its bytes in block d. -/
structure Ar (w : World) (p d : Nat) (bs : List Int) : Prop where
  hdr : w.heap[p]? = some (.cells #[.slice (some ⟨d, 0, none⟩) bs.length bs.length] 89 (0, 0))
  row : w.heap[d]? = some (.cells (bs.map (Value.int .u8)).toArray 5 (0, 0))
  ne : p ≠ d
  len : bs.length ≤ 65536
  rng : ∀ x ∈ bs, 0 ≤ x ∧ x ≤ 255

theorem Ar.hdrCell {w : World} {p d : Nat} {bs : List Int} (h : Ar w p d bs) : w.cell? ⟨p, 0, none⟩ = some (.slice (some ⟨d, 0, none⟩) bs.length bs.length) := by
  rw [cell_of_row w p 0 _ _ _ h.hdr]; rfl

theorem Len_calls {w : World} {p d : Nat} {bs : List Int} (h : Ar w p d bs) :
    Calls Try.prog 63 #[.pointer (some ⟨p, 0, none⟩)] w fun e w' => e = .returned (.int .i64 (bs.length : Int)) ∧ w = w' := by
  have hc := h.hdrCell
  go_enter Try.func63, Try.ntmps63
  go_wp2
  go_ret
  exact ⟨rfl, rfl⟩
theorem Len_nil (w : World) :
    Calls Try.prog 63 #[.pointer none] w fun e w' => e = .returned (.int .i64 0) ∧ w = w' := by
  go_enter Try.func63, Try.ntmps63
  go_wp2
  go_ret
  exact ⟨rfl, rfl⟩

/-- The widths that a number may have. -/
def WOk (v : Int) : Prop := v = 1 ∨ v = 2 ∨ v = 4 ∨ v = 8
instance (v : Int) : Decidable (WOk v) := by unfold WOk; infer_instance
def ws4 : List Int := [1, 2, 4, 8]
def FirstOf (v r : Int) : Prop := (0 ≤ r ↔ WOk v)

theorem Index_calls (g : Nat) (v : Int) (w : World) (h : w.heap[g]? = some (.cells #[.int .i64 1, .int .i64 2, .int .i64 4, .int .i64 8] 90 (0, 0))) :
    Calls Try.prog 65 #[.slice (some ⟨g, 0, none⟩) 4 4, .int .i64 v] w fun e w' => ∃ r : Int, e = .returned (.int .i64 r) ∧ FirstOf v r ∧ w = w' := by
  have h0 : w.cell? ⟨g, 0, none⟩ = some (.int .i64 1) := by rw [cell_of_row w g 0 _ _ _ h]; rfl
  have h1 : w.cell? ⟨g, 1, none⟩ = some (.int .i64 2) := by rw [cell_of_row w g 1 _ _ _ h]; rfl
  have h2 : w.cell? ⟨g, 2, none⟩ = some (.int .i64 4) := by rw [cell_of_row w g 2 _ _ _ h]; rfl
  have h3 : w.cell? ⟨g, 3, none⟩ = some (.int .i64 8) := by rw [cell_of_row w g 3 _ _ _ h]; rfl
  clear h
  go_enter Try.func65, Try.ntmps65
  go_wp2
  go_loop [8] (fun i => ∃ k : Nat, k ≤ 4 ∧ i = .int .i64 k ∧ (1 ≤ k → v ≠ 1) ∧ (2 ≤ k → v ≠ 2) ∧ (3 ≤ k → v ≠ 4) ∧ (4 ≤ k → v ≠ 8)) (fun i => 4 - (intOf i).toNat)
  case atStart => exact ⟨0, by omega, rfl, by omega, by omega, by omega, by omega⟩
  case round =>
    obtain ⟨k, hk, rfl, g1, g2, g3, g4⟩ := hrel
    have G1 := Lib.hid g1
    have G2 := Lib.hid g2
    have G3 := Lib.hid g3
    have G4 := Lib.hid g4
    clear g1 g2 g3 g4
    obtain rfl | rfl | rfl | rfl | rfl : k = 0 ∨ k = 1 ∨ k = 2 ∨ k = 3 ∨ k = 4 := by omega
    · by_cases hv : v = 1
      · subst hv
        go_wp2
        go_ret
        exact ⟨0, rfl, by simp [FirstOf, WOk], rfl⟩
      · have hb : (v == 1) = false := beq_eq_false_iff_ne.2 hv
        go_wp2
        go_round
        case rel => exact ⟨1, by omega, by go_num, by omega, by omega, by omega, by omega⟩
        case measure => simp [intOf]
    · by_cases hv : v = 2
      · subst hv
        go_wp2
        go_ret
        exact ⟨1, rfl, by simp [FirstOf, WOk], rfl⟩
      · have hb : (v == 2) = false := beq_eq_false_iff_ne.2 hv
        go_wp2
        go_round
        case rel => exact ⟨2, by omega, by go_num, by have := G1.out; omega, by omega, by omega, by omega⟩
        case measure => simp [intOf]
    · by_cases hv : v = 4
      · subst hv
        go_wp2
        go_ret
        exact ⟨2, rfl, by simp [FirstOf, WOk], rfl⟩
      · have hb : (v == 4) = false := beq_eq_false_iff_ne.2 hv
        go_wp2
        go_round
        case rel => exact ⟨3, by omega, by go_num, by have := G1.out; omega, by have := G2.out; omega, by omega, by omega⟩
        case measure => simp [intOf]
    · by_cases hv : v = 8
      · subst hv
        go_wp2
        go_ret
        exact ⟨3, rfl, by simp [FirstOf, WOk], rfl⟩
      · have hb : (v == 8) = false := beq_eq_false_iff_ne.2 hv
        go_wp2
        go_round
        case rel => exact ⟨4, by omega, by go_num, by have := G1.out; omega, by have := G2.out; omega, by have := G3.out; omega, by omega⟩
        case measure => simp [intOf]
    · go_wp2
      go_ret
      refine ⟨-1, rfl, ?_, rfl⟩
      have := G1.out; have := G2.out; have := G3.out; have := G4.out
      unfold FirstOf WOk
      omega

theorem Contains_calls (g : Nat) (v : Int) (w : World) (h : w.heap[g]? = some (.cells #[.int .i64 1, .int .i64 2, .int .i64 4, .int .i64 8] 90 (0, 0))) :
    Calls Try.prog 64 #[.slice (some ⟨g, 0, none⟩) 4 4, .int .i64 v] w fun e w' => e = .returned (.bool (decide (WOk v))) ∧ w = w' := by
  have H := Lib.hid h
  clear h
  go_enter Try.func64, Try.ntmps64
  go_wp2_with fail
  refine (Index_calls g v _ H.out).mono ?_
  rintro e w' ⟨r, rfl, hr, rfl⟩
  go_wp2
  go_ret
  exact ⟨ret_bool (by rw [decide_eq_decide]; exact hr), rfl⟩

/-- What is asked of a pointer to an arena where nothing is within: its length is told, whatever else was made meanwhile. -/
def Tells (w : World) (p : Value) (n : Int) : Prop := ∀ W, Below w.heap.size w W → Calls Try.prog 63 #[p] W fun e w' => e = .returned (.int .i64 n) ∧ W = w'

theorem Ar.lt {w : World} {p d : Nat} {bs : List Int} (h : Ar w p d bs) : p < w.heap.size ∧ d < w.heap.size := by
  have hp := h.hdr
  have hd := h.row
  constructor
  · rcases Nat.lt_or_ge p w.heap.size with hlt | hge
    · exact hlt
    · rw [Array.getElem?_eq_none hge] at hp; cases hp
  · rcases Nat.lt_or_ge d w.heap.size with hlt | hge
    · exact hlt
    · rw [Array.getElem?_eq_none hge] at hd; cases hd

theorem Ar.below {w w' : World} {p d : Nat} {bs : List Int} (h : Ar w p d bs) (hb : Below w.heap.size w w') : Ar w' p d bs :=
  ⟨(hb.block p h.lt.1).trans h.hdr, (hb.block d h.lt.2).trans h.row, h.ne, h.len, h.rng⟩

theorem Ar.tells {w : World} {p d : Nat} {bs : List Int} (h : Ar w p d bs) : Tells w (.pointer (some ⟨p, 0, none⟩)) bs.length := fun _ hb => Len_calls (h.below hb)

theorem part_bad (p : Value) (at_ wd : Int) (w : World) (hw : ¬ WOk wd) :
    Calls Try.prog 50 #[p, .int .i64 at_, .int .i64 wd] w fun e w' => e = .returned (.tuple #[.slice none 0 0, .int .i64 1]) ∧ Below w.heap.size w w' := by
  have H := Lib.hid hw
  clear hw
  have hd : decide (WOk wd) = false := by simpa using H.out
  go_enter Try.func50, Try.ntmps50
  go_wp2_with fail
  refine (Contains_calls _ wd _ (heap_alloc_new _ _)).mono ?_
  rintro e w' ⟨rfl, rfl⟩
  go_wp2
  go_ret2
  exact ⟨rfl, (Below.refl _ _).alloc (Nat.le_refl _) _⟩

theorem part_far (p : Value) (n at_ wd : Int) (w : World) (hw : WOk wd) (hn0 : 0 ≤ n) (hn1 : n ≤ 65536) (hL : Tells w p n) (hfar : at_ < 0 ∨ n - wd < at_) :
    Calls Try.prog 50 #[p, .int .i64 at_, .int .i64 wd] w fun e w' => e = .returned (.tuple #[.slice none 0 0, .int .i64 4]) ∧ Below w.heap.size w w' := by
  have H := Lib.hid hw
  have HL := Lib.hid hL
  have hwd : 1 ≤ wd ∧ wd ≤ 8 := by unfold WOk at hw; omega
  clear hw hL
  obtain ⟨hw1, hw2⟩ := hwd
  have hd : decide (WOk wd) = true := by simpa using H.out
  by_cases ha : at_ < 0
  · clear hfar
    go_enter Try.func50, Try.ntmps50
    go_wp2_with fail
    refine (Contains_calls _ wd _ (heap_alloc_new _ _)).mono ?_
    rintro e w' ⟨rfl, rfl⟩
    go_wp2
    go_ret2
    exact ⟨rfl, (Below.refl _ _).alloc (Nat.le_refl _) _⟩
  · have hfar' : n - wd < at_ := by omega
    clear hfar
    go_enter Try.func50, Try.ntmps50
    go_wp2_with fail
    refine (Contains_calls _ wd _ (heap_alloc_new _ _)).mono ?_
    rintro e w' ⟨rfl, rfl⟩
    go_wp2_with fail
    refine (HL.out _ ((Below.refl _ _).alloc (Nat.le_refl _) _)).mono ?_
    rintro e w' ⟨rfl, rfl⟩
    go_wp2
    go_ret2
    exact ⟨rfl, (Below.refl _ _).alloc (Nat.le_refl _) _⟩

theorem part_ok {p d : Nat} {bs : List Int} (at_ wd : Int) (w : World) (h : Ar w p d bs) (hw : WOk wd) (ha : 0 ≤ at_) (hb : at_ ≤ bs.length - wd) :
    Calls Try.prog 50 #[.pointer (some ⟨p, 0, none⟩), .int .i64 at_, .int .i64 wd] w fun e w' =>
      e = .returned (.tuple #[.slice (some ⟨d, at_.toNat, none⟩) wd.toNat (bs.length - at_.toNat), .int .i64 0]) ∧ Below w.heap.size w w' := by
  have H := Lib.hid hw
  have hL := h.tells
  have HL := Lib.hid hL
  have hlen := h.len
  have hwd : 1 ≤ wd ∧ wd ≤ 8 := by unfold WOk at hw; omega
  clear hw hL
  obtain ⟨hw1, hw2⟩ := hwd
  have hd : decide (WOk wd) = true := by simpa using H.out
  have hc : (w.alloc (.cells #[.int .i64 1, .int .i64 2, .int .i64 4, .int .i64 8] 90)).cell? ⟨p, 0, none⟩ = some (.slice (some ⟨d, 0, none⟩) bs.length bs.length) := (h.below ((Below.refl _ _).alloc (Nat.le_refl _) _)).hdrCell
  clear h
  go_enter Try.func50, Try.ntmps50
  go_wp2_with fail
  refine (Contains_calls _ wd _ (heap_alloc_new _ _)).mono ?_
  rintro e w' ⟨rfl, rfl⟩
  go_wp2_with fail
  refine (HL.out _ ((Below.refl _ _).alloc (Nat.le_refl _) _)).mono ?_
  rintro e w' ⟨rfl, rfl⟩
  go_wp2
  go_ret2
  have e : (at_ + wd).toNat - at_.toNat = wd.toNat := by omega
  exact ⟨ret2 (by simp [e]) rfl, (Below.refl _ _).alloc (Nat.le_refl _) _⟩
end Go.Proofs.Ythkppnkhiimaeaa
