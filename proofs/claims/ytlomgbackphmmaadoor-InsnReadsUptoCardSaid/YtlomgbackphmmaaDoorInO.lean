/- insn.place, insn.operation. -/
import Derived.Test.YtlomgbackphmmaaDoorInN
set_option linter.unusedVariables false
set_option linter.unusedSimpArgs false
namespace Go.Proofs.YtlomgbackphmmaaDoor
open Go.RowKit Go.Lib

/-- Where a word stands among an operation's; 0: nowhere. -/
def placeF (op : Int) (x : ByteArray) : Int := if x.size = 0 then 0 else max 0 (idxOfS (wl op) x)
theorem idxFrom_range (x : ByteArray) : ∀ (zs : List ByteArray) (i : Nat), (0 ≤ idxFromS zs x i ∧ idxFromS zs x i < ((i + zs.length : Nat) : Int)) ∨ idxFromS zs x i = -1
  | [], i => .inr rfl
  | z :: zs, i => by
    unfold idxFromS
    split
    · exact .inl (by rw [List.length_cons]; omega)
    · have := idxFrom_range x zs (i + 1)
      rw [List.length_cons]
      rcases this with h | h
      · exact .inl (by omega)
      · exact .inr h
theorem idx_range (zs : List ByteArray) (x : ByteArray) : (0 ≤ idxOfS zs x ∧ idxOfS zs x < (zs.length : Int)) ∨ idxOfS zs x = -1 := by
  have := idxFrom_range x zs 0
  rwa [Nat.zero_add] at this
theorem words_cells (op : Int) (w : World) : ∀ j, j < (wl op).length → (w.alloc (.cells ((wl op).map Value.string).toArray 9)).cell? ⟨w.heap.size, 0 + j, none⟩ = some (.string ((wl op).getD j ByteArray.empty)) := fun j hj => by
  rw [World.cell?_alloc_new, List.getElem?_toArray, List.getElem?_map, Nat.zero_add, List.getD_eq_getElem?_getD, List.getElem?_eq_getElem hj]
  rfl
theorem wl_length (op : Int) : (wl op).length ≤ 23 := by
  unfold wl
  split
  · decide
  · split
    · decide
    · split <;> decide
set_option maxRecDepth 100000 in
set_option maxHeartbeats 4000000 in
theorem place_any (op : Int) (h : op = 3 ∨ op = 6 ∨ op = 14) (x : ByteArray) (w : World) : Calls Tryd.prog 38 #[.int .u8 op, .string x] w fun e w' => e = .returned (.int .u8 (placeF op x)) ∧ Below w.heap.size w w' := by
  by_cases h0 : x.size = 0
  · have hr : x = ⟨#[]⟩ := ByteArray.ext (Array.eq_empty_of_size_eq_zero h0)
    subst hr
    go_enter Tryd.func38, Tryd.ntmps38
    go_wp2
    go_ret
    exact ⟨rfl, Below.refl _ _⟩
  · have hne : ¬ x.toList = [] := by
      rw [ByteArray.toList_eq]
      intro e
      exact h0 (by rw [← ByteArray.size_data, ← Array.length_toList, e]; rfl)
    have hne2 : x.toList.isEmpty = false := by
      rw [List.isEmpty_eq_false_iff]
      exact hne
    have HP : Hid (placeF op x = max 0 (idxOfS (wl op) x)) := Lib.hid (if_neg h0)
    have HW := Lib.hid h
    have hl := wl_length op
    have hI := fun w => Tryd.slices_Index_string w.heap.size 0 (wl op).length (wl op).length (wl op) x _ (Nat.le_refl _) (by omega) (words_cells op w)
    rw [List.take_length] at hI
    have hr := idx_range (wl op) x
    generalize idxOfS (wl op) x = n at *
    have HI := Lib.hid hI
    clear hI h
    rcases hr with ⟨hn0, hn1⟩ | rfl
    · have hn23 : n ≤ 22 := by omega
      have hmx : max 0 n = n := by omega
      rw [hmx] at HP
      rw [HP.out]
      have hw8 : IntKind.u8.wrap n = n := by rw [IntKind.wrap_u8]; omega
      have hn3 : n < 0 ∨ 0 ≤ n := .inr hn0
      go_enter Tryd.func38, Tryd.ntmps38
      go_wp2_with fail
      refine (words_are op _ (by have := HW.out; omega)).mono ?_
      rintro e w1 ⟨rfl, rfl⟩
      go_wp2_with fail
      refine (HI.out _).mono ?_
      rintro e w2 ⟨rfl, rfl⟩
      go_wp2
      go_ret
      refine ⟨?_, (Below.refl _ _).alloc (Nat.le_refl _) _⟩
      first | rfl | (simp; omega)
    · rw [HP.out]
      go_enter Tryd.func38, Tryd.ntmps38
      go_wp2_with fail
      refine (words_are op _ (by have := HW.out; omega)).mono ?_
      rintro e w1 ⟨rfl, rfl⟩
      go_wp2_with fail
      refine (HI.out _).mono ?_
      rintro e w2 ⟨rfl, rfl⟩
      go_wp2
      go_ret
      exact ⟨rfl, (Below.refl _ _).alloc (Nat.le_refl _) _⟩
end Go.Proofs.YtlomgbackphmmaaDoor
