import Derived.Test.YtbngmkopgoelbaaDoorSl5
/- The slab (layer 3): New. -/
set_option linter.unusedVariables false
set_option linter.unusedSimpArgs false
namespace Go.Proofs.YtbngmkopgoelbaaDoor
open Go.RowKit

theorem SNew_bad (n : Int) (w : World) (h : n < 1 ∨ 128 < n) :
    Calls Tryd.prog 10 #[.int .i64 n] w fun e w' => e = .returned (.tuple #[.pointer none, .int .i64 1]) ∧ w = w' := by
  by_cases h0 : n < 1
  · clear h
    go_enter Tryd.func10, Tryd.ntmps10
    go_wp2
    go_ret2
    exact ⟨rfl, rfl⟩
  · have h1 : 128 < n := by omega
    clear h
    go_enter Tryd.func10, Tryd.ntmps10
    go_wp2
    go_ret2
    exact ⟨rfl, rfl⟩

/-- What a new slab's cells hold. -/
def zp : Nat → List Value
  | 0 => []
  | k + 1 => .int .i64 0 :: .int .u32 0 :: .int .i64 0 :: .int .i64 0 :: zp k
def zslab : Array Value := (Value.pointer none :: Value.pointer none :: (zp 128 ++ [.int .i64 0])).toArray
theorem zero_slab (w : World) : (zeroValue 67).run Tryd.prog w = .ok (.agg zslab) w := by kernel_rfl
theorem zp_length : ∀ k, (zp k).length = k * 4
  | 0 => rfl
  | k + 1 => by simp [zp, zp_length k]; omega
theorem zp_get (l : List Value) : ∀ k i, i < k → (zp k ++ l)[i * 4]? = some (.int .i64 0) ∧ (zp k ++ l)[i * 4 + 1]? = some (.int .u32 0) ∧ (zp k ++ l)[i * 4 + 2]? = some (.int .i64 0) ∧ (zp k ++ l)[i * 4 + 3]? = some (.int .i64 0)
  | k + 1, 0, _ => ⟨rfl, rfl, rfl, rfl⟩
  | k + 1, i + 1, h => by
    have := zp_get l k i (by omega)
    rw [show (i + 1) * 4 = i * 4 + 4 from by omega]
    exact this
theorem zslab_size : zslab.size = 515 := by simp [zslab, zp_length]
theorem zslab_get (i : Nat) (h : i < 128) : zslab[2 + i * 4]? = some (.int .i64 0) ∧ zslab[2 + i * 4 + 1]? = some (.int .u32 0) ∧ zslab[2 + i * 4 + 2]? = some (.int .i64 0) ∧ zslab[2 + i * 4 + 3]? = some (.int .i64 0) := by
  have := zp_get [.int .i64 0] 128 i h
  unfold zslab
  simp only [List.getElem?_toArray]
  rw [show 2 + i * 4 + 3 = i * 4 + 3 + 2 from by omega, show 2 + i * 4 + 2 = i * 4 + 2 + 2 from by omega, show 2 + i * 4 + 1 = i * 4 + 1 + 2 from by omega, show 2 + i * 4 = i * 4 + 2 from by omega]
  exact this
theorem zslab_last : zslab[514]? = some (.int .i64 0) := by
  unfold zslab
  simp only [List.getElem?_toArray]
  rw [show (514 : Nat) = 512 + 1 + 1 from rfl, List.getElem?_cons_succ, List.getElem?_cons_succ, List.getElem?_append_right (by rw [zp_length]; omega), zp_length]
  rfl
theorem Sb_new {w : World} {s pa pp : Nat} (h : w.heap[s]? = some (.cells ((zslab.setIfInBounds 0 (.pointer (some ⟨pa, 0, none⟩))).setIfInBounds 1 (.pointer (some ⟨pp, 0, none⟩))) 67 (0, 0))) : Sb w s pa pp (fun _ => ⟨0, 0, 0, 0⟩) 0 := by
  have hz := zslab_size
  refine ⟨_, h, by simp [hz], ?_, ?_, fun i hi => ?_, ?_⟩
  · rw [Array.getElem?_setIfInBounds, if_neg (by omega), Array.getElem?_setIfInBounds, if_pos rfl, if_pos (by omega)]
  · rw [Array.getElem?_setIfInBounds, if_pos rfl, if_pos (by simp [hz])]
  · have := zslab_get i hi
    simp only [Array.getElem?_setIfInBounds]
    rw [if_neg (by omega), if_neg (by omega), if_neg (by omega), if_neg (by omega), if_neg (by omega), if_neg (by omega), if_neg (by omega), if_neg (by omega)]
    exact this
  · simp only [Array.getElem?_setIfInBounds]
    rw [if_neg (by omega), if_neg (by omega)]
    exact zslab_last

set_option maxHeartbeats 400000 in
theorem SNew_ok (n : Nat) (w : World) (T : Tb w) (h0 : 1 ≤ n) (h1 : n ≤ 128) :
    Calls Tryd.prog 10 #[.int .i64 (n : Int)] w fun e w' => ∃ s pa pd pp : Nat, e = .returned (.tuple #[.pointer (some ⟨s, 0, none⟩), .int .i64 0]) ∧
      Sm w' s pa pd pp n (zeros (512 * n)) (fun i => i == 0) (fun _ => ⟨0, 0, 0, 0⟩) 0 ∧ Below w.heap.size w w' ∧ w.heap.size ≤ s ∧ w.heap.size ≤ pd ∧ w.heap.size ≤ pp := by
  have hz := zero_slab
  have c0 : (w.alloc (.cells zslab 67)).cell? ⟨w.heap.size, 0, none⟩ = some (.pointer none) := by
    rw [cell_of_row _ _ 0 _ _ _ (heap_alloc_new w _)]; simp [zslab]
  have c1 : (w.alloc (.cells zslab 67)).cell? ⟨w.heap.size, 1, none⟩ = some (.pointer none) := by
    rw [cell_of_row _ _ 1 _ _ _ (heap_alloc_new w _)]; simp [zslab]
  have HT := Lib.hid T
  clear T
  go_enter Tryd.func10, Tryd.ntmps10
  go_wp2_with fail
  refine (New_ok ((n : Int) * 512) _ (by omega) (by omega)).mono ?_
  rintro e w2 ⟨pa, pd, rfl, hA, hpa, hpd, hB⟩
  have hsz : (w.alloc (.cells zslab 67)).heap.size = w.heap.size + 1 := by simp
  rw [hsz] at hpa hpd
  have d0 := (hB.cell (p := ⟨w.heap.size, 0, none⟩) (by rw [hsz]; exact Nat.lt_succ_self _)).trans c0
  have d1 := (hB.cell (p := ⟨w.heap.size, 1, none⟩) (by rw [hsz]; exact Nat.lt_succ_self _)).trans c1
  have row2 : w2.heap[w.heap.size]? = some (.cells zslab 67 (0, 0)) := (hB.block _ (by rw [hsz]; omega)).trans (heap_alloc_new w _)
  have fz : ∀ i, w2.frozen? ⟨w.heap.size, i, none⟩ = false := fun i => by simp [World.frozen?, row2]
  have s2 : w.heap.size + 1 ≤ w2.heap.size := by have := hB.size; rwa [hsz] at this
  have HA := Lib.hid hA
  have HB := Lib.hid hB
  have R2 := Lib.hid row2
  clear hA hB c0 c1 row2
  go_wp2_with fail
  obtain ⟨W2, hW2⟩ : ∃ W2, W2 = w2.setCell ⟨w.heap.size, 0, none⟩ (.pointer (some ⟨pa, 0, none⟩)) := ⟨_, rfl⟩
  rw [← hW2]
  have z2 : W2.heap.size = w2.heap.size := by rw [hW2]; simp
  have r2 : W2.heap[w.heap.size]? = some (.cells (zslab.setIfInBounds 0 (.pointer (some ⟨pa, 0, none⟩))) 67 (0, 0)) := by rw [hW2]; exact set_row R2.out 0 _
  have o2 : ∀ i, i ≠ w.heap.size → W2.heap[i]? = w2.heap[i]? := fun i hi => by rw [hW2]; exact Below.heap_setCell _ _ _ i hi
  have B2 : Below w.heap.size w W2 := by rw [hW2]; exact ((((Below.refl _ w).alloc (Nat.le_refl _) _).trans ⟨HB.out.os, HB.out.tape, HB.out.output, HB.out.size, fun i hi => HB.out.block i (by rw [hsz]; omega)⟩)).setCell (p := ⟨w.heap.size, 0, none⟩) (Nat.le_refl _) _
  have A2 : Ar W2 pa pd (zeros ((n : Int) * 512).toNat) := ⟨(o2 pa (by omega)).trans HA.out.hdr, (o2 pd (by omega)).trans HA.out.row, HA.out.ne, HA.out.len, HA.out.rng⟩
  clear hW2 d0 d1 fz
  refine (PNew_ok n _ h1).mono ?_
  rintro e w3 ⟨rfl, hP, hB3⟩
  have r3 : w3.heap[w.heap.size]? = some (.cells (zslab.setIfInBounds 0 (.pointer (some ⟨pa, 0, none⟩))) 67 (0, 0)) := (hB3.block _ (by omega)).trans r2
  have d1 : w3.cell? ⟨w.heap.size, 1, none⟩ = some (.pointer none) := by rw [cell_of_row w3 _ 1 _ _ _ r3]; simp [zslab]
  have fz : ∀ i, w3.frozen? ⟨w.heap.size, i, none⟩ = false := fun i => by simp [World.frozen?, r3]
  have A3 := A2.below hB3
  have B3 : Below w.heap.size w w3 := B2.trans ⟨hB3.os, hB3.tape, hB3.output, hB3.size, fun i hi => hB3.block i (by omega)⟩
  have hpp : w.heap.size < W2.heap.size := by omega
  have hsz3 := hB3.size
  generalize W2.heap.size = pp at *
  have HH3 := Lib.hid (And.intro hP (And.intro A3 (And.intro B3 r3)))
  clear hP A3 B3 r3 hB3 A2 B2 o2 r2 z2
  go_wp2_with fail
  obtain ⟨W4, hW4⟩ : ∃ W4, W4 = w3.setCell ⟨w.heap.size, 1, none⟩ (.pointer (some ⟨pp, 0, none⟩)) := ⟨_, rfl⟩
  rw [← hW4]
  have r4 : W4.heap[w.heap.size]? = some (.cells ((zslab.setIfInBounds 0 (.pointer (some ⟨pa, 0, none⟩))).setIfInBounds 1 (.pointer (some ⟨pp, 0, none⟩))) 67 (0, 0)) := by rw [hW4]; exact set_row HH3.out.2.2.2 1 _
  have o4 : ∀ i, i ≠ w.heap.size → W4.heap[i]? = w3.heap[i]? := fun i hi => by rw [hW4]; exact Below.heap_setCell _ _ _ i hi
  have B4 : Below w.heap.size w W4 := by rw [hW4]; exact HH3.out.2.2.1.setCell (p := ⟨w.heap.size, 1, none⟩) (Nat.le_refl _) _
  have P4 : Po W4 pp n (fun _ => false) := ⟨(o4 pp (by omega)).trans HH3.out.1.blk, HH3.out.1.len, HH3.out.1.out⟩
  have S4 : Sm W4 w.heap.size pa pd pp n (zeros (512 * n)) (fun _ => false) (fun _ => ⟨0, 0, 0, 0⟩) 0 := by
    have e : ((n : Int) * 512).toNat = 512 * n := by omega
    have A3 := HH3.out.2.1
    rw [e] at A3
    exact ⟨Sb_new r4, ⟨(o4 pa (by omega)).trans A3.hdr, (o4 pd (by omega)).trans A3.row, A3.ne, A3.len, A3.rng⟩, P4⟩
  have HS4 := Lib.hid S4
  have HB4 := Lib.hid B4
  clear hW4 d1 fz r4 o4 P4 S4 B4 HH3
  refine (Take_at HS4.out.po (HT.out.below HB4.out HT.out.lt) 0 (by omega) rfl (fun i hi => absurd hi (by omega))).mono ?_
  rintro e w5 ⟨rfl, hP5, hg5⟩
  have HF := Lib.hid (And.intro hP5 hg5)
  clear hP5 hg5
  go_wp2
  go_ret2
  exact ⟨w.heap.size, pa, pd, pp, rfl, HS4.out.onP HF.out.1 HF.out.2, HB4.out.grown HF.out.2 HB4.out.size (fun k e => by injection e with e; omega), Nat.le_refl _, by omega, by omega⟩
end Go.Proofs.YtbngmkopgoelbaaDoor
