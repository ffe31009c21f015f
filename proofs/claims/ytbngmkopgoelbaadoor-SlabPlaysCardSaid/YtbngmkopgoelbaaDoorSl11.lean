import Derived.Test.YtbngmkopgoelbaaDoorSl5
import Derived.Deep.MidRow
/- The slab (layer 3): Pages. -/
set_option linter.unusedVariables false
set_option linter.unusedSimpArgs false
namespace Go.Proofs.YtbngmkopgoelbaaDoor
open Go.RowKit

/-- All pages' cells. -/
def lpg (P : Nat → Pg) : Nat → Nat → List Value
  | _, 0 => []
  | i, k + 1 => .int .i64 (P i).c :: .int .u32 (P i).t :: .int .i64 (P i).m :: .int .i64 (P i).f :: lpg P (i + 1) k
theorem lpg_length (P : Nat → Pg) : ∀ k i, (lpg P i k).length = k * 4
  | 0, _ => rfl
  | k + 1, i => by simp [lpg, lpg_length P k]; omega
theorem lpg_get (P : Nat → Pg) : ∀ k i j, j < k → (lpg P i k)[j * 4]? = some (.int .i64 (P (i + j)).c) ∧ (lpg P i k)[j * 4 + 1]? = some (.int .u32 (P (i + j)).t) ∧ (lpg P i k)[j * 4 + 2]? = some (.int .i64 (P (i + j)).m) ∧ (lpg P i k)[j * 4 + 3]? = some (.int .i64 (P (i + j)).f)
  | k + 1, i, 0, _ => ⟨rfl, rfl, rfl, rfl⟩
  | k + 1, i, j + 1, h => by
    have := lpg_get P k (i + 1) j (by omega)
    rw [show (j + 1) * 4 = j * 4 + 4 from by omega, show i + (j + 1) = i + 1 + j from by omega]
    exact this
theorem Sb.range {w : World} {s pa pp : Nat} {P : Nat → Pg} {u : Int} (h : Sb w s pa pp P u) : w.rangeAt s 2 (lpg P 0 128) := by
  intro j v hv
  have hj := (List.getElem?_eq_some_iff.1 hv).1
  rw [lpg_length] at hj
  obtain ⟨q, r, hr, rfl⟩ : ∃ q r, r < 4 ∧ j = q * 4 + r := ⟨j / 4, j % 4, by omega, by omega⟩
  have h1 := lpg_get P 128 0 q (by omega)
  have h2 := h.pg q (by omega)
  rw [Nat.zero_add] at h1
  rcases (show r = 0 ∨ r = 1 ∨ r = 2 ∨ r = 3 by omega) with rfl | rfl | rfl | rfl
  · rw [show q * 4 + 0 = q * 4 from rfl, h1.1] at hv; cases hv; exact h2.1
  · rw [h1.2.1] at hv; cases hv; exact h2.2.1
  · rw [h1.2.2.1] at hv; cases hv; exact h2.2.2.1
  · rw [h1.2.2.2] at hv; cases hv; exact h2.2.2.2
theorem pages_size : (Tryd.prog.info? 65).map (·.size) = some 512 := by kernel_rfl
theorem page_info : (Tryd.prog.info? 64).map (·.size) = some 4 := by kernel_rfl
theorem load_pages {w : World} {s pa pp : Nat} {P : Nat → Pg} {u : Int} (h : Sb w s pa pp P u) : (Instr.loadAt 65 (.pointer (some ⟨s, 2, none⟩))).run Tryd.prog w = .ok (.agg (lpg P 0 128).toArray) w :=
  run_loadAt_mid w s 2 _ _ _ h.range Tryd.underlying65 rfl (by rw [lpg_length]; exact pages_size)
theorem index_page (P : Nat → Pg) (k : Nat) (hk : k < 128) (W : World) : (Instr.index 65 (.agg (lpg P 0 128).toArray) (.int .i64 (k : Int))).run Tryd.prog W = .ok (.agg #[.int .i64 (P k).c, .int .u32 (P k).t, .int .i64 (P k).m, .int .i64 (P k).f]) W := by
  have hs : (sizeOf 64).run Tryd.prog W = .ok 4 W := by
    have := page_info
    cases hq : Tryd.prog.info? 64 with
    | none => rw [hq] at this; cases this
    | some i =>
      rw [hq] at this
      have : i.size = 4 := by simpa using this
      simp [sizeOf, typeInfo, hq, this, Sem.run_bind]
  have hA : (isAgg 64).run Tryd.prog W = .ok true W := by
    unfold isAgg
    rw [Sem.run_bind, run_underlying Tryd.underlying64 W]
    rfl
  have h1 := lpg_get P 128 0 k hk
  rw [Nat.zero_add] at h1
  have e : (lpg P 0 128).toArray.extract (k * 4) (k * 4 + 4) = #[.int .i64 (P k).c, .int .u32 (P k).t, .int .i64 (P k).m, .int .i64 (P k).f] := by
    apply Array.ext_getElem?
    intro i
    rw [Array.getElem?_extract]
    have hl := lpg_length P 128 0
    by_cases hi : i < 4
    · rw [if_pos (by simp [hl]; omega)]
      simp only [List.getElem?_toArray]
      rcases (show i = 0 ∨ i = 1 ∨ i = 2 ∨ i = 3 by omega) with rfl | rfl | rfl | rfl
      · exact h1.1
      · exact h1.2.1
      · exact h1.2.2.1
      · exact h1.2.2.2
    · rw [if_neg (by simp [hl]; omega), Array.getElem?_eq_none (by simp; omega)]
  have h2 : (0 : Int) ≤ (k : Int) ∧ (k : Int) < ((128 : Nat) : Int) := by omega
  unfold Instr.index asIntOf
  simp only [Sem.run_bind, Sem.run_pure, Result.andThen_ok, run_underlying Tryd.underlying65 W, if_pos h2, hs, part, hA, Int.toNat_natCast, e, if_true]

set_option maxHeartbeats 400000 in
theorem Pages_calls {w : World} {s pa pp : Nat} {P : Nat → Pg} {u : Int} (h : Sb w s pa pp P u) :
    Calls Tryd.prog 19 #[.pointer (some ⟨s, 0, none⟩)] w fun e w' => e = .returned (.int .i64 (cnt (fun i => decide (0 < (P i).c)) 128 : Nat)) ∧ Below w.heap.size w w' := by
  have HR := Lib.hid h.range
  have HZ : Hid ((Tryd.prog.info? 65).map (·.size) = some (lpg P 0 128).length) := Lib.hid (by rw [lpg_length]; exact pages_size)
  clear h
  have hidx := fun k hk W => index_page P k hk W
  have HI := Lib.hid hidx
  generalize lpg P 0 128 = cells at *
  clear hidx
  go_enter Tryd.func19, Tryd.ntmps19
  go_wp2_with (refine wpList_load_mid rfl 65 _ rfl s 2 rfl cells _ HR.out Tryd.underlying65 rfl HZ.out ?_)
  go_loopw [3, 5, 12] (fun n _ i wr => ∃ k : Nat, k ≤ 128 ∧ i = .int .i64 (k : Int) ∧ n = .int .i64 (cnt (fun i => decide (0 < (P i).c)) k : Nat) ∧ Below w.heap.size w wr) (fun _ _ i _ => 128 - (intOf i).toNat)
  case atStart => exact ⟨0, by omega, rfl, rfl, Below.refl _ _⟩
  case round =>
    obtain ⟨k, hk, rfl, rfl, hB⟩ := hrel
    have HB := Lib.hid hB
    clear hB
    by_cases hk2 : k = 128
    · subst hk2
      go_wp2
      go_ret
      exact ⟨rfl, HB.out⟩
    have hk1 : (k : Int) < 128 := by omega
    have hi := fun W => HI.out k (by omega) W
    have hcl := cnt_le (fun i => decide (0 < (P i).c)) k
    have hsx : cnt (fun i => decide (0 < (P i).c)) (k + 1) = cnt (fun i => decide (0 < (P i).c)) k + (if decide (0 < (P k).c) = true then 1 else 0) := rfl
    have HSX := Lib.hid hsx
    clear hsx
    generalize cnt (fun i => decide (0 < (P i).c)) k = N at *
    by_cases hc : 0 < (P k).c
    · go_wp2
      go_roundw
      case rel => exact ⟨k + 1, by omega, by go_num, by rw [HSX.out, if_pos (decide_eq_true hc)]; go_num, HB.out.alloc HB.out.size _⟩
      case measure => simp [intOf]; omega
    · have hc2 : (P k).c ≤ 0 := by omega
      have hcd : decide (0 < (P k).c) = false := decide_eq_false hc
      go_wp2
      go_roundw
      case rel => exact ⟨k + 1, by omega, by go_num, by rw [HSX.out, if_neg (by rw [hcd]; simp)]; go_num, HB.out.alloc HB.out.size _⟩
      case measure => simp [intOf]; omega
end Go.Proofs.YtbngmkopgoelbaaDoor
