/- ArenaNobody: an arena that is nil, or that nobody made, has no bytes, and refuses all. -/
import Derived.Test.YtdanncfnndcbbaaShown01
set_option linter.unusedVariables false
set_option linter.unusedSimpArgs false
namespace Go.Proofs.Ytdanncfnndcbbaa
open Go.RowKit

theorem Tells.below {w w1 : World} {p : Value} {n : Int} (h : Tells w p n) (hb : Below w.heap.size w w1) : Tells w1 p n :=
  fun W hW => h W (below_then hb hb.size hW)
theorem tells_nil (w : World) : Tells w (.pointer none) 0 := fun W _ => Len_nil W

theorem Len_zero {p : Nat} (w : World) (hc : w.cell? ⟨p, 0, none⟩ = some (.slice none 0 0)) :
    Calls Try.prog 14 #[.pointer (some ⟨p, 0, none⟩)] w fun e w' => e = .returned (.int .i64 0) ∧ w = w' := by
  go_enter Try.func14, Try.ntmps14
  go_wp2
  go_ret
  exact ⟨rfl, rfl⟩

theorem tells_new (w : World) : Tells (w.alloc (.cells #[.slice none 0 0] 51)) (.pointer (some ⟨w.heap.size, 0, none⟩)) 0 := fun W hb =>
  Len_zero W (by
    have h := (hb.block w.heap.size (by simp)).trans (heap_alloc_new w _)
    rw [cell_of_row W w.heap.size 0 _ _ _ h]
    rfl)

theorem Load_none {w : World} {p : Value} (T : Tells w p 0) (at_ wd : Int) :
    Calls Try.prog 11 #[p, .int .i64 at_, .int .i64 wd] w fun e w' => e = .returned (.tuple #[.int .u64 0, .int .i64 (nErr 0 at_ wd)]) ∧ Below w.heap.size w w' := by
  by_cases hw : WOk wd
  · have hw' : 1 ≤ wd := by unfold WOk at hw; omega
    have hf : at_ < 0 ∨ (0 : Int) - wd < at_ := by omega
    rw [nErr_far hw hf]
    exact Load_far p 0 at_ wd w hw (by omega) (by omega) T hf
  · rw [nErr_bad hw]
    exact Load_bad p at_ wd w hw

theorem Store_none {w : World} {p : Value} (T : Tells w p 0) (at_ wd v : Int) :
    Calls Try.prog 12 #[p, .int .i64 at_, .int .i64 wd, .int .u64 v] w fun e w' => e = .returned (.int .i64 (nErr 0 at_ wd)) ∧ Below w.heap.size w w' := by
  by_cases hw : WOk wd
  · have hw' : 1 ≤ wd := by unfold WOk at hw; omega
    have hf : at_ < 0 ∨ (0 : Int) - wd < at_ := by omega
    rw [nErr_far hw hf]
    exact Store_far p 0 at_ wd v w hw (by omega) (by omega) T hf
  · rw [nErr_bad hw]
    exact Store_bad p at_ wd v w hw

theorem nErr_none (at_ wd : Int) : (nErr 0 at_ wd == 0) = false := by
  rw [beq_eq_false_iff_ne]
  intro h
  have ⟨hw, h0, h1⟩ := nErr_zero h
  unfold WOk at hw
  omega

set_option maxHeartbeats 1000000 in
theorem ArenaNobody_calls (at_ wd v : Int) (w : World) :
    Calls Try.prog 7 #[.int .i64 at_, .int .i64 wd, .int .u64 v] w fun e w' => e = .returned (.bool true) ∧ Kept w w' := by
  have hE := nErr_none at_ wd
  go_enter Try.func7, Try.ntmps7
  go_wp2_with fail
  refine (shown_calls _).mono ?_
  rintro e w1 ⟨rfl, K1⟩
  have T0 := Lib.hid (tells_nil (w1.alloc (.cells #[.slice none 0 0] 51)))
  have TZ := Lib.hid (tells_new w1)
  have K2 := K1.then_ ((Below.refl _ w1).alloc (Nat.le_refl _) (.cells #[.slice none 0 0] 51))
  go_wp2_with fail
  refine wp_loop_rounds 3 ?_
  rw [rounds_succ]
  go_wp2_with fail
  refine (Load_none T0.out at_ wd).mono ?_
  rintro e wa1 ⟨rfl, hB⟩
  have Ta1 := Lib.hid (T0.out.below hB)
  have TZ1 := Lib.hid (TZ.out.below hB)
  have Ka1 := K2.then_ hB
  clear hB
  go_wp2_with fail
  refine (Store_none Ta1.out at_ wd v).mono ?_
  rintro e wa2 ⟨rfl, hB⟩
  have Ta2 := Lib.hid (Ta1.out.below hB)
  have TZ2 := Lib.hid (TZ1.out.below hB)
  have Ka2 := Ka1.then_ hB
  clear hB
  go_wp2_with fail
  refine (Ta2.out _ (Below.refl _ _)).mono ?_
  rintro e w' ⟨rfl, rfl⟩
  go_wp2_with fail
  refine (Fill_far _ 0 at_ 1 1 _ (by omega) (by omega) Ta2.out (by omega) (by omega) (by omega)).mono ?_
  rintro e w' ⟨rfl, rfl⟩
  go_wp2_with fail
  refine (Fill_none _ 0 0 1 _ (by omega) Ta2.out (by omega) (by omega)).mono ?_
  rintro e w' ⟨rfl, rfl⟩
  go_wp2_with fail
  rw [rounds_succ]
  go_wp2_with fail
  refine (Load_none TZ2.out at_ wd).mono ?_
  rintro e wb1 ⟨rfl, hB⟩
  have Tb1 := Lib.hid (TZ2.out.below hB)
  have Kb1 := Ka2.then_ hB
  clear hB
  go_wp2_with fail
  refine (Store_none Tb1.out at_ wd v).mono ?_
  rintro e wb2 ⟨rfl, hB⟩
  have Tb2 := Lib.hid (Tb1.out.below hB)
  have Kb2 := Kb1.then_ hB
  clear hB
  go_wp2_with fail
  refine (Tb2.out _ (Below.refl _ _)).mono ?_
  rintro e w' ⟨rfl, rfl⟩
  go_wp2_with fail
  refine (Fill_far _ 0 at_ 1 1 _ (by omega) (by omega) Tb2.out (by omega) (by omega) (by omega)).mono ?_
  rintro e w' ⟨rfl, rfl⟩
  go_wp2_with fail
  refine (Fill_none _ 0 0 1 _ (by omega) Tb2.out (by omega) (by omega)).mono ?_
  rintro e w' ⟨rfl, rfl⟩
  go_wp2_with fail
  rw [rounds_succ]
  go_wp2
  go_ret
  exact ⟨rfl, Kb2⟩
end Go.Proofs.Ytdanncfnndcbbaa
