/- ArenaBack: what was stored is loaded again. -/
import Derived.Test.YtdanncfnndcbbaaShown01
set_option linter.unusedVariables false
set_option linter.unusedSimpArgs false
namespace Go.Proofs.Ytdanncfnndcbbaa
open Go.RowKit

set_option maxHeartbeats 1000000 in
theorem back_in (n at_ wd v ot : Int) (hn0 : 0 ≤ n) (hn1 : n ≤ 65535) (hv0 : 0 ≤ v) (hv1 : v ≤ 18446744073709551615) (hE : nErr n at_ wd = 0) (hi0 : at_ ≤ ot) (hi1 : ot < at_ + wd) (w : World) :
    Calls Try.prog 3 #[.int .u16 n, .int .i64 at_, .int .i64 wd, .int .u64 v, .int .i64 ot] w fun e w' => e = .returned (.bool true) ∧ Kept w w' := by
  have hlen : (zeros n.toNat).length = n.toNat := zeros_length _
  have hln : ((zeros n.toNat).length : Int) = n := by rw [hlen]; omega
  have HL := Lib.hid hln
  have HV := Lib.hid hv1
  clear hln hlen hv1
  have HE := Lib.hid (show nErr ((zeros n.toNat).length : Int) at_ wd = 0 by rw [HL.out]; exact hE)
  have ⟨hw, ha0, ha1⟩ := nErr_zero hE
  have hwd : 1 ≤ wd ∧ wd ≤ 8 := by unfold WOk at hw; omega
  obtain ⟨hw1, hw8⟩ := hwd
  have HW := Lib.hid hw
  clear hE hw
  go_enter Try.func3, Try.ntmps3
  go_wp2_with fail
  refine (shown_calls _).mono ?_
  rintro e w1 ⟨rfl, K1⟩
  go_wp2_with fail
  refine (New_st K1 n (by omega) (by omega)).mono ?_
  rintro e w2 ⟨p, d, rfl, S2⟩
  go_wp2_with fail
  refine (Load_st S2 ot 1).mono ?_
  rintro e w3 ⟨rfl, S3⟩
  rw [HL.out]
  go_wp2_with fail
  refine (Store_st S3 at_ wd v hv0).mono ?_
  rintro e w4 ⟨rfl, S4⟩
  rw [HE.out]
  go_wp2_with fail
  refine (Load_st S4 ot 1).mono ?_
  rintro e w5 ⟨rfl, S5⟩
  rw [stA_length, HL.out]
  go_wp2_with fail
  refine (Load_st S5 at_ wd).mono ?_
  rintro e w6 ⟨rfl, S6⟩
  rw [stA_length, HE.out, ldA_stA HE.out]
  obtain rfl | rfl | rfl | rfl := HW.out
  · go_wp2
    all_goals (go_ret; exact ⟨rfl, S6.kept⟩)
  · go_wp2
    all_goals (go_ret; exact ⟨rfl, S6.kept⟩)
  · go_wp2
    all_goals (go_ret; exact ⟨rfl, S6.kept⟩)
  · rw [show v % 256 ^ (Int.toNat 8) = v from Int.emod_eq_of_lt hv0 (by have := HV.out; show v < 18446744073709551616; omega)]
    go_wp2
    all_goals (go_ret; exact ⟨rfl, S6.kept⟩)

set_option maxHeartbeats 1000000 in
theorem back_out (n at_ wd v ot : Int) (hn0 : 0 ≤ n) (hn1 : n ≤ 65535) (hv0 : 0 ≤ v) (hv1 : v ≤ 18446744073709551615) (hE : nErr n at_ wd = 0) (hwi : ¬ (at_ ≤ ot ∧ ot < at_ + wd)) (w : World) :
    Calls Try.prog 3 #[.int .u16 n, .int .i64 at_, .int .i64 wd, .int .u64 v, .int .i64 ot] w fun e w' => e = .returned (.bool true) ∧ Kept w w' := by
  have hlen : (zeros n.toNat).length = n.toNat := zeros_length _
  have hln : ((zeros n.toNat).length : Int) = n := by rw [hlen]; omega
  have HL := Lib.hid hln
  have HV := Lib.hid hv1
  clear hln hlen hv1
  have HE := Lib.hid (show nErr ((zeros n.toNat).length : Int) at_ wd = 0 by rw [HL.out]; exact hE)
  have ⟨hw, ha0, ha1⟩ := nErr_zero hE
  have hwd : 1 ≤ wd ∧ wd ≤ 8 := by unfold WOk at hw; omega
  obtain ⟨hw1, hw8⟩ := hwd
  have HW := Lib.hid hw
  clear hE hw
  have HO := Lib.hid (show ot + 1 ≤ at_ ∨ at_ + wd ≤ ot by omega)
  have hwb : (decide (at_ ≤ ot) && decide (ot < at_ + wd)) = false := by
    rw [Bool.and_eq_false_iff, decide_eq_false_iff_not, decide_eq_false_iff_not]
    omega
  clear hwi
  go_enter Try.func3, Try.ntmps3
  go_wp2_with fail
  refine (shown_calls _).mono ?_
  rintro e w1 ⟨rfl, K1⟩
  go_wp2_with fail
  refine (New_st K1 n (by omega) (by omega)).mono ?_
  rintro e w2 ⟨p, d, rfl, S2⟩
  go_wp2_with fail
  refine (Load_st S2 ot 1).mono ?_
  rintro e w3 ⟨rfl, S3⟩
  rw [HL.out]
  go_wp2_with fail
  refine (Store_st S3 at_ wd v hv0).mono ?_
  rintro e w4 ⟨rfl, S4⟩
  rw [HE.out]
  go_wp2_with fail
  refine (Load_st S4 ot 1).mono ?_
  rintro e w5 ⟨rfl, S5⟩
  rw [stA_length, HL.out, ldA_stA_other HE.out HO.out]
  go_wp2_with fail
  refine (Load_st S5 at_ wd).mono ?_
  rintro e w6 ⟨rfl, S6⟩
  rw [stA_length, HE.out, ldA_stA HE.out]
  obtain rfl | rfl | rfl | rfl := HW.out
  · go_wp2
    all_goals (go_ret; exact ⟨rfl, S6.kept⟩)
  · go_wp2
    all_goals (go_ret; exact ⟨rfl, S6.kept⟩)
  · go_wp2
    all_goals (go_ret; exact ⟨rfl, S6.kept⟩)
  · rw [show v % 256 ^ (Int.toNat 8) = v from Int.emod_eq_of_lt hv0 (by have := HV.out; show v < 18446744073709551616; omega)]
    go_wp2
    all_goals (go_ret; exact ⟨rfl, S6.kept⟩)

set_option maxHeartbeats 1000000 in
theorem back_bad (n at_ wd v ot : Int) (hn0 : 0 ≤ n) (hn1 : n ≤ 65535) (hv0 : 0 ≤ v) (hv1 : v ≤ 18446744073709551615) (hE : ¬ nErr n at_ wd = 0) (w : World) :
    Calls Try.prog 3 #[.int .u16 n, .int .i64 at_, .int .i64 wd, .int .u64 v, .int .i64 ot] w fun e w' => e = .returned (.bool true) ∧ Kept w w' := by
  have hlen : (zeros n.toNat).length = n.toNat := zeros_length _
  have hln : ((zeros n.toNat).length : Int) = n := by rw [hlen]; omega
  have HL := Lib.hid hln
  have HV := Lib.hid hv1
  clear hln hlen hv1
  have hEb : (nErr n at_ wd != 0) = true := by rw [bne_iff_ne]; exact hE
  have HE := Lib.hid (show ¬ nErr ((zeros n.toNat).length : Int) at_ wd = 0 by rw [HL.out]; exact hE)
  clear hE
  go_enter Try.func3, Try.ntmps3
  go_wp2_with fail
  refine (shown_calls _).mono ?_
  rintro e w1 ⟨rfl, K1⟩
  go_wp2_with fail
  refine (New_st K1 n (by omega) (by omega)).mono ?_
  rintro e w2 ⟨p, d, rfl, S2⟩
  go_wp2_with fail
  refine (Load_st S2 ot 1).mono ?_
  rintro e w3 ⟨rfl, S3⟩
  rw [HL.out]
  go_wp2_with fail
  refine (Store_st S3 at_ wd v hv0).mono ?_
  rintro e w4 ⟨rfl, S4⟩
  rw [stA_err HE.out] at S4
  rw [HL.out]
  go_wp2_with fail
  refine (Load_st S4 ot 1).mono ?_
  rintro e w5 ⟨rfl, S5⟩
  rw [HL.out]
  go_wp2_with fail
  refine (Load_st S5 at_ wd).mono ?_
  rintro e w6 ⟨rfl, S6⟩
  rw [ldA_err HE.out, HL.out]
  go_wp2
  go_ret
  exact ⟨rfl, S6.kept⟩

theorem ArenaBack_calls (n at_ wd v ot : Int) (hn0 : 0 ≤ n) (hn1 : n ≤ 65535) (hv0 : 0 ≤ v) (hv1 : v ≤ 18446744073709551615) (w : World) :
    Calls Try.prog 3 #[.int .u16 n, .int .i64 at_, .int .i64 wd, .int .u64 v, .int .i64 ot] w fun e w' => e = .returned (.bool true) ∧ Kept w w' := by
  by_cases hE : nErr n at_ wd = 0
  · by_cases hwi : at_ ≤ ot ∧ ot < at_ + wd
    · exact back_in n at_ wd v ot hn0 hn1 hv0 hv1 hE hwi.1 hwi.2 w
    · exact back_out n at_ wd v ot hn0 hn1 hv0 hv1 hE hwi w
  · exact back_bad n at_ wd v ot hn0 hn1 hv0 hv1 hE w
end Go.Proofs.Ytdanncfnndcbbaa
