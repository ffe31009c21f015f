/- ArenaHalves: a number is its two halves, the lower one first. -/
import Derived.Test.YtdanncfnndcbbaaShown01
set_option linter.unusedVariables false
set_option linter.unusedSimpArgs false
namespace Go.Proofs.Ytdanncfnndcbbaa
open Go.RowKit

theorem byteOf_add (v : Int) (k j : Nat) : byteOf v (k + j) = byteOf (v / 256 ^ k) j := by
  unfold byteOf
  rw [Int.pow_add, Int.ediv_ediv_of_nonneg (Int.le_of_lt (Int.pow_pos (by omega)))]

/-- A part of what was stored. -/
theorem ldA_stA_sub {bs : List Int} {at_ wd v : Int} (h : nErr bs.length at_ wd = 0) (k m : Int) (hm : WOk m) (hk : 0 ≤ k) (hkm : k + m ≤ wd) :
    nErr bs.length (at_ + k) m = 0 ∧ ldA (stA bs at_ wd v) (at_ + k) m = v / 256 ^ k.toNat % 256 ^ m.toNat := by
  have ⟨hw, h0, h1⟩ := nErr_zero h
  have hm' : 1 ≤ m ∧ m ≤ 8 := by unfold WOk at hm; omega
  have e : nErr bs.length (at_ + k) m = 0 := nErr_ok hm (by omega) (by omega)
  refine ⟨e, ?_⟩
  unfold ldA
  rw [stA_length, if_pos e]
  unfold stA
  rw [if_pos h]
  apply ldv_bytes
  intro j hj
  unfold stv
  rw [gb_put, if_pos (by omega), ← byteOf_add]
  congr 1
  omega

set_option maxHeartbeats 1000000 in
theorem halves_1 (n at_ v wide : Int) (hn0 : 0 ≤ n) (hn1 : n ≤ 65535) (hv0 : 0 ≤ v) (hv1 : v ≤ 18446744073709551615) (hb0 : 0 ≤ wide) (hb1 : wide ≤ 255) (hm : wide % 3 = 0) (hE : nErr n at_ 2 = 0) (w : World) :
    Calls Try.prog 4 #[.int .u16 n, .int .i64 at_, .int .u64 v, .int .u8 wide] w fun e w' => e = .returned (.bool true) ∧ Kept w w' := by
  have hlen : (zeros n.toNat).length = n.toNat := zeros_length _
  have hln : ((zeros n.toNat).length : Int) = n := by rw [hlen]; omega
  have HL := Lib.hid hln
  have HV := Lib.hid hv1
  clear hln hlen hv1
  have HE := Lib.hid (show nErr ((zeros n.toNat).length : Int) at_ 2 = 0 by rw [HL.out]; exact hE)
  have ⟨hw, ha0, ha1⟩ := nErr_zero hE
  clear hE hw
  go_enter Try.func4, Try.ntmps4
  go_wp2_with fail
  refine (shown_calls _).mono ?_
  rintro e w1 ⟨rfl, K1⟩
  go_wp2_with fail
  refine (New_st K1 n (by omega) (by omega)).mono ?_
  rintro e w2 ⟨p, d, rfl, S2⟩
  go_wp2_with fail
  refine wp_loop_rounds 1 ?_
  rw [rounds_succ]
  go_wp2_with fail
  refine (Store_st S2 at_ 2 v hv0).mono ?_
  rintro e w4 ⟨rfl, S4⟩
  rw [HE.out]
  have hlo := ldA_stA_sub (v := v) HE.out 0 1 (by decide) (by omega) (by omega)
  have hhi := ldA_stA_sub (v := v) HE.out 1 1 (by decide) (by omega) (by omega)
  rw [Int.add_zero] at hlo
  have LO := Lib.hid hlo
  have HI := Lib.hid hhi
  clear hlo hhi
  go_wp2_with fail
  refine (Load_st S4 at_ 2).mono ?_
  rintro e w5 ⟨rfl, S5⟩
  rw [stA_length, HE.out, ldA_stA HE.out]
  go_wp2_with fail
  refine (Load_st S5 at_ 1).mono ?_
  rintro e w6 ⟨rfl, S6⟩
  rw [stA_length, LO.out.1, LO.out.2]
  go_wp2_with fail
  refine (Load_st S6 (at_ + 1) 1).mono ?_
  rintro e w7 ⟨rfl, S7⟩
  rw [stA_length, HI.out.1, HI.out.2]
  go_wp2
  go_ret
  refine ⟨ret_bool ?_, S7.kept⟩
  have hv1 := HV.out
  rw [beq_iff_eq]
  omega

set_option maxHeartbeats 1000000 in
theorem halves_1_bad (n at_ v wide : Int) (hn0 : 0 ≤ n) (hn1 : n ≤ 65535) (hv0 : 0 ≤ v) (hv1 : v ≤ 18446744073709551615) (hb0 : 0 ≤ wide) (hb1 : wide ≤ 255) (hm : wide % 3 = 0) (hE : ¬ nErr n at_ 2 = 0) (w : World) :
    Calls Try.prog 4 #[.int .u16 n, .int .i64 at_, .int .u64 v, .int .u8 wide] w fun e w' => e = .returned (.bool true) ∧ Kept w w' := by
  have hlen : (zeros n.toNat).length = n.toNat := zeros_length _
  have hln : ((zeros n.toNat).length : Int) = n := by rw [hlen]; omega
  have HL := Lib.hid hln
  have HV := Lib.hid hv1
  clear hln hlen hv1
  have hEb : (nErr n at_ 2 != 0) = true := by rw [bne_iff_ne]; exact hE
  clear hE
  go_enter Try.func4, Try.ntmps4
  go_wp2_with fail
  refine (shown_calls _).mono ?_
  rintro e w1 ⟨rfl, K1⟩
  go_wp2_with fail
  refine (New_st K1 n (by omega) (by omega)).mono ?_
  rintro e w2 ⟨p, d, rfl, S2⟩
  go_wp2_with fail
  refine wp_loop_rounds 1 ?_
  rw [rounds_succ]
  go_wp2_with fail
  refine (Store_st S2 at_ 2 v hv0).mono ?_
  rintro e w4 ⟨rfl, S4⟩
  rw [HL.out]
  go_wp2
  go_ret
  exact ⟨rfl, S4.kept⟩

set_option maxHeartbeats 1000000 in
theorem halves_2 (n at_ v wide : Int) (hn0 : 0 ≤ n) (hn1 : n ≤ 65535) (hv0 : 0 ≤ v) (hv1 : v ≤ 18446744073709551615) (hb0 : 0 ≤ wide) (hb1 : wide ≤ 255) (hm : wide % 3 = 1) (hE : nErr n at_ 4 = 0) (w : World) :
    Calls Try.prog 4 #[.int .u16 n, .int .i64 at_, .int .u64 v, .int .u8 wide] w fun e w' => e = .returned (.bool true) ∧ Kept w w' := by
  have hlen : (zeros n.toNat).length = n.toNat := zeros_length _
  have hln : ((zeros n.toNat).length : Int) = n := by rw [hlen]; omega
  have HL := Lib.hid hln
  have HV := Lib.hid hv1
  clear hln hlen hv1
  have HE := Lib.hid (show nErr ((zeros n.toNat).length : Int) at_ 4 = 0 by rw [HL.out]; exact hE)
  have ⟨hw, ha0, ha1⟩ := nErr_zero hE
  clear hE hw
  go_enter Try.func4, Try.ntmps4
  go_wp2_with fail
  refine (shown_calls _).mono ?_
  rintro e w1 ⟨rfl, K1⟩
  go_wp2_with fail
  refine (New_st K1 n (by omega) (by omega)).mono ?_
  rintro e w2 ⟨p, d, rfl, S2⟩
  go_wp2_with fail
  refine wp_loop_rounds 2 ?_
  rw [rounds_succ]
  go_wp2_with fail
  rw [rounds_succ]
  go_wp2_with fail
  refine (Store_st S2 at_ 4 v hv0).mono ?_
  rintro e w4 ⟨rfl, S4⟩
  rw [HE.out]
  have hlo := ldA_stA_sub (v := v) HE.out 0 2 (by decide) (by omega) (by omega)
  have hhi := ldA_stA_sub (v := v) HE.out 2 2 (by decide) (by omega) (by omega)
  rw [Int.add_zero] at hlo
  have LO := Lib.hid hlo
  have HI := Lib.hid hhi
  clear hlo hhi
  go_wp2_with fail
  refine (Load_st S4 at_ 4).mono ?_
  rintro e w5 ⟨rfl, S5⟩
  rw [stA_length, HE.out, ldA_stA HE.out]
  go_wp2_with fail
  refine (Load_st S5 at_ 2).mono ?_
  rintro e w6 ⟨rfl, S6⟩
  rw [stA_length, LO.out.1, LO.out.2]
  go_wp2_with fail
  refine (Load_st S6 (at_ + 2) 2).mono ?_
  rintro e w7 ⟨rfl, S7⟩
  rw [stA_length, HI.out.1, HI.out.2]
  go_wp2
  go_ret
  refine ⟨ret_bool ?_, S7.kept⟩
  have hv1 := HV.out
  rw [beq_iff_eq]
  omega

set_option maxHeartbeats 1000000 in
theorem halves_2_bad (n at_ v wide : Int) (hn0 : 0 ≤ n) (hn1 : n ≤ 65535) (hv0 : 0 ≤ v) (hv1 : v ≤ 18446744073709551615) (hb0 : 0 ≤ wide) (hb1 : wide ≤ 255) (hm : wide % 3 = 1) (hE : ¬ nErr n at_ 4 = 0) (w : World) :
    Calls Try.prog 4 #[.int .u16 n, .int .i64 at_, .int .u64 v, .int .u8 wide] w fun e w' => e = .returned (.bool true) ∧ Kept w w' := by
  have hlen : (zeros n.toNat).length = n.toNat := zeros_length _
  have hln : ((zeros n.toNat).length : Int) = n := by rw [hlen]; omega
  have HL := Lib.hid hln
  have HV := Lib.hid hv1
  clear hln hlen hv1
  have hEb : (nErr n at_ 4 != 0) = true := by rw [bne_iff_ne]; exact hE
  clear hE
  go_enter Try.func4, Try.ntmps4
  go_wp2_with fail
  refine (shown_calls _).mono ?_
  rintro e w1 ⟨rfl, K1⟩
  go_wp2_with fail
  refine (New_st K1 n (by omega) (by omega)).mono ?_
  rintro e w2 ⟨p, d, rfl, S2⟩
  go_wp2_with fail
  refine wp_loop_rounds 2 ?_
  rw [rounds_succ]
  go_wp2_with fail
  rw [rounds_succ]
  go_wp2_with fail
  refine (Store_st S2 at_ 4 v hv0).mono ?_
  rintro e w4 ⟨rfl, S4⟩
  rw [HL.out]
  go_wp2
  go_ret
  exact ⟨rfl, S4.kept⟩

set_option maxHeartbeats 1000000 in
theorem halves_4 (n at_ v wide : Int) (hn0 : 0 ≤ n) (hn1 : n ≤ 65535) (hv0 : 0 ≤ v) (hv1 : v ≤ 18446744073709551615) (hb0 : 0 ≤ wide) (hb1 : wide ≤ 255) (hm : wide % 3 = 2) (hE : nErr n at_ 8 = 0) (w : World) :
    Calls Try.prog 4 #[.int .u16 n, .int .i64 at_, .int .u64 v, .int .u8 wide] w fun e w' => e = .returned (.bool true) ∧ Kept w w' := by
  have hlen : (zeros n.toNat).length = n.toNat := zeros_length _
  have hln : ((zeros n.toNat).length : Int) = n := by rw [hlen]; omega
  have HL := Lib.hid hln
  have HV := Lib.hid hv1
  clear hln hlen hv1
  have HE := Lib.hid (show nErr ((zeros n.toNat).length : Int) at_ 8 = 0 by rw [HL.out]; exact hE)
  have ⟨hw, ha0, ha1⟩ := nErr_zero hE
  clear hE hw
  go_enter Try.func4, Try.ntmps4
  go_wp2_with fail
  refine (shown_calls _).mono ?_
  rintro e w1 ⟨rfl, K1⟩
  go_wp2_with fail
  refine (New_st K1 n (by omega) (by omega)).mono ?_
  rintro e w2 ⟨p, d, rfl, S2⟩
  go_wp2_with fail
  refine wp_loop_rounds 3 ?_
  rw [rounds_succ]
  go_wp2_with fail
  rw [rounds_succ]
  go_wp2_with fail
  rw [rounds_succ]
  go_wp2_with fail
  refine (Store_st S2 at_ 8 v hv0).mono ?_
  rintro e w4 ⟨rfl, S4⟩
  rw [HE.out]
  have hlo := ldA_stA_sub (v := v) HE.out 0 4 (by decide) (by omega) (by omega)
  have hhi := ldA_stA_sub (v := v) HE.out 4 4 (by decide) (by omega) (by omega)
  rw [Int.add_zero] at hlo
  have LO := Lib.hid hlo
  have HI := Lib.hid hhi
  clear hlo hhi
  go_wp2_with fail
  refine (Load_st S4 at_ 8).mono ?_
  rintro e w5 ⟨rfl, S5⟩
  rw [stA_length, HE.out, ldA_stA HE.out]
  go_wp2_with fail
  refine (Load_st S5 at_ 4).mono ?_
  rintro e w6 ⟨rfl, S6⟩
  rw [stA_length, LO.out.1, LO.out.2]
  go_wp2_with fail
  refine (Load_st S6 (at_ + 4) 4).mono ?_
  rintro e w7 ⟨rfl, S7⟩
  rw [stA_length, HI.out.1, HI.out.2]
  go_wp2
  go_ret
  refine ⟨ret_bool ?_, S7.kept⟩
  have hv1 := HV.out
  rw [beq_iff_eq]
  omega

set_option maxHeartbeats 1000000 in
theorem halves_4_bad (n at_ v wide : Int) (hn0 : 0 ≤ n) (hn1 : n ≤ 65535) (hv0 : 0 ≤ v) (hv1 : v ≤ 18446744073709551615) (hb0 : 0 ≤ wide) (hb1 : wide ≤ 255) (hm : wide % 3 = 2) (hE : ¬ nErr n at_ 8 = 0) (w : World) :
    Calls Try.prog 4 #[.int .u16 n, .int .i64 at_, .int .u64 v, .int .u8 wide] w fun e w' => e = .returned (.bool true) ∧ Kept w w' := by
  have hlen : (zeros n.toNat).length = n.toNat := zeros_length _
  have hln : ((zeros n.toNat).length : Int) = n := by rw [hlen]; omega
  have HL := Lib.hid hln
  have HV := Lib.hid hv1
  clear hln hlen hv1
  have hEb : (nErr n at_ 8 != 0) = true := by rw [bne_iff_ne]; exact hE
  clear hE
  go_enter Try.func4, Try.ntmps4
  go_wp2_with fail
  refine (shown_calls _).mono ?_
  rintro e w1 ⟨rfl, K1⟩
  go_wp2_with fail
  refine (New_st K1 n (by omega) (by omega)).mono ?_
  rintro e w2 ⟨p, d, rfl, S2⟩
  go_wp2_with fail
  refine wp_loop_rounds 3 ?_
  rw [rounds_succ]
  go_wp2_with fail
  rw [rounds_succ]
  go_wp2_with fail
  rw [rounds_succ]
  go_wp2_with fail
  refine (Store_st S2 at_ 8 v hv0).mono ?_
  rintro e w4 ⟨rfl, S4⟩
  rw [HL.out]
  go_wp2
  go_ret
  exact ⟨rfl, S4.kept⟩

theorem ArenaHalves_calls (n at_ v wide : Int) (hn0 : 0 ≤ n) (hn1 : n ≤ 65535) (hv0 : 0 ≤ v) (hv1 : v ≤ 18446744073709551615) (hb0 : 0 ≤ wide) (hb1 : wide ≤ 255) (w : World) :
    Calls Try.prog 4 #[.int .u16 n, .int .i64 at_, .int .u64 v, .int .u8 wide] w fun e w' => e = .returned (.bool true) ∧ Kept w w' := by
  obtain hm | hm | hm : wide % 3 = 0 ∨ wide % 3 = 1 ∨ wide % 3 = 2 := by omega
  · by_cases hE : nErr n at_ 2 = 0
    · exact halves_1 n at_ v wide hn0 hn1 hv0 hv1 hb0 hb1 hm hE w
    · exact halves_1_bad n at_ v wide hn0 hn1 hv0 hv1 hb0 hb1 hm hE w
  · by_cases hE : nErr n at_ 4 = 0
    · exact halves_2 n at_ v wide hn0 hn1 hv0 hv1 hb0 hb1 hm hE w
    · exact halves_2_bad n at_ v wide hn0 hn1 hv0 hv1 hb0 hb1 hm hE w
  · by_cases hE : nErr n at_ 8 = 0
    · exact halves_4 n at_ v wide hn0 hn1 hv0 hv1 hb0 hb1 hm hE w
    · exact halves_4_bad n at_ v wide hn0 hn1 hv0 hv1 hb0 hb1 hm hE w
end Go.Proofs.Ytdanncfnndcbbaa
