/- ArenaFills: what was filled is all of one byte, what stands ahead and behind stays, and numbers within are that byte again and again. -/
import Derived.Test.YtdanncfnndcbbaaShown01
set_option linter.unusedVariables false
set_option linter.unusedSimpArgs false
namespace Go.Proofs.Ytdanncfnndcbbaa
open Go.RowKit

theorem cutA_full (bs : List Int) (n : Int) (h : (bs.length : Int) = n) : cutA bs 0 n = bs ∧ rErr bs.length 0 n = 0 := by
  have e := rErr_ok (n := bs.length) (at_ := 0) (m := n) (by omega) (by omega) (by omega)
  refine ⟨?_, e⟩
  unfold cutA
  rw [if_pos e]
  unfold cutb
  rw [Int.toNat_zero, List.drop_zero, List.take_of_length_le (by omega)]

theorem gb_zeros (n j : Nat) : gb (zeros n) j = 0 := by
  unfold gb zeros
  rw [List.getD_eq_getElem?_getD, List.getElem?_replicate]
  split <;> rfl

theorem fill_in {n : Nat} {at_ m c : Int} (h : rErr n at_ m = 0) (k : Nat) (h0 : at_ ≤ k) (h1 : k - at_ < m) : gb (fillA (zeros n) at_ m c) k = c := by
  have ⟨h2, h3, h4⟩ := rErr_zero h
  unfold fillA
  rw [zeros_length, if_pos h, gb_put, zeros_length, if_pos (by omega)]
theorem fill_out {n : Nat} {at_ m c : Int} (h : rErr n at_ m = 0) (k : Nat) (h0 : ¬ (at_ ≤ k ∧ k - at_ < m)) : gb (fillA (zeros n) at_ m c) k = 0 := by
  have ⟨h2, h3, h4⟩ := rErr_zero h
  unfold fillA
  rw [zeros_length, if_pos h, gb_put, if_neg (by omega), gb_zeros]
theorem fill_bad {n : Nat} {at_ m c : Int} (h : ¬ rErr n at_ m = 0) : fillA (zeros n) at_ m c = zeros n := by unfold fillA; rw [zeros_length, if_neg h]
theorem fill_two {n : Nat} {at_ m c : Int} (h : rErr n at_ m = 0) (h2 : 2 ≤ m) : nErr n at_ 2 = 0 ∧ ldA (fillA (zeros n) at_ m c) at_ 2 = c * 257 := by
  have ⟨h3, h4, h5⟩ := rErr_zero h
  have e : nErr n at_ 2 = 0 := nErr_ok (by decide) (by omega) (by omega)
  refine ⟨e, ?_⟩
  unfold ldA
  rw [fillA_length, zeros_length, if_pos e]
  show (0 : Int) + gb (fillA (zeros n) at_ m c) (at_.toNat + 0) * 256 ^ 0 + gb (fillA (zeros n) at_ m c) (at_.toNat + 1) * 256 ^ 1 = _
  rw [fill_in h _ (by omega) (by omega), fill_in h _ (by omega) (by omega)]
  omega

set_option maxHeartbeats 1000000 in
theorem fills_bad (n at_ m c : Int) (hn0 : 0 ≤ n) (hn1 : n ≤ 65535) (hm1 : m ≤ 9223372036854775807) (hc0 : 0 ≤ c) (hc1 : c ≤ 255) (hE : ¬ rErr n at_ m = 0) (w : World) :
    Calls Try.prog 8 #[.int .u16 n, .int .i64 at_, .int .i64 m, .int .u8 c] w fun e w' => e = .returned (.bool true) ∧ Kept w w' := by
  obtain ⟨N, rfl⟩ := Int.eq_ofNat_of_zero_le hn0
  have hl : (zeros N).length = N := zeros_length _
  have HL := Lib.hid hl
  have HE := Lib.hid hE
  have hb : (rErr (N : Int) at_ m == 0) = false := beq_eq_false_iff_ne.2 hE
  have hb2 : (rErr (N : Int) at_ m != 0) = true := by rw [bne_iff_ne]; exact hE
  have ⟨e1, e2⟩ := cutA_full (zeros N) N (by rw [hl])
  have E1 := Lib.hid e1
  have E2 := Lib.hid e2
  clear hl hE e1 e2
  go_enter Try.func8, Try.ntmps8
  go_wp2_with fail
  refine (shown_calls _).mono ?_
  rintro e w1 ⟨rfl, K1⟩
  go_wp2_with fail
  refine (New_st K1 (N : Int) (by omega) (by omega)).mono ?_
  rintro e w2 ⟨p, d, rfl, S2⟩
  rw [Int.toNat_natCast] at S2
  go_wp2_with fail
  refine (Fill_st S2 at_ m c hm1 hc0 hc1).mono ?_
  rintro e w3 ⟨rfl, S3⟩
  rw [fill_bad HE.out] at S3
  rw [HL.out]
  go_wp2_with fail
  refine (Bytes_st S3 0 (N : Int) (by omega)).mono ?_
  rintro e w4 ⟨g, rfl, hk, S4⟩
  rw [E1.out] at hk
  rw [E1.out, E2.out, HL.out]
  have HK := Lib.hid hk
  clear hk
  go_wp2
  go_loop [15] (fun i => ∃ k : Nat, k ≤ N ∧ i = .int .i64 k) (fun i => N - (intOf i).toNat)
  case atStart => exact ⟨0, by omega, rfl⟩
  case round =>
    obtain ⟨k, hk, rfl⟩ := hrel
    by_cases hlt : k < N
    · have hcell : w4.cell? ⟨g, k, none⟩ = some (.int .u8 0) := by rw [HK.out.byte k (by rw [HL.out]; exact hlt), gb_zeros]
      go_wp2
      go_round
      case rel => exact ⟨k + 1, by omega, by go_num⟩
      case measure => simp [intOf]; omega
    · go_wp2_with fail
      refine (Load_st S4 at_ 2).mono ?_
      rintro e w5 ⟨rfl, S5⟩
      go_wp2
      go_ret
      exact ⟨rfl, S5.kept⟩

set_option maxHeartbeats 1000000 in
theorem fills_ok (n at_ m c : Int) (hn0 : 0 ≤ n) (hn1 : n ≤ 65535) (hm1 : m ≤ 9223372036854775807) (hc0 : 0 ≤ c) (hc1 : c ≤ 255) (hE : rErr n at_ m = 0) (w : World) :
    Calls Try.prog 8 #[.int .u16 n, .int .i64 at_, .int .i64 m, .int .u8 c] w fun e w' => e = .returned (.bool true) ∧ Kept w w' := by
  obtain ⟨N, rfl⟩ := Int.eq_ofNat_of_zero_le hn0
  have ⟨hm0, ha0, ha1⟩ := rErr_zero hE
  have hl : (zeros N).length = N := zeros_length _
  have hl2 : (fillA (zeros N) at_ m c).length = N := by rw [fillA_length, hl]
  have HL := Lib.hid hl
  have HL2 := Lib.hid hl2
  have HE := Lib.hid hE
  have ⟨e1, e2⟩ := cutA_full (fillA (zeros N) at_ m c) N (by rw [hl2])
  have E1 := Lib.hid e1
  have E2 := Lib.hid e2
  clear hl hl2 hE e1 e2
  go_enter Try.func8, Try.ntmps8
  go_wp2_with fail
  refine (shown_calls _).mono ?_
  rintro e w1 ⟨rfl, K1⟩
  go_wp2_with fail
  refine (New_st K1 (N : Int) (by omega) (by omega)).mono ?_
  rintro e w2 ⟨p, d, rfl, S2⟩
  rw [Int.toNat_natCast] at S2
  go_wp2_with fail
  refine (Fill_st S2 at_ m c hm1 hc0 hc1).mono ?_
  rintro e w3 ⟨rfl, S3⟩
  rw [HL.out, HE.out]
  go_wp2_with fail
  refine (Bytes_st S3 0 (N : Int) (by omega)).mono ?_
  rintro e w4 ⟨g, rfl, hk, S4⟩
  rw [E1.out] at hk
  rw [E1.out, E2.out, HL2.out]
  have HK := Lib.hid hk
  clear hk
  go_wp2
  go_loop [15] (fun i => ∃ k : Nat, k ≤ N ∧ i = .int .i64 k) (fun i => N - (intOf i).toNat)
  case atStart => exact ⟨0, by omega, rfl⟩
  case round =>
    obtain ⟨k, hk, rfl⟩ := hrel
    by_cases hlt : k < N
    · by_cases hin : at_ ≤ k ∧ k - at_ < m
      · obtain ⟨hi1, hi2⟩ := hin
        have hcell : w4.cell? ⟨g, k, none⟩ = some (.int .u8 c) := by rw [HK.out.byte k (by rw [HL2.out]; exact hlt), fill_in HE.out k hi1 hi2]
        go_wp2
        go_round
        case rel => exact ⟨k + 1, by omega, by go_num⟩
        case measure => simp [intOf]; omega
      · have hcell : w4.cell? ⟨g, k, none⟩ = some (.int .u8 0) := by rw [HK.out.byte k (by rw [HL2.out]; exact hlt), fill_out HE.out k hin]
        by_cases hi1 : at_ ≤ k
        · have hi2 : ¬ (k - at_ < m) := fun h => hin ⟨hi1, h⟩
          clear hin
          go_wp2
          go_round
          case rel => exact ⟨k + 1, by omega, by go_num⟩
          case measure => simp [intOf]; omega
        · clear hin
          go_wp2
          go_round
          case rel => exact ⟨k + 1, by omega, by go_num⟩
          case measure => simp [intOf]; omega
    · by_cases h2 : m < 2
      · go_wp2_with fail
        refine (Load_st S4 at_ 2).mono ?_
        rintro e w5 ⟨rfl, S5⟩
        go_wp2
        go_ret
        exact ⟨rfl, S5.kept⟩
      · have ⟨f1, f2⟩ := fill_two (c := c) HE.out (by omega)
        have F1 := Lib.hid f1
        have F2 := Lib.hid f2
        clear f1 f2
        go_wp2_with fail
        refine (Load_st S4 at_ 2).mono ?_
        rintro e w5 ⟨rfl, S5⟩
        rw [HL2.out, F1.out, F2.out]
        go_wp2
        go_ret
        exact ⟨rfl, S5.kept⟩

theorem ArenaFills_calls (n at_ m c : Int) (hn0 : 0 ≤ n) (hn1 : n ≤ 65535) (hm1 : m ≤ 9223372036854775807) (hc0 : 0 ≤ c) (hc1 : c ≤ 255) (w : World) :
    Calls Try.prog 8 #[.int .u16 n, .int .i64 at_, .int .i64 m, .int .u8 c] w fun e w' => e = .returned (.bool true) ∧ Kept w w' := by
  by_cases hE : rErr n at_ m = 0
  · exact fills_ok n at_ m c hn0 hn1 hm1 hc0 hc1 hE w
  · exact fills_bad n at_ m c hn0 hn1 hm1 hc0 hc1 hE w
end Go.Proofs.Ytdanncfnndcbbaa
