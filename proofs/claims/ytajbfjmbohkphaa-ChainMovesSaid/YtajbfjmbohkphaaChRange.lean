/- ChainRange: a head or a node that is not within is refused, and nothing changes. -/
import Derived.Test.YtajbfjmbohkphaaChShown
set_option linter.unusedVariables false
set_option linter.unusedSimpArgs false
namespace Go.Proofs.Ytajbfjmbohkphaa
open Go.RowKit

/-- 512 bytes 0. -/
structure Zero (bs : List Int) : Prop where
  len : bs.length = 512
  z : ∀ i, gb bs i = 0
theorem Zero.in_t {bs : List Int} (Z : Zero bs) (a n : Int) (h1 : 1 ≤ a) (h2 : a ≤ 512 - n) : inn bs a n = true := by
  unfold inn; rw [Z.len, decide_eq_true h1, decide_eq_true (by omega)]; rfl
theorem Zero.in_f {bs : List Int} (Z : Zero bs) (a n : Int) (h : a < 1 ∨ 512 - n < a) : inn bs a n = false := by
  unfold inn; rw [Z.len, Bool.and_eq_false_iff, decide_eq_false_iff_not, decide_eq_false_iff_not]; omega

section
variable {w0 w : World} {p d : Nat} {bs : List Int}
theorem End_one (S : One w0 w p d bs) (head : Int) (front : Bool) :
    Calls Try.prog 23 #[.pointer (some ⟨p, 0, none⟩), .int .i64 head, .bool front] w fun e w' =>
      ∃ x : Int, e = .returned (.tuple #[.int .i64 x, .int .i64 (if inn bs head 8 then 0 else 4)]) ∧ One w0 w' p d bs :=
  (End_any head front w S.ar).mono fun _ _ ⟨h, L⟩ => ⟨_, h, S.grown L.ar L.gr⟩
theorem Next_one (S : One w0 w p d bs) (node : Int) (front : Bool) :
    Calls Try.prog 25 #[.pointer (some ⟨p, 0, none⟩), .int .i64 node, .bool front] w fun e w' =>
      ∃ x : Int, e = .returned (.tuple #[.int .i64 x, .int .i64 (if inn bs node 16 then 0 else 4)]) ∧ One w0 w' p d bs :=
  (Next_any node front w S.ar).mono fun _ _ ⟨h, L⟩ => ⟨_, h, S.grown L.ar L.gr⟩
theorem Owner_one (S : One w0 w p d bs) (node : Int) :
    Calls Try.prog 24 #[.pointer (some ⟨p, 0, none⟩), .int .i64 node] w fun e w' =>
      ∃ x : Int, e = .returned (.tuple #[.int .i64 x, .int .i64 (if inn bs node 16 then 0 else 4)]) ∧ One w0 w' p d bs :=
  (Owner_any node w S.ar).mono fun _ _ ⟨h, L⟩ => ⟨_, h, S.grown L.ar L.gr⟩
theorem Push_out (S : One w0 w p d bs) (h n : Int) (front : Bool) (hc : chk bs h n = 4) :
    Calls Try.prog 11 #[.pointer (some ⟨p, 0, none⟩), .int .i64 h, .int .i64 n, .bool front] w fun e w' => e = .returned (.int .i64 4) ∧ One w0 w' p d bs := by
  refine (Push_any h n front w S.ar).mono ?_
  rintro e w' ⟨rfl, L⟩
  have hE : pushE bs h n = 4 := by unfold pushE; rw [hc, if_neg (by omega)]
  have hA := L.ar
  unfold pushB at hA
  rw [hE, if_neg (by omega)] at hA
  exact ⟨by rw [hE], S.grown hA L.gr⟩
theorem Remove_out (S : One w0 w p d bs) (h n : Int) (hc : chk bs h n = 4) :
    Calls Try.prog 13 #[.pointer (some ⟨p, 0, none⟩), .int .i64 h, .int .i64 n] w fun e w' => e = .returned (.int .i64 4) ∧ One w0 w' p d bs := by
  refine (Remove_any h n w S.ar).mono ?_
  rintro e w' ⟨rfl, L⟩
  have hE : removeE bs h n = 4 := by unfold removeE; rw [hc, if_neg (by omega)]
  have hA := L.ar
  unfold removeB at hA
  rw [hE, if_neg (by omega)] at hA
  exact ⟨by rw [hE], S.grown hA L.gr⟩
theorem Pop_out (S : One w0 w p d bs) (h : Int) (front : Bool) (hc : inn bs h 8 = false) :
    Calls Try.prog 15 #[.pointer (some ⟨p, 0, none⟩), .int .i64 h, .bool front] w fun e w' => e = .returned (.tuple #[.int .i64 0, .int .i64 4]) ∧ One w0 w' p d bs := by
  refine (Pop_any h front w S.ar).mono ?_
  rintro e w' ⟨rfl, hA, hg⟩
  unfold popN popE
  unfold popB at hA
  rw [hc] at hA ⊢
  exact ⟨rfl, S.grown hA hg⟩
theorem All_out (S : One w0 w p d bs) (h : Int) (hc : inn bs h 8 = false) :
    Calls Try.prog 14 #[.pointer (some ⟨p, 0, none⟩), .int .i64 h] w fun e w' => e = .returned (.tuple #[.slice none 0 0, .int .i64 4]) ∧ One w0 w' p d bs :=
  (All_far h w S.ar hc).mono fun _ _ ⟨h, hA, hg⟩ => ⟨h, S.grown hA hg⟩
theorem fresh_one (K : Kept w0 w) : Calls Try.prog 10 #[] w fun e w' => ∃ (p d : Nat) (bs : List Int), e = .returned (.pointer (some ⟨p, 0, none⟩)) ∧ One w0 w' p d bs ∧ Zero bs := by
  have HK := Lib.hid K
  clear K
  go_enter Try.func10, Try.ntmps10
  go_wp2_with fail
  refine (New_st HK.out 512 (by omega) (by omega)).mono ?_
  rintro e w1 ⟨p, d, rfl, S⟩
  go_wp2
  go_ret
  exact ⟨p, d, _, rfl, S, ⟨zeros_length _, gb_zeros 512⟩⟩
end

theorem cut_all {bs : List Int} (hl : bs.length = 512) : cutA bs 0 512 = bs ∧ rErr bs.length 0 512 = 0 := by
  have hr : rErr bs.length 0 512 = 0 := rErr_ok (by omega) (by omega) (by omega)
  refine ⟨?_, hr⟩
  unfold cutA
  rw [if_pos hr]
  unfold cutb
  rw [Int.toNat_zero, List.drop_zero, List.take_of_length_le (by rw [hl]; exact Nat.le_refl _)]

set_option maxRecDepth 100000 in
set_option maxHeartbeats 600000 in
theorem ChainRange_calls (at_ : Int) (front : Bool) (w : World) : Calls Try.prog 8 #[.int .i64 at_, .bool front] w fun e w' => e = .returned (.bool true) ∧ Kept w w' := by
  by_cases hno : at_ < 1 ∨ 504 < at_
  · have HN := Lib.hid hno
    rcases hno with hno | hno
    · have d1 : decide (at_ < 1) = true := decide_eq_true hno
      clear hno
      go_enter Try.func8, Try.ntmps8
      go_wp2_with fail
      refine (shown_calls _).mono ?_
      rintro e w1 ⟨rfl, K1⟩
      go_wp2_with fail
      refine (fresh_one K1).mono ?_
      rintro e w2 ⟨p, d, bs, rfl, S2, Z⟩
      have H8 := Lib.hid (Z.in_f at_ 8 (by have := HN.out; omega))
      have H16 := Lib.hid (Z.in_f at_ 16 (by have := HN.out; omega))
      have HZ := Lib.hid Z
      clear Z
      go_wp2_with fail
      refine (End_one S2 at_ front).mono ?_
      rintro e w3 ⟨x3, rfl, S3⟩
      rw [H8.out]
      go_wp2_with fail
      refine (Owner_one S3 at_).mono ?_
      rintro e w4 ⟨x4, rfl, S4⟩
      rw [H16.out]
      go_wp2_with fail
      refine (Next_one S4 at_ front).mono ?_
      rintro e w5 ⟨x5, rfl, S5⟩
      rw [H16.out]
      have HS5 := Lib.hid S5
      clear S5 S4 S3 S2 K1
      go_wp2_with fail
      refine (Push_out HS5.out 8 at_ front (by unfold chk; rw [H16.out, Bool.and_false]; rfl)).mono ?_
      rintro e w6 ⟨rfl, S6⟩
      go_wp2_with fail
      refine (Remove_out S6 8 at_ (by unfold chk; rw [H16.out, Bool.and_false]; rfl)).mono ?_
      rintro e w7 ⟨rfl, S7⟩
      go_wp2_with fail
      refine (Bytes_st S7 0 512 (by omega)).mono ?_
      rintro e w8 ⟨g, rfl, hk, S8⟩
      rw [(cut_all HZ.out.len).1] at hk
      rw [(cut_all HZ.out.len).1, (cut_all HZ.out.len).2, HZ.out.len]
      have HK := Lib.hid hk
      have HS8 := Lib.hid S8
      clear hk S8 S7 S6
      go_wp2
      go_loop [19] (fun i => ∃ k : Nat, k ≤ 512 ∧ i = .int .i64 k) (fun i => 512 - (intOf i).toNat)
      case atStart => exact ⟨0, by omega, rfl⟩
      case round =>
        obtain ⟨k, hk, rfl⟩ := hrel
        by_cases hlt : k < 512
        · have hcell : w8.cell? ⟨g, k, none⟩ = some (.int .u8 0) := by rw [HK.out.byte k (by rw [HZ.out.len]; exact hlt), HZ.out.z k]
          go_wp2
          go_round
          case rel => exact ⟨k + 1, by omega, by go_num⟩
          case measure => simp [intOf]; omega
        · have hkk : (512 : Int) ≤ (k : Int) := by omega
          go_wp2_with fail
          refine (Pop_out HS8.out at_ front H8.out).mono ?_
          rintro e w9 ⟨rfl, S9⟩
          go_wp2_with fail
          refine (All_out S9 at_ H8.out).mono ?_
          rintro e w10 ⟨rfl, S10⟩
          go_wp2_with fail
          refine (Push_out S10 at_ 32 front (by unfold chk; rw [H8.out, Bool.false_and]; rfl)).mono ?_
          rintro e w11 ⟨rfl, S11⟩
          go_wp2
          go_ret
          exact ⟨rfl, S11.kept⟩
    · have d1 : decide (at_ < 1) = false := decide_eq_false (by omega)
      have d2 : decide (504 < at_) = true := decide_eq_true hno
      have d3 : decide (496 < at_) = true := decide_eq_true (by omega)
      clear hno
      go_enter Try.func8, Try.ntmps8
      go_wp2_with fail
      refine (shown_calls _).mono ?_
      rintro e w1 ⟨rfl, K1⟩
      go_wp2_with fail
      refine (fresh_one K1).mono ?_
      rintro e w2 ⟨p, d, bs, rfl, S2, Z⟩
      have H8 := Lib.hid (Z.in_f at_ 8 (by have := HN.out; omega))
      have H16 := Lib.hid (Z.in_f at_ 16 (by have := HN.out; omega))
      have HZ := Lib.hid Z
      clear Z
      go_wp2_with fail
      refine (End_one S2 at_ front).mono ?_
      rintro e w3 ⟨x3, rfl, S3⟩
      rw [H8.out]
      go_wp2_with fail
      refine (Owner_one S3 at_).mono ?_
      rintro e w4 ⟨x4, rfl, S4⟩
      rw [H16.out]
      go_wp2_with fail
      refine (Next_one S4 at_ front).mono ?_
      rintro e w5 ⟨x5, rfl, S5⟩
      rw [H16.out]
      have HS5 := Lib.hid S5
      clear S5 S4 S3 S2 K1
      go_wp2_with fail
      refine (Push_out HS5.out 8 at_ front (by unfold chk; rw [H16.out, Bool.and_false]; rfl)).mono ?_
      rintro e w6 ⟨rfl, S6⟩
      go_wp2_with fail
      refine (Remove_out S6 8 at_ (by unfold chk; rw [H16.out, Bool.and_false]; rfl)).mono ?_
      rintro e w7 ⟨rfl, S7⟩
      go_wp2_with fail
      refine (Bytes_st S7 0 512 (by omega)).mono ?_
      rintro e w8 ⟨g, rfl, hk, S8⟩
      rw [(cut_all HZ.out.len).1] at hk
      rw [(cut_all HZ.out.len).1, (cut_all HZ.out.len).2, HZ.out.len]
      have HK := Lib.hid hk
      have HS8 := Lib.hid S8
      clear hk S8 S7 S6
      go_wp2
      go_loop [19] (fun i => ∃ k : Nat, k ≤ 512 ∧ i = .int .i64 k) (fun i => 512 - (intOf i).toNat)
      case atStart => exact ⟨0, by omega, rfl⟩
      case round =>
        obtain ⟨k, hk, rfl⟩ := hrel
        by_cases hlt : k < 512
        · have hcell : w8.cell? ⟨g, k, none⟩ = some (.int .u8 0) := by rw [HK.out.byte k (by rw [HZ.out.len]; exact hlt), HZ.out.z k]
          go_wp2
          go_round
          case rel => exact ⟨k + 1, by omega, by go_num⟩
          case measure => simp [intOf]; omega
        · have hkk : (512 : Int) ≤ (k : Int) := by omega
          go_wp2_with fail
          refine (Pop_out HS8.out at_ front H8.out).mono ?_
          rintro e w9 ⟨rfl, S9⟩
          go_wp2_with fail
          refine (All_out S9 at_ H8.out).mono ?_
          rintro e w10 ⟨rfl, S10⟩
          go_wp2_with fail
          refine (Push_out S10 at_ 32 front (by unfold chk; rw [H8.out, Bool.false_and]; rfl)).mono ?_
          rintro e w11 ⟨rfl, S11⟩
          go_wp2
          go_ret
          exact ⟨rfl, S11.kept⟩

  · by_cases hfar : 496 < at_
    · have h1 : 1 ≤ at_ := by omega
      have h2 : at_ ≤ 504 := by omega
      have d1 : decide (at_ < 1) = false := decide_eq_false (by omega)
      have d2 : decide (504 < at_) = false := decide_eq_false (by omega)
      have d3 : decide (496 < at_) = true := decide_eq_true (by omega)
      clear hno
      go_enter Try.func8, Try.ntmps8
      go_wp2_with fail
      refine (shown_calls _).mono ?_
      rintro e w1 ⟨rfl, K1⟩
      go_wp2_with fail
      refine (fresh_one K1).mono ?_
      rintro e w2 ⟨p, d, bs, rfl, S2, Z⟩
      have H8 := Lib.hid (Z.in_t at_ 8 (by omega) (by omega))
      have H16 := Lib.hid (Z.in_f at_ 16 (by omega))
      have HZ := Lib.hid Z
      clear Z
      go_wp2_with fail
      refine (End_one S2 at_ front).mono ?_
      rintro e w3 ⟨x3, rfl, S3⟩
      rw [H8.out]
      go_wp2_with fail
      refine (Owner_one S3 at_).mono ?_
      rintro e w4 ⟨x4, rfl, S4⟩
      rw [H16.out]
      go_wp2_with fail
      refine (Next_one S4 at_ front).mono ?_
      rintro e w5 ⟨x5, rfl, S5⟩
      rw [H16.out]
      have HS5 := Lib.hid S5
      clear S5 S4 S3 S2 K1
      go_wp2_with fail
      refine (Push_out HS5.out 8 at_ front (by unfold chk; rw [H16.out, Bool.and_false]; rfl)).mono ?_
      rintro e w6 ⟨rfl, S6⟩
      go_wp2_with fail
      refine (Remove_out S6 8 at_ (by unfold chk; rw [H16.out, Bool.and_false]; rfl)).mono ?_
      rintro e w7 ⟨rfl, S7⟩
      go_wp2_with fail
      refine (Bytes_st S7 0 512 (by omega)).mono ?_
      rintro e w8 ⟨g, rfl, hk, S8⟩
      rw [(cut_all HZ.out.len).1] at hk
      rw [(cut_all HZ.out.len).1, (cut_all HZ.out.len).2, HZ.out.len]
      have HK := Lib.hid hk
      have HS8 := Lib.hid S8
      clear hk S8 S7 S6
      go_wp2
      go_loop [19] (fun i => ∃ k : Nat, k ≤ 512 ∧ i = .int .i64 k) (fun i => 512 - (intOf i).toNat)
      case atStart => exact ⟨0, by omega, rfl⟩
      case round =>
        obtain ⟨k, hk, rfl⟩ := hrel
        by_cases hlt : k < 512
        · have hcell : w8.cell? ⟨g, k, none⟩ = some (.int .u8 0) := by rw [HK.out.byte k (by rw [HZ.out.len]; exact hlt), HZ.out.z k]
          go_wp2
          go_round
          case rel => exact ⟨k + 1, by omega, by go_num⟩
          case measure => simp [intOf]; omega
        · have hkk : (512 : Int) ≤ (k : Int) := by omega
          go_wp2
          go_ret
          exact ⟨rfl, HS8.out.kept⟩
    · have h1 : 1 ≤ at_ := by omega
      have h2 : at_ ≤ 496 := by omega
      have d1 : decide (at_ < 1) = false := decide_eq_false (by omega)
      have d2 : decide (504 < at_) = false := decide_eq_false (by omega)
      have d3 : decide (496 < at_) = false := decide_eq_false (by omega)
      clear hno hfar
      go_enter Try.func8, Try.ntmps8
      go_wp2_with fail
      refine (shown_calls _).mono ?_
      rintro e w1 ⟨rfl, K1⟩
      go_wp2_with fail
      refine (fresh_one K1).mono ?_
      rintro e w2 ⟨p, d, bs, rfl, S2, Z⟩
      have H8 := Lib.hid (Z.in_t at_ 8 (by omega) (by omega))
      have H16 := Lib.hid (Z.in_t at_ 16 (by omega) (by omega))
      have HZ := Lib.hid Z
      clear Z
      go_wp2_with fail
      refine (End_one S2 at_ front).mono ?_
      rintro e w3 ⟨x3, rfl, S3⟩
      rw [H8.out]
      go_wp2_with fail
      refine (Owner_one S3 at_).mono ?_
      rintro e w4 ⟨x4, rfl, S4⟩
      rw [H16.out]
      go_wp2_with fail
      refine (Next_one S4 at_ front).mono ?_
      rintro e w5 ⟨x5, rfl, S5⟩
      rw [H16.out]
      have HS5 := Lib.hid S5
      clear S5 S4 S3 S2 K1
      go_wp2
      go_ret
      exact ⟨rfl, HS5.out.kept⟩
end Go.Proofs.Ytajbfjmbohkphaa
