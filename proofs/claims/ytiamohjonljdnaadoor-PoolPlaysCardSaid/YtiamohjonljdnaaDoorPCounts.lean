/- PoolCounts: free pages and taken ones are all. -/
import Derived.Test.YtiamohjonljdnaaDoorPool6
set_option linter.unusedVariables false
set_option linter.unusedSimpArgs false
namespace Go.Proofs.YtiamohjonljdnaaDoor
open Go.RowKit

theorem tak_neg (f : Nat → Bool) : tak f (-1) = false := rfl
theorem cnt_next (f : Nat → Bool) (k : Nat) : cnt f (k + 1) = cnt f k + (if f k then 1 else 0) := rfl

set_option maxRecDepth 100000 in
set_option maxHeartbeats 2000000 in
theorem PoolCounts_calls (pages : Int) (A : Option Addr) (len cap : Nat) (fk fn : Nat → Int) (w : World) (T : Tb w) (h0 : 0 ≤ pages) (h1 : pages ≤ 255) (hlen : len ≤ 9223372036854775807) (hD : Deeds w A len fk fn) :
    Calls Tryd.prog 8 #[.int .u8 pages, .slice A len cap] w fun e w' => e = .returned (.bool true) ∧ Kept w w' := by
  obtain ⟨N, hN0⟩ := Int.eq_ofNat_of_zero_le (show 0 ≤ pages % 129 by omega)
  have hN : N ≤ 128 := by omega
  have HD := Lib.hid hD
  clear hD
  go_enter Tryd.func8, Tryd.ntmps8
  go_wp2_with fail
  refine (shown_calls _ T).mono ?_
  rintro e w1 ⟨rfl, K1⟩
  go_wp2_with fail
  refine (PNew_st K1 T N hN).mono ?_
  rintro e w2 ⟨p, rfl, S2⟩
  have HS2 := Lib.hid S2
  clear S2
  go_wp2_with fail
  go_loopw [9] (fun i wr => ∃ (k : Nat) (f : Nat → Bool), k ≤ 200 ∧ i = .int .i64 (k : Int) ∧ Pw w wr p N f) (fun i _ => 200 - (intOf i).toNat)
  case atStart => exact ⟨0, _, by omega, rfl, HS2.out⟩
  case round =>
    obtain ⟨k, f, hk, rfl, hS⟩ := hrel
    have HS := Lib.hid hS
    clear hS
    by_cases hlt : k < len ∧ k < 200
    · obtain ⟨hlt1, hlt2⟩ := hlt
      obtain ⟨ad, rfl, hck, hcn, hn⟩ := (HD.out.below HS.out.kept.below).at_ k hlt1
      generalize fk k = K at *
      generalize fn k = n at *
      by_cases h0 : K = 0
      · subst h0
        go_wp2_with fail
        refine (Take_any HS.out).mono ?_
        rintro e w3 ⟨a, m, g, rfl, S3⟩
        go_wp2
        go_roundw
        case rel => exact ⟨k + 1, g, by omega, by go_num, S3⟩
        case measure => simp [intOf]; omega
      · by_cases h1 : K = 1
        · subst h1
          go_wp2_with fail
          refine (Run_any HS.out n hn).mono ?_
          rintro e w3 ⟨a, m, g, rfl, S3⟩
          go_wp2
          go_roundw
          case rel => exact ⟨k + 1, g, by omega, by go_num, S3⟩
          case measure => simp [intOf]; omega
        · have e0 : (K == 0) = false := beq_eq_false_iff_ne.2 h0
          have e1 : (K == 1) = false := beq_eq_false_iff_ne.2 h1
          clear h0 h1
          go_wp2_with fail
          refine (Give_any HS.out n).mono ?_
          rintro e w3 ⟨m, g, rfl, S3⟩
          go_wp2
          go_roundw
          case rel => exact ⟨k + 1, g, by omega, by go_num, S3⟩
          case measure => simp [intOf]; omega
    · have hno : ((len : Int) ≤ (k : Int)) ∨ ((k : Int) < (len : Int)) ∧ k = 200 := by omega
      clear hlt
      rcases hno with hno | ⟨hno, rfl⟩
      all_goals
        go_wp2_with fail
        go_loop [10, 11] (fun c i => ∃ k : Nat, k ≤ N + 2 ∧ c = .int .i64 ((cnt f (k - 1) : Nat) : Int) ∧ i = .int .i64 ((k : Int) - 1)) (fun _ i => N + 2 - (intOf i + 1).toNat)
        case atStart => exact ⟨0, by omega, rfl, rfl⟩
        case round =>
          obtain ⟨m, hm, rfl, rfl⟩ := hrel
          have hcl := cnt_le f (m - 1)
          by_cases hmt : m ≤ N + 1
          · by_cases hm0 : m = 0
            · subst hm0
              go_wp2_with fail
              refine (Taken_calls HS.out.po _).mono ?_
              rintro e w3 ⟨rfl, rfl⟩
              rw [tak_neg]
              go_wp2
              go_round
              case rel => exact ⟨1, by omega, rfl, rfl⟩
              case measure => simp [intOf]
            · obtain ⟨q, rfl⟩ : ∃ q, m = q + 1 := ⟨m - 1, by omega⟩
              have hq : ((q + 1 : Nat) : Int) - 1 = (q : Int) := by omega
              rw [Nat.add_sub_cancel] at hcl ⊢
              rw [hq]
              clear hq
              go_wp2_with fail
              refine (Taken_calls HS.out.po _).mono ?_
              rintro e w3 ⟨rfl, rfl⟩
              rw [tak_at]
              have hc1 := cnt_next f q
              cases hf : f q
              · rw [hf] at hc1
                go_wp2
                go_round
                case rel => exact ⟨q + 2, by omega, by rw [show q + 2 - 1 = q + 1 from rfl, hc1]; simp, by go_num⟩
                case measure => simp [intOf]; omega
              · rw [hf] at hc1
                go_wp2
                go_round
                case rel => exact ⟨q + 2, by omega, by rw [show q + 2 - 1 = q + 1 from rfl, hc1]; simp, by go_num⟩
                case measure => simp [intOf]; omega
          · obtain rfl : m = N + 2 := by omega
            rw [show N + 2 - 1 = N + 1 from rfl] at hcl ⊢
            have hce : cnt f (N + 1) = cnt f N := cnt_beyond f N HS.out.po.out _ (by omega)
            rw [hce] at hcl ⊢
            have hcl2 := cnt_le f N
            clear hce
            go_wp2_with fail
            refine (PFree_calls HS.out.po).mono ?_
            rintro e w3 ⟨rfl, rfl⟩
            go_wp2_with fail
            refine (PLen_calls HS.out.po).mono ?_
            rintro e w3 ⟨rfl, rfl⟩
            go_wp2
            go_ret
            exact ⟨rfl, HS.out.kept⟩
end Go.Proofs.YtiamohjonljdnaaDoor
