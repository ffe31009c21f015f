/- PoolOnce: no page is taken twice; as many are taken as there are, then none; each that was given can be taken again. -/
import Derived.Test.YtiamohjonljdnaaDoorPool5
set_option linter.unusedVariables false
set_option linter.unusedSimpArgs false
namespace Go.Proofs.YtiamohjonljdnaaDoor
open Go.RowKit

/-- The first k. -/
def first (k : Nat) : Nat → Bool := fun i => decide (i < k)
theorem first_next (k i : Nat) : (first k i || i == k) = first (k + 1) i := by
  unfold first
  rw [Bool.eq_iff_iff]
  simp only [Bool.or_eq_true, decide_eq_true_eq, beq_iff_eq]
  omega
theorem first_zero (i : Nat) : false = first 0 i := by simp [first]
theorem first_at {k i : Nat} (h : i < k) : first k i = true := decide_eq_true h
theorem first_not {k i : Nat} (h : ¬ i < k) : first k i = false := decide_eq_false h
theorem cnt_first (k n : Nat) (h : k ≤ n) : cnt (first k) n = k := by
  rw [cnt_beyond (first k) k (fun i hi => first_not (by omega)) n h]
  exact cnt_all _ _ (fun i hi => first_at hi)

set_option maxRecDepth 100000 in
set_option maxHeartbeats 2000000 in
theorem PoolOnce_calls (pages page : Int) (w : World) (T : Tb w) (h0 : 0 ≤ pages) (h1 : pages ≤ 255) :
    Calls Tryd.prog 5 #[.int .u8 pages, .int .i64 page] w fun e w' => e = .returned (.bool true) ∧ Kept w w' := by
  obtain ⟨N, hN0⟩ := Int.eq_ofNat_of_zero_le (show 0 ≤ pages % 129 by omega)
  have hN : N ≤ 128 := by omega
  go_enter Tryd.func5, Tryd.ntmps5
  go_wp2_with fail
  refine (shown_calls _ T).mono ?_
  rintro e w1 ⟨rfl, K1⟩
  go_wp2_with fail
  refine (PNew_st K1 T N hN).mono ?_
  rintro e w2 ⟨p, rfl, S2⟩
  have S2' := Lib.hid (S2.as_ first_zero)
  clear S2
  go_wp2_with fail
  go_loopw [9, 10] (fun l v wr => ∃ k : Nat, k ≤ N ∧ l = .int .i64 ((k : Int) - 1) ∧ v = .int .i64 (k : Int) ∧ Pw w wr p N (first k)) (fun _ v _ => N - (intOf v).toNat)
  case atStart => exact ⟨0, by omega, rfl, rfl, S2'.out⟩
  case round =>
    obtain ⟨k, hk, rfl, rfl, hS⟩ := hrel
    have HS := Lib.hid hS
    clear hS
    by_cases hlt : k < N
    · go_wp2_with fail
      refine (Take_st HS.out k hlt (first_not (by omega)) (fun i hi => first_at hi)).mono ?_
      rintro e w3 ⟨rfl, S3⟩
      have S3' := Lib.hid (S3.as_ (first_next k))
      clear S3
      go_wp2_with fail
      refine (Taken_st S3'.out (k : Int)).mono ?_
      rintro e w4 ⟨rfl, S4⟩
      rw [tak_at, first_at (by omega)]
      go_wp2_with fail
      refine (PFree_st S4).mono ?_
      rintro e w5 ⟨rfl, S5⟩
      rw [cnt_first (k + 1) N (by omega), show (N : Int) - ((k + 1 : Nat) : Int) = (N : Int) - (k : Int) - 1 from by omega]
      go_wp2
      go_roundw
      case rel => exact ⟨k + 1, by omega, by go_num, by go_num, S5⟩
      case measure => simp [intOf]; omega
    · obtain rfl : k = N := by omega
      go_wp2_with fail
      refine (Take_st_full HS.out (fun i hi => first_at hi)).mono ?_
      rintro e w3 ⟨rfl, S3⟩
      go_wp2_with fail
      refine (Run_st_none S3 1 (by omega) (by omega) (fun b hb => ⟨0, by omega, first_at (by omega)⟩)).mono ?_
      rintro e w4 ⟨rfl, S4⟩
      by_cases hb : page < 0 ∨ (k : Int) ≤ page
      · have HB := Lib.hid hb
        have hbb : (decide (page < 0) || decide ((k : Int) ≤ page)) = true := by rw [Bool.or_eq_true, decide_eq_true_eq, decide_eq_true_eq]; exact hb
        clear hb
        go_wp2_with fail
        all_goals
          refine (Give_st_bad S4 page HB.out).mono ?_
          rintro e w5 ⟨rfl, S5⟩
          go_wp2
          go_ret
          exact ⟨rfl, S5.kept⟩
      · obtain ⟨P, rfl⟩ := Int.eq_ofNat_of_zero_le (show 0 ≤ page by omega)
        have hP : P < k := by omega
        clear hb
        go_wp2_with fail
        refine (Give_st S4 P hP (first_at hP)).mono ?_
        rintro e w5 ⟨rfl, S5⟩
        go_wp2_with fail
        refine (Give_st_none S5 P hP (by simp)).mono ?_
        rintro e w6 ⟨rfl, S6⟩
        go_wp2_with fail
        refine (Run_st S6 1 P (by omega) (by omega) (fun j hj => by obtain rfl : j = 0 := (by omega); simp) (fun b hb => ⟨0, by omega, by have h1 : (b == P) = false := beq_eq_false_iff_ne.2 (by omega); simp [h1, first_at (show b < k by omega)]⟩)).mono ?_
        rintro e w7 ⟨rfl, S7⟩
        have S7' := Lib.hid (S7.as_ (g := first k) (fun i => by
          show (first k i && !(i == P) || (decide (P ≤ i) && decide (i < P + 1))) = first k i
          by_cases h : i = P
          · subst h; simp [first_at hP]
          · have h1 : (i == P) = false := beq_eq_false_iff_ne.2 h
            have h2 : (decide (P ≤ i) && decide (i < P + 1)) = false := by rw [Bool.and_eq_false_iff, decide_eq_false_iff_not, decide_eq_false_iff_not]; omega
            rw [h1, h2]; simp))
        clear S7
        go_wp2_with fail
        refine (PFree_st S7'.out).mono ?_
        rintro e w8 ⟨rfl, S8⟩
        rw [cnt_first k k (Nat.le_refl _), Int.sub_self]
        go_wp2
        go_ret
        exact ⟨rfl, S8.kept⟩
end Go.Proofs.YtiamohjonljdnaaDoor
