/- ChainMoves: a node that is removed and pushed to another list is in that alone. -/
import Derived.Test.YtajbfjmbohkphaaChQ
import Derived.Test.YtajbfjmbohkphaaPost
set_option linter.unusedVariables false
set_option linter.unusedSimpArgs false
namespace Go.Proofs.Ytajbfjmbohkphaa
open Go.RowKit

theorem run_app (a b c : Nat) : run a (b + c) = run a b ++ run (a + b) c := by
  unfold run
  rw [← List.map_append]
  congr 1
  have := List.range'_append (s := a) (m := b) (n := c) (step := 1)
  rw [Nat.one_mul] at this
  exact this.symm
theorem run_get (a n i : Nat) (h : i < n) : (run a n).getD i 0 = 32 + 16 * ((a + i : Nat) : Int) := by
  unfold run
  rw [List.getD_eq_getElem?_getD, List.getElem?_map, List.getElem?_range' h]
  simp
theorem run_length (a n : Nat) : (run a n).length = n := by simp [run]
/-- N nodes but the one at j. -/
def but (N j : Nat) : List Int := run 0 j ++ run (j + 1) (N - 1 - j)
theorem but_erase (N j : Nat) (h : j < N) : (run 0 N).erase (32 + 16 * (j : Int)) = but N j := by
  have e : run 0 N = run 0 j ++ (32 + 16 * (j : Int)) :: run (j + 1) (N - 1 - j) := by
    rw [← run_cons, show N - 1 - j + 1 = N - j from by omega]
    have := run_app 0 j (N - j)
    rwa [show j + (N - j) = N from by omega, Nat.zero_add] at this
  rw [e, List.erase_append_right _ (fun hm => by have := (run_mem 0 j j).1 hm; omega), List.erase_cons_head]
  rfl
theorem but_length (N j : Nat) (h : j < N) : (but N j).length = N - 1 := by unfold but; rw [List.length_append, run_length, run_length]; omega
theorem but_get (N j i : Nat) (h : j < N) (hi : i < N - 1) : (but N j).getD i 0 = 32 + 16 * ((if i < j then i else i + 1 : Nat) : Int) := by
  unfold but
  rw [List.getD_eq_getElem?_getD]
  by_cases hij : i < j
  · rw [List.getElem?_append_left (by rw [run_length]; exact hij), ← List.getD_eq_getElem?_getD, run_get _ _ _ hij, if_pos hij, Nat.zero_add]
  · rw [List.getElem?_append_right (by rw [run_length]; omega), run_length, ← List.getD_eq_getElem?_getD, run_get _ _ _ (by omega), if_neg hij, show j + 1 + (i - j) = i + 1 from by omega]
theorem but_mem (N j : Nat) : 32 + 16 * (j : Int) ∉ but N j := by
  unfold but
  rw [List.mem_append]
  rintro (h | h)
  · have := (run_mem 0 j j).1 h; omega
  · have := (run_mem (j + 1) _ j).1 h; omega

/-- The head 16 has one, 8 the others. -/
def two (L M : List Int) : Int → List Int := updL (one L) 16 M
theorem two_8 (L M : List Int) : two L M 8 = L := (updL_ne (by omega)).trans (one_at L)
theorem two_16 (L M : List Int) : two L M 16 = M := updL_eq rfl
theorem push_two (L : List Int) (x : Int) (front : Bool) (h : x ∉ L) (y : Int) : pushLs (one L) 16 x front y = two L [x] y := by
  unfold pushLs two
  rw [ownr_one, if_neg h, if_pos rfl, one_other (by omega)]
  cases front <;> rfl

theorem node_quiet (n : Int) (h0 : 0 ≤ n) (h1 : n ≤ 255) (w : World) (m : Nat) :
    Calls Try.prog 12 #[.int .u8 n] (w.drewN m) fun e w'' => e = .returned (.int .i64 (nA n)) ∧ ∃ m, w'' = w.drewN m := by
  refine Calls.quiet_of_same ((node_calls n h0 h1 _).mono ?_)
  rintro e w' ⟨h, rfl⟩
  exact ⟨h, rfl⟩

set_option maxRecDepth 100000 in
set_option maxHeartbeats 2000000 in
theorem ChainMoves_calls (n which : Int) (front : Bool) (w : World) (h0 : 0 ≤ n) (h1 : n ≤ 255) (hw0 : 0 ≤ which) (hw1 : which ≤ 255) : Calls Try.prog 3 #[.int .u8 n, .int .u8 which, .bool front] w fun e w' => e = .returned (.bool true) ∧ Kept w w' := by
  obtain ⟨N, hN0⟩ := Int.eq_ofNat_of_zero_le (show 0 ≤ 1 + n % 14 by omega)
  have hN : N ≤ 14 ∧ 1 ≤ N := by omega
  obtain ⟨hN14, hN1⟩ := hN
  obtain ⟨j, hj0⟩ := Int.eq_ofNat_of_zero_le (show 0 ≤ which % (N : Int) from Int.emod_nonneg _ (by omega))
  have hj : j < N := by have := Int.emod_lt_of_pos which (show 0 < (N : Int) by omega); omega
  have HJ := Lib.hid hj0
  clear hj0
  go_enter Try.func3, Try.ntmps3
  go_wp2_with fail
  refine (shown_calls _).mono ?_
  rintro e w1 ⟨rfl, K1⟩
  go_wp2_with fail
  refine (fresh_cs K1).mono ?_
  rintro e w2 ⟨p, d, rfl, S2⟩
  have HS2 : Hid (Cs w w2 p d (one (run 0 0))) := Lib.hid (S2.congr (fun x => by show [] = one [] x; unfold one updL; split <;> rfl))
  clear S2
  go_wp2_with fail
  clear hN0
  go_loopw [10] (fun v wr => ∃ k : Nat, k ≤ N ∧ v = .int .i64 (k : Int) ∧ Cs w wr p d (one (run 0 k))) (fun v _ => N - (intOf v).toNat)
  case atStart => exact ⟨0, by omega, rfl, HS2.out⟩
  case round =>
    clear HS2
    obtain ⟨k, hk, rfl, hS⟩ := hrel
    have HS := Lib.hid hS
    clear hS
    by_cases hlt : k < N
    · have hk14 : k < 14 := by omega
      go_wp2_with fail
      refine (node_calls (k : Int) (by omega) (by omega) _).mono ?_
      rintro e w3 ⟨rfl, rfl⟩
      go_wp2_with fail
      refine (Push_cs HS.out isH8 (isN_nA k) false).mono ?_
      rintro e w4 ⟨rfl, S4, _⟩
      have hnm : nA (k : Int) ∉ run 0 k := by rw [nA_nat k hk14, run_mem]; omega
      have HS4 : Hid (Cs w w4 p d (one (run 0 (k + 1)))) := Lib.hid (S4.congr (fun y => by rw [push_one _ _ _ hnm, nA_nat k hk14, run_snoc, Nat.zero_add]; rfl))
      rw [ownr_one, if_neg hnm]
      clear S4
      go_wp2
      go_roundw
      case rel => exact ⟨k + 1, by omega, by go_num, HS4.out⟩
      case measure => simp [intOf]; omega
    · obtain rfl : N = k := by omega
      clear hlt hk
      go_wp2_with fail
      rw [HJ.out]
      refine (node_calls (j : Int) (by omega) (by omega) _).mono ?_
      rintro e w3 ⟨rfl, rfl⟩
      rw [nA_nat j (by omega)]
      have hxm : 32 + 16 * (j : Int) ∈ run 0 N := (run_mem 0 N j).2 (by omega)
      have hxN : isN (32 + 16 * (j : Int)) := by unfold isN; omega
      have HX := Lib.hid hxm
      clear hxm
      go_wp2_with fail
      refine (Remove_cs HS.out isH8 hxN).mono ?_
      rintro e w4 ⟨rfl, S4, _⟩
      rw [one_at, if_pos HX.out]
      have HS4 : Hid (Cs w w4 p d (one (but N j))) := Lib.hid (S4.congr (fun y => by rw [rem_one, but_erase N j hj]))
      clear S4
      go_wp2_with fail
      refine (Push_cs HS4.out isH16 hxN front).mono ?_
      rintro e w5 ⟨rfl, S5, _⟩
      rw [ownr_one, if_neg (but_mem N j), if_pos rfl]
      have HS5 : Hid (Cs w w5 p d (two (but N j) [32 + 16 * (j : Int)])) := Lib.hid (S5.congr (fun y => push_two _ _ _ (but_mem N j) y))
      clear S5
      go_wp2_with fail
      refine (All_cs HS5.out isH8).mono ?_
      rintro e w6 ⟨v6, rfl, hr6, S6, _⟩
      rw [two_8] at hr6
      obtain ⟨A6, c6, rfl, hR6⟩ := Ri.of_row hr6 rfl
      have HS6 := Lib.hid S6
      have HR6 := Lib.hid hR6
      have hd6 := HS5.out.new.2.1
      rw [but_length N j hj]
      clear S6 hr6 hR6
      go_wp2_with fail
      refine (All_cs HS6.out isH16).mono ?_
      rintro e w7 ⟨v7, rfl, hr7, S7, hg7⟩
      rw [two_16] at hr7
      obtain ⟨A7, c7, rfl, hR7⟩ := Ri.of_row hr7 rfl
      have HS7 := Lib.hid S7
      have HR6b := Lib.hid (HR6.out.grown hg7 hd6)
      obtain ⟨g7, rfl, _, hc7⟩ := hR7.at_ 0 (by simp)
      rw [show [32 + 16 * (j : Int)].getD 0 0 = 32 + 16 * (j : Int) from rfl] at hc7
      rw [show [32 + 16 * (j : Int)].length = 1 from rfl]
      have hNs : ((N - 1 : Nat) : Int) = (N : Int) - 1 := by omega
      clear S7 hr7 hR7 hg7 HR6
      go_wp2_with fail
      clear hNs hc7
      go_loopw [18, 19] (fun iv kv wx => ∃ k : Nat, k ≤ N ∧ kv = .int .i64 (k : Int) ∧ iv = .int .i64 ((if k ≤ j then k else k - 1 : Nat) : Int) ∧ Cs w wx p d (two (but N j) [32 + 16 * (j : Int)]) ∧ Ri wx w5.heap.size A6 (but N j)) (fun _ kv _ => N - (intOf kv).toNat)
      case atStart => exact ⟨0, by omega, rfl, by simp, HS7.out, HR6b.out⟩
      case round =>
        clear HS7 HR6b HS HS4 HS5 HS6
        obtain ⟨k, hk, rfl, rfl, hS, hR⟩ := hrel
        have HS := Lib.hid hS
        have HR := Lib.hid hR
        clear hS hR
        by_cases hlt : k < N
        · by_cases hkj : k = j
          · subst hkj
            have hix : (if k ≤ k then k else k - 1 : Nat) = k := if_pos (Nat.le_refl _)
            rw [hix]
            clear hix
            go_wp2_with fail
            refine (node_calls (k : Int) (by omega) (by omega) _).mono ?_
            rintro e w8 ⟨rfl, rfl⟩
            rw [nA_nat k (by omega)]
            go_wp2
            go_roundw
            case rel => exact ⟨k + 1, by omega, by go_num, by rw [if_neg (by omega)]; rfl, HS.out, HR.out⟩
            case measure => simp [intOf]; omega
          · obtain ⟨i, hi⟩ : ∃ i, (if k ≤ j then k else k - 1 : Nat) = i := ⟨_, rfl⟩
            rw [hi]
            have hi2 : i < N - 1 ∧ (if i < j then i else i + 1 : Nat) = k ∧ (if k + 1 ≤ j then k + 1 else k + 1 - 1 : Nat) = i + 1 := by
              split at hi
              · rw [if_pos (by omega)]; refine ⟨by omega, by omega, ?_⟩; split <;> omega
              · rw [if_neg (by omega)]; refine ⟨by omega, by omega, ?_⟩; split <;> omega
            obtain ⟨hi3, hi4, hi5⟩ := hi2
            obtain ⟨g6, rfl, _, hc6⟩ := HR.out.at_ i (by rw [but_length N j hj]; exact hi3)
            rw [but_get N j i hj hi3, hi4] at hc6
            have HI5 := Lib.hid hi5
            have hne : ((32 + 16 * (k : Int)) != (32 + 16 * (j : Int))) = true := by rw [bne_iff_ne]; omega
            have hwk : IntKind.u8.wrap (k : Int) = (k : Int) := by simp only [IntKind.wrap, IntKind.bits, IntKind.signed]; simp; omega
            have hib : (i : Int) < ((N - 1 : Nat) : Int) := by omega
            have hib2 : (i : Int) ≤ 14 := by omega
            clear hi hi4 hi5 hkj hi3
            go_wp2_with fail
            refine (node_calls (k : Int) (by omega) (by omega) _).mono ?_
            rintro e w8 ⟨rfl, rfl⟩
            rw [nA_nat k (by omega)]
            go_wp2_with fail
            go_quiet ((go_at_call 12; exact node_quiet (k : Int) (by omega) (by omega) _ _))
            rw [nA_nat k (by omega)]
            go_wp2
            go_roundw
            case rel => exact ⟨k + 1, by omega, by go_num, by rw [HI5.out]; go_num, HS.out.then_ (below_drewN (Below.refl _ _) _), HR.out.below (below_drewN (Below.refl _ _) _)⟩
            case measure => simp [intOf]; omega
        · have hkk : (N : Int) ≤ (k : Int) := by omega
          go_wp2_with fail
          refine (Remove_cs HS.out isH8 hxN).mono ?_
          rintro e w8 ⟨rfl, S8, _⟩
          rw [two_8, if_neg (but_mem N j)]
          go_wp2
          go_ret
          exact ⟨rfl, S8.kept⟩
end Go.Proofs.Ytajbfjmbohkphaa
