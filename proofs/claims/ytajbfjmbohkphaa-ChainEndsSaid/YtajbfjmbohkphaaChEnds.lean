/- ChainEnds: last in, first out at one end; first in, first out at the other. -/
import Derived.Test.YtajbfjmbohkphaaChQ
import Derived.Test.YtajbfjmbohkphaaPost
set_option linter.unusedVariables false
set_option linter.unusedSimpArgs false
namespace Go.Proofs.Ytajbfjmbohkphaa
open Go.RowKit

/-- The list, the nodes from a on, n of them, having been pushed at an end. -/
def stk (front : Bool) (a n : Nat) : List Int := if front then (run a n).reverse else run a n
theorem stk_push (front : Bool) (n : Nat) : (if front then (32 + 16 * (n : Int)) :: stk front 0 n else stk front 0 n ++ [32 + 16 * (n : Int)]) = stk front 0 (n + 1) := by
  unfold stk
  rw [run_snoc, Nat.zero_add]
  cases front <;> simp
theorem stk_mem (front : Bool) (a n k : Nat) : 32 + 16 * (k : Int) ∈ stk front a n ↔ a ≤ k ∧ k < a + n := by
  unfold stk
  cases front
  · exact run_mem a n k
  · rw [if_pos rfl, List.mem_reverse]; exact run_mem a n k
/-- What comes out where it went in: the last one. -/
theorem stk_same (front : Bool) (a n : Nat) : endN (stk front a (n + 1)) front = 32 + 16 * ((a + n : Nat) : Int) ∧ (stk front a (n + 1)).erase (32 + 16 * ((a + n : Nat) : Int)) = stk front a n := by
  have hm : 32 + 16 * ((a + n : Nat) : Int) ∉ run a n := fun h => by have := (run_mem a n (a + n)).1 h; omega
  unfold stk endN
  rw [run_snoc]
  cases front
  · exact ⟨by simp [List.getLastD_eq_getLast?], erase_last hm⟩
  · simp
/-- .. at the other end: the first one. -/
theorem stk_other (front : Bool) (a n : Nat) : endN (stk front a (n + 1)) (!front) = 32 + 16 * (a : Int) ∧ (stk front a (n + 1)).erase (32 + 16 * (a : Int)) = stk front (a + 1) n := by
  have hm : 32 + 16 * (a : Int) ∉ (run (a + 1) n).reverse := fun h => by have := (run_mem (a + 1) n a).1 (List.mem_reverse.1 h); omega
  unfold stk endN
  rw [run_cons]
  cases front
  · simp
  · refine ⟨by simp [List.getLastD_eq_getLast?], ?_⟩
    show ((32 + 16 * (a : Int)) :: run (a + 1) n).reverse.erase _ = (run (a + 1) n).reverse
    rw [List.reverse_cons, erase_last hm]
theorem stk_ne (front : Bool) (a n : Nat) : stk front a (n + 1) ≠ [] := by
  intro h
  have := (stk_mem front a (n + 1) a).2 ⟨by omega, by omega⟩
  rw [h] at this; cases this
theorem stk_nil (front : Bool) (a : Nat) : stk front a 0 = [] := by cases front <;> rfl

/-- What is left behind k rounds. -/
def left_ (inn_ out : Bool) (N k : Nat) : List Int := if inn_ = out then stk inn_ 0 (N - k) else stk inn_ k (N - k)
theorem left_zero (i o : Bool) (N : Nat) : left_ i o N 0 = stk i 0 N := by unfold left_; split <;> rfl
theorem left_end (i o : Bool) (N : Nat) : left_ i o N N = [] := by unfold left_; rw [Nat.sub_self]; split <;> exact stk_nil _ _
def want (i o : Bool) (N k : Nat) : Int := if i = o then 32 + 16 * ((N - 1 - k : Nat) : Int) else 32 + 16 * (k : Int)
theorem left_step (i o : Bool) (N k : Nat) (h : k < N) : endN (left_ i o N k) o = want i o N k ∧ (left_ i o N k).erase (want i o N k) = left_ i o N (k + 1) ∧ left_ i o N k ≠ [] := by
  obtain ⟨m, hm⟩ : ∃ m, N - k = m + 1 := ⟨N - k - 1, by omega⟩
  unfold left_ want
  by_cases e : i = o
  · subst e
    simp only [if_true]
    rw [hm, show N - (k + 1) = m from by omega, show N - 1 - k = m from by omega]
    have := stk_same i 0 m
    rw [Nat.zero_add] at this
    exact ⟨this.1, this.2, stk_ne _ _ _⟩
  · have e2 : o = !i := by cases i <;> cases o <;> simp_all
    subst e2
    rw [if_neg e, if_neg e, if_neg e, hm, show N - (k + 1) = m from by omega]
    exact ⟨(stk_other i k m).1, (stk_other i k m).2, stk_ne _ _ _⟩

set_option maxRecDepth 100000 in
set_option maxHeartbeats 2000000 in
theorem ChainEnds_calls (n : Int) (i o : Bool) (w : World) (h0 : 0 ≤ n) (h1 : n ≤ 255) : Calls Try.prog 4 #[.int .u8 n, .bool i, .bool o] w fun e w' => e = .returned (.bool true) ∧ Kept w w' := by
  obtain ⟨N, hN0⟩ := Int.eq_ofNat_of_zero_le (show 0 ≤ n % 15 by omega)
  have hN : N ≤ 14 := by omega
  go_enter Try.func4, Try.ntmps4
  go_wp2_with fail
  refine (shown_calls _).mono ?_
  rintro e w1 ⟨rfl, K1⟩
  go_wp2_with fail
  refine (fresh_cs K1).mono ?_
  rintro e w2 ⟨p, d, rfl, S2⟩
  have HS2 : Hid (Cs w w2 p d (one (stk i 0 0))) := Lib.hid (S2.congr (fun x => by rw [stk_nil]; unfold one updL; split <;> rfl))
  clear S2
  go_wp2_with fail
  clear hN0
  go_loopw [10] (fun v wr => ∃ k : Nat, k ≤ N ∧ v = .int .i64 (k : Int) ∧ Cs w wr p d (one (stk i 0 k))) (fun v _ => N - (intOf v).toNat)
  case atStart => exact ⟨0, by omega, rfl, HS2.out⟩
  case round =>
    clear HS2
    obtain ⟨k, hk, rfl, hS⟩ := hrel
    have HS := Lib.hid hS
    clear hS
    by_cases hlt : k < N
    · have hk14 : k < 14 := by omega
      go_wp2_with fail
      refine (node_calls (k : Int) (by omega) (by omega) _).mono ?_
      rintro e w3 ⟨rfl, rfl⟩
      go_wp2_with fail
      refine (Push_cs HS.out isH8 (isN_nA k) i).mono ?_
      rintro e w4 ⟨rfl, S4, _⟩
      have hnm : nA (k : Int) ∉ stk i 0 k := by rw [nA_nat k hk14, stk_mem]; omega
      have HS4 : Hid (Cs w w4 p d (one (stk i 0 (k + 1)))) := Lib.hid (S4.congr (fun y => by rw [push_one _ _ _ hnm, nA_nat k hk14, stk_push]))
      rw [ownr_one, if_neg hnm]
      clear S4
      go_wp2
      go_roundw
      case rel => exact ⟨k + 1, by omega, by go_num, HS4.out⟩
      case measure => simp [intOf]; omega
    · obtain rfl : N = k := by omega
      clear hlt hk
      go_wp2_with fail
      go_loopw [11, 12, 13, 14] (fun v _ _ _ wr => ∃ k : Nat, k ≤ N ∧ v = .int .i64 (k : Int) ∧ Cs w wr p d (one (left_ i o N k))) (fun v _ _ _ _ => N - (intOf v).toNat)
      case atStart => exact ⟨0, by omega, rfl, by rw [left_zero]; exact HS.out⟩
      case round =>
        clear HS
        obtain ⟨k, hk, rfl, hS⟩ := hrel
        have HS := Lib.hid hS
        clear hS
        by_cases hlt : k < N
        · obtain ⟨l1, l2, l3⟩ := left_step i o N k hlt
          have hW : want i o N k = if i = o then nA ((N - 1 - k : Nat) : Int) else nA (k : Int) := by unfold want; rw [nA_nat _ (by omega), nA_nat _ (by omega)]
          have L1 := Lib.hid l1
          have L2 := Lib.hid l2
          have L3 := Lib.hid l3
          have HW := Lib.hid hW
          clear l1 l2 l3 hW
          by_cases e : i = o
          · have eb : (i == o) = true := by rw [e]; simp
            have hsub : ((N : Int) - 1 - (k : Int)) = ((N - 1 - k : Nat) : Int) := by omega
            have HSUB := Lib.hid hsub
            have EE := Lib.hid e
            clear e hsub
            go_wp2_with fail
            refine (node_calls (k : Int) (by omega) (by omega) _).mono ?_
            rintro e w3 ⟨rfl, rfl⟩
            go_wp2_with fail
            rw [HSUB.out]
            refine (node_calls _ (by omega) (by omega) _).mono ?_
            rintro e w3 ⟨rfl, rfl⟩
            go_wp2_with fail
            refine (Pop_cs HS.out isH8 o).mono ?_
            rintro e w4 ⟨rfl, S4, _⟩
            rw [one_at, L1.out, if_neg L3.out, HW.out, if_pos EE.out]
            have HS4 : Hid (Cs w w4 p d (one (left_ i o N (k + 1)))) := Lib.hid (S4.congr (fun y => by rw [rem_one, one_at, L1.out, L2.out]))
            clear S4
            go_wp2
            go_roundw
            case rel => exact ⟨k + 1, by omega, by go_num, HS4.out⟩
            case measure => simp [intOf]; omega
          · have eb : (i == o) = false := beq_eq_false_iff_ne.2 e
            have EE := Lib.hid e
            clear e
            go_wp2_with fail
            refine (node_calls (k : Int) (by omega) (by omega) _).mono ?_
            rintro e w3 ⟨rfl, rfl⟩
            go_wp2_with fail
            refine (Pop_cs HS.out isH8 o).mono ?_
            rintro e w4 ⟨rfl, S4, _⟩
            rw [one_at, L1.out, if_neg L3.out, HW.out, if_neg EE.out]
            have HS4 : Hid (Cs w w4 p d (one (left_ i o N (k + 1)))) := Lib.hid (S4.congr (fun y => by rw [rem_one, one_at, L1.out, L2.out]))
            clear S4
            go_wp2
            go_roundw
            case rel => exact ⟨k + 1, by omega, by go_num, HS4.out⟩
            case measure => simp [intOf]; omega
        · obtain rfl : N = k := by omega
          clear hlt hk
          have HE := Lib.hid (left_end i o N)
          go_wp2_with fail
          refine (Pop_cs HS.out isH8 o).mono ?_
          rintro e w4 ⟨rfl, S4, _⟩
          rw [one_at, HE.out, if_pos rfl]
          obtain ⟨bs, O4, Z4⟩ := S4.zero (fun h hh => by
            unfold remLs
            rw [one_at, HE.out]
            by_cases e : h = 8
            · rw [updL_eq e]; rfl
            · rw [updL_ne e, one_other e])
          have HZ := Lib.hid Z4
          have HO4 := Lib.hid O4
          clear S4 O4 Z4
          go_wp2_with fail
          refine (Bytes_st HO4.out 0 512 (by omega)).mono ?_
          rintro e w5 ⟨g, rfl, hk, S5⟩
          rw [(cut_all HZ.out.len).1] at hk
          rw [(cut_all HZ.out.len).1, (cut_all HZ.out.len).2, HZ.out.len]
          have HK := Lib.hid hk
          have HS5 := Lib.hid S5
          clear hk S5
          go_wp2
          go_loop [19] (fun i => ∃ k : Nat, k ≤ 512 ∧ i = .int .i64 k) (fun i => 512 - (intOf i).toNat)
          case atStart => exact ⟨0, by omega, rfl⟩
          case round =>
            obtain ⟨k, hk, rfl⟩ := hrel
            by_cases hlt : k < 512
            · have hcell : w5.cell? ⟨g, k, none⟩ = some (.int .u8 0) := by rw [HK.out.byte k (by rw [HZ.out.len]; exact hlt), HZ.out.z k]
              go_wp2
              go_round
              case rel => exact ⟨k + 1, by omega, by go_num⟩
              case measure => simp [intOf]; omega
            · have hkk : (512 : Int) ≤ (k : Int) := by omega
              go_wp2
              go_ret
              exact ⟨rfl, HS5.out.kept⟩
end Go.Proofs.Ytajbfjmbohkphaa
