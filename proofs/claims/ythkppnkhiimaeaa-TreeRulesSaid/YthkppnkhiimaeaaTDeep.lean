/- TreeDeep: a tree of n leaves is no deeper than twice the bits of n and 1. -/
import Derived.Test.YthkppnkhiimaeaaTlw
set_option linter.unusedVariables false
set_option linter.unusedSimpArgs false
namespace Go.Proofs.Ythkppnkhiimaeaa
open Go.RowKit

def dep : Bt → Nat
  | .nil => 0
  | .node _ l _ r => (if dep l < dep r then dep r else dep l) + 1
theorem dep_ids : ∀ t : Bt, dep t ≤ t.ids.length
  | .nil => Nat.le_refl _
  | .node _ l _ r => by
    have h1 := dep_ids l
    have h2 := dep_ids r
    simp only [dep, Bt.ids, List.length_append, List.length_cons]
    split <;> omega
/-- By the rules: not too deep, not too few. -/
theorem ok_dep : ∀ (t : Bt) (k : Nat), ok t k → dep t ≤ 2 * k + (if t.red then 1 else 0) ∧ 2 ^ k ≤ t.ids.length + 1
  | .nil, k, h => by
    obtain rfl : k = 0 := h
    exact ⟨Nat.zero_le _, by simp [Bt.ids]⟩
  | .node true l _ r, k, ⟨h1, h2, h3, h4⟩ => by
    obtain ⟨a1, a2⟩ := ok_dep l k h1
    obtain ⟨b1, b2⟩ := ok_dep r k h2
    rw [h3] at a1
    rw [h4] at b1
    simp only [dep, Bt.ids, Bt.red, List.length_append, List.length_cons]
    simp at a1 b1
    constructor
    · simp; split <;> omega
    · omega
  | .node false l _ r, k, ⟨j, hj, h1, h2⟩ => by
    subst hj
    obtain ⟨a1, a2⟩ := ok_dep l j h1
    obtain ⟨b1, b2⟩ := ok_dep r j h2
    simp only [dep, Bt.ids, Bt.red, List.length_append, List.length_cons]
    have a3 : dep l ≤ 2 * j + 1 := by split at a1 <;> omega
    have b3 : dep r ≤ 2 * j + 1 := by split at b1 <;> omega
    constructor
    · simp; split <;> omega
    · rw [Nat.pow_succ]; omega
theorem RB.dep {t : Bt} (h : RB t) : ∃ k, dep t ≤ 2 * k ∧ 2 ^ k ≤ t.ids.length + 1 := by
  obtain ⟨k, h1, h2⟩ := h
  obtain ⟨a, b⟩ := ok_dep t k h1
  rw [h2] at a
  exact ⟨k, by simpa using a, b⟩

set_option maxHeartbeats 1000000 in
theorem deepest_hs {w0 : World} {p d : Nat} {kw : Int → Int} {h : Hp} : ∀ (t : Bt) (q : Int) (m : Nat) (w : World), Hs w0 w p d kw h → Rep h q t → dep t ≤ m → m ≤ 50 →
    Calls Try.prog 15 #[.pointer (some ⟨p, 0, none⟩), .int .i64 t.rt, .int .i64 (m : Int)] w fun e w' => e = .returned (.int .i64 (dep t : Nat)) ∧ Hs w0 w' p d kw h
  | .nil, q, m, w, S, R, hm, h50 => by
    have HS := Lib.hid S
    clear S
    show Calls _ _ #[.pointer (some ⟨p, 0, none⟩), .int .i64 0, .int .i64 (m : Int)] w _
    go_enter Try.func15, Try.ntmps15
    go_wp2
    go_ret
    exact ⟨rfl, HS.out⟩
  | .node c l n r, q, m, w, S, R, hm, h50 => by
    obtain ⟨h1, h2, h3, h4, h5, h6, h7, h8⟩ := R
    have hm1 : 1 ≤ m := by unfold dep at hm; omega
    have hl : dep l ≤ m - 1 := by unfold dep at hm; split at hm <;> omega
    have hr : dep r ≤ m - 1 := by unfold dep at hm; split at hm <;> omega
    have il := Lib.hid (fun (w : World) (S : Hs w0 w p d kw h) => deepest_hs l n (m - 1) w S h7 hl (by omega))
    have ir := Lib.hid (fun (w : World) (S : Hs w0 w p d kw h) => deepest_hs r n (m - 1) w S h8 hr (by omega))
    have hnb : (n == 0) = false := beq_eq_false_iff_ne.2 h1.ne0
    have hmb : ((m : Int) == 0) = false := beq_eq_false_iff_ne.2 (by omega)
    have hmm : (m : Int) - 1 = ((m - 1 : Nat) : Int) := by omega
    have HMM := Lib.hid hmm
    have HS := Lib.hid S
    have HN := Lib.hid h1
    have H5 := Lib.hid h5
    have H6 := Lib.hid h6
    have hdl : dep l ≤ 50 := by omega
    have hdr : dep r ≤ 50 := by omega
    clear S h1 h2 h3 h4 h5 h6 h7 h8 hm hl hr hmm
    show Calls _ _ #[.pointer (some ⟨p, 0, none⟩), .int .i64 n, .int .i64 (m : Int)] w _
    obtain ⟨x, hx⟩ : ∃ x, dep l = x := ⟨_, rfl⟩
    obtain ⟨y, hy⟩ : ∃ x, dep r = x := ⟨_, rfl⟩
    have hd : dep (.node c l n r) = (if x < y then y else x) + 1 := by rw [← hx, ← hy]; rfl
    rw [hd]
    rw [hx] at hdl il
    rw [hy] at hdr ir
    clear hd hx hy
    by_cases hlt : x < y
    · have hdd : decide ((x : Int) < (y : Int)) = true := decide_eq_true (by omega)
      rw [if_pos hlt]
      go_enter Try.func15, Try.ntmps15
      go_wp2_with fail
      refine (Child_hs HS.out HN.out false).mono ?_
      rintro e w1 ⟨rfl, S1, _⟩
      rw [H5.out]
      have HS1 := Lib.hid S1
      clear S1
      go_wp2_with fail
      refine (Child_hs HS1.out HN.out true).mono ?_
      rintro e w2 ⟨rfl, S2, _⟩
      rw [H6.out]
      have HS2 := Lib.hid S2
      clear S2
      go_wp2_with fail
      rw [HMM.out]
      refine (il.out _ HS2.out).mono ?_
      rintro e w3 ⟨rfl, S3⟩
      have HS3 := Lib.hid S3
      clear S3
      go_wp2_with fail
      rw [HMM.out]
      refine (ir.out _ HS3.out).mono ?_
      rintro e w4 ⟨rfl, S4⟩
      have HS4 := Lib.hid S4
      clear S4
      go_wp2
      go_ret
      exact ⟨ret_int (by simp), HS4.out⟩
    · have hdd : decide ((x : Int) < (y : Int)) = false := decide_eq_false (by omega)
      rw [if_neg hlt]
      go_enter Try.func15, Try.ntmps15
      go_wp2_with fail
      refine (Child_hs HS.out HN.out false).mono ?_
      rintro e w1 ⟨rfl, S1, _⟩
      rw [H5.out]
      have HS1 := Lib.hid S1
      clear S1
      go_wp2_with fail
      refine (Child_hs HS1.out HN.out true).mono ?_
      rintro e w2 ⟨rfl, S2, _⟩
      rw [H6.out]
      have HS2 := Lib.hid S2
      clear S2
      go_wp2_with fail
      rw [HMM.out]
      refine (il.out _ HS2.out).mono ?_
      rintro e w3 ⟨rfl, S3⟩
      have HS3 := Lib.hid S3
      clear S3
      go_wp2_with fail
      rw [HMM.out]
      refine (ir.out _ HS3.out).mono ?_
      rintro e w4 ⟨rfl, S4⟩
      have HS4 := Lib.hid S4
      clear S4
      go_wp2
      go_ret
      exact ⟨ret_int (by simp), HS4.out⟩

/-- How many times n may be halved. -/
theorem pow_bits {k b n : Nat} (h1 : 2 ^ k ≤ n) (h2 : n < 2 ^ (b + 1)) : k ≤ b := by
  have : 2 ^ k < 2 ^ (b + 1) := by omega
  have := (Nat.pow_lt_pow_iff_right (by decide : 1 < 2)).1 this
  omega

set_option maxRecDepth 100000 in
set_option maxHeartbeats 2000000 in
theorem TreeDeep_calls (A : Option Addr) (len cap : Nat) (f : Nat → Int) (w : World) (c : ColI w A len 1 0 .u64 f) (hlc : len ≤ cap) (hm : len ≤ maxLen) :
    Calls Try.prog 3 #[.slice A len cap] w fun e w' => e = .returned (.bool true) ∧ Kept w w' := by
  have hA : 0 < len → ∃ ad : Addr, A = some ad := fun h => by obtain ⟨ad, e, _⟩ := c 0 h; exact ⟨ad, e⟩
  obtain ⟨N, hNe⟩ : ∃ N, min len 40 = N := ⟨_, rfl⟩
  have hN : N ≤ 40 := by omega
  have hky : Ky w A N f := ⟨fun i hi => (Ky.of_col c).at_ i (by omega)⟩
  have HKy := Lib.hid hky
  have HA := Lib.hid hA
  have HM := Lib.hid hm
  have HNE := Lib.hid hNe
  clear c hA hky hNe hm
  go_enter Try.func3, Try.ntmps3
  go_wp2_with fail
  refine (shown_calls _).mono ?_
  rintro e w1 ⟨rfl, K1⟩
  have HK1 := Lib.hid K1
  clear K1
  go_wp2_with fail
  refine (few_calls hlc HM.out HA.out).mono ?_
  rintro e w' ⟨rfl, rfl⟩
  rw [HNE.out]
  clear hlc
  go_wp2_with fail
  refine (fresh_fh HK1.out (HKy.out.below HK1.out.below) hN).mono ?_
  rintro e w2 ⟨p, d, kw, rfl, F2, _, _⟩
  have HT2 := Lib.hid F2.ts
  clear F2
  go_wp2
  go_loopg [5] N (fun gq v wr => ∃ (k : Nat) (h : Hp) (t : Bt), k ≤ N ∧ gq = N - k ∧ v = .int .i64 (k : Int) ∧ Ts w wr p d kw h t ∧ Fst t k)
  case atStart => exact ⟨0, _, _, by omega, by omega, rfl, HT2.out, Fst.nil⟩
  case round =>
    clear HT2
    obtain ⟨k, h, t, hk, rfl, rfl, hT, hF⟩ := hrel
    have HT := Lib.hid hT
    have HF := Lib.hid hF
    clear hT hF
    by_cases hlt : k < N
    · have hd : decide ((k : Int) < (N : Int)) = true := decide_eq_true (by omega)
      have hk40 : k < 40 := by omega
      go_wp2_with fail
      refine (leaf_calls ((k : Int) + 1) (by omega) (by omega) _).mono ?_
      rintro e w' ⟨rfl, rfl⟩
      obtain ⟨h', t', _, a2, a3⟩ := Add_ts HT.out (isN_lf hk40) HF.out.not
      have HT3 := Lib.hid a2
      have HC3 := Lib.hid a3
      clear a2 a3
      go_wp2_with fail
      refine HC3.out.mono ?_
      rintro e w4 ⟨rfl, T4, _⟩
      have HT4 := Lib.hid T4
      have HF4 := Lib.hid (HF.out.add HT3.out)
      clear T4 HT3 HC3
      go_wp2
      go_roundg (N - (k + 1))
      case measure => omega
      case rel => exact ⟨k + 1, h', t', by omega, rfl, by go_num, HT4.out, HF4.out⟩
    · obtain rfl : N = k := by omega
      have hd : decide ((N : Int) < (N : Int)) = false := decide_eq_false (by omega)
      obtain ⟨j, hj1, hj2⟩ := HT.out.rb.dep
      have hdp : dep t ≤ 50 := by have := dep_ids t; have := HT.out.F.len; omega
      rw [HF.out.len] at hj2
      have HJ1 := Lib.hid hj1
      have HJ2 := Lib.hid hj2
      clear hlt hk hj1 hj2
      go_wp2
      go_loopg [6, 7] (N + 1) (fun gq vb vn wr => ∃ (b n : Nat), 1 ≤ n ∧ gq = n ∧ n ≤ 41 ∧ b ≤ 5 ∧ vb = .int .i64 (b : Int) ∧ vn = .int .i64 (n : Int) ∧ n * 2 ^ b ≤ N + 1 ∧ N + 1 < (n + 1) * 2 ^ b ∧ Ts w wr p d kw h t)
      case atStart => exact ⟨0, N + 1, by omega, rfl, by omega, by omega, rfl, by go_num, by simp, by simp, HT.out⟩
      case round =>
        clear HT HF
        obtain ⟨b, n, hn1, rfl, hn41, hb5, rfl, rfl, hlo, hhi, hT⟩ := hrel
        have HT := Lib.hid hT
        clear hT
        by_cases hn : 1 < gk
        · have hd2 : decide ((1 : Int) < (gk : Int)) = true := decide_eq_true (by omega)
          have hpos : 0 < 2 ^ b := Nat.pos_of_ne_zero (by simp)
          have hq : (gk / 2) * 2 ^ (b + 1) ≤ N + 1 := by
            rw [Nat.pow_succ]
            have : gk / 2 * (2 ^ b * 2) = (gk / 2 * 2) * 2 ^ b := by rw [Nat.mul_comm (2 ^ b) 2, ← Nat.mul_assoc]
            rw [this]
            exact Nat.le_trans (Nat.mul_le_mul_right _ (by omega)) hlo
          have hr : N + 1 < (gk / 2 + 1) * 2 ^ (b + 1) := by
            rw [Nat.pow_succ]
            have : (gk / 2 + 1) * (2 ^ b * 2) = ((gk / 2 + 1) * 2) * 2 ^ b := by rw [Nat.mul_comm (2 ^ b) 2, ← Nat.mul_assoc]
            rw [this]
            exact Nat.lt_of_lt_of_le hhi (Nat.mul_le_mul_right _ (by omega))
          have hb4 : b + 1 ≤ 5 := by
            have h1 : 2 ^ (b + 1) ≤ N + 1 := Nat.le_trans (Nat.le_mul_of_pos_left _ (by omega)) hq
            have h2 : 2 ^ (b + 1) < 2 ^ 6 := by have : (2 : Nat) ^ 6 = 64 := by decide
                                                omega
            have := (Nat.pow_lt_pow_iff_right (by decide : 1 < 2)).1 h2
            omega
          have HQ := Lib.hid hq
          have HR := Lib.hid hr
          have htd : Int.tdiv (gk : Int) 2 = ((gk / 2 : Nat) : Int) := by rw [Int.tdiv_eq_ediv_of_nonneg (by omega)]; omega
          clear hlo hhi hq hr hpos
          go_wp2
          go_roundg (gk / 2)
          case measure => omega
          case rel => exact ⟨b + 1, gk / 2, by omega, rfl, by omega, hb4, by go_num, by go_num, HQ.out, HR.out, HT.out⟩
        · obtain rfl : gk = 1 := by omega
          have hj : j ≤ b := pow_bits HJ2.out (by rw [Nat.pow_succ, Nat.mul_comm]; exact hhi)
          have hdb : dep t ≤ 2 * b + 1 := by have := HJ1.out; omega
          obtain ⟨x, hx⟩ : ∃ x, dep t = x := ⟨_, rfl⟩
          rw [hx] at hdp hdb
          have HX := Lib.hid hx
          clear hlo hhi hj hx hn hn1
          go_wp2_with fail
          refine (Root_ts HT.out).mono ?_
          rintro e w5 ⟨rfl, T5, _⟩
          have HT5 := Lib.hid T5
          clear T5
          go_wp2_with fail
          refine (deepest_hs t 0 50 _ HT5.out.S HT5.out.F.T (by rw [HX.out]; exact hdp) (by omega)).mono ?_
          rintro e w6 ⟨rfl, S6⟩
          rw [HX.out]
          have HS6 := Lib.hid S6
          have hle : decide ((x : Int) ≤ 2 * (b : Int) + 1) = true := decide_eq_true (by omega)
          clear S6
          go_wp2
          go_ret
          exact ⟨rfl, HS6.out.kept⟩
end Go.Proofs.Ythkppnkhiimaeaa
