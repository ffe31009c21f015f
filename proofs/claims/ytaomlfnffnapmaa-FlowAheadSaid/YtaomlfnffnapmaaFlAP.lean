/- FlowAhead, plain: a plain instruction ahead of a program that is well. -/
import Derived.Test.YtaomlfnffnapmaaFlPlain
set_option linter.unusedVariables false
set_option linter.unusedSimpArgs false
namespace Go.Proofs.Ytaomlfnffnapmaa
open Go.RowKit

theorem hd_getD (x : Ins) (L : List Ins) (k : Nat) : (x :: L).getD (k + 1) z0 = L.getD k z0 := by simp
theorem hd_beh (x : Ins) (L : List Ins) {k : Nat} (hk : k < L.length) : beh (x :: L) ((k + 1 : Nat) : Int) = (beh L (k : Int)).map (fun y => y + 1) := by
  unfold beh
  have a1 : ¬ (((k + 1 : Nat) : Int) < 0 ∨ ((x :: L).length : Int) ≤ ((k + 1 : Nat) : Int)) := by rw [List.length_cons]; omega
  have a2 : ¬ ((k : Int) < 0 ∨ (L.length : Int) ≤ (k : Int)) := by omega
  rw [if_neg a1, if_neg a2, Int.toNat_natCast, Int.toNat_natCast, hd_getD]
  generalize L.getD k z0 = y
  have e : ((k + 1 : Nat) : Int) = (k : Int) + 1 := by omega
  have e2 : (k : Int) + 1 + y.imm = (k : Int) + y.imm + 1 := by omega
  rw [e, e2]
  by_cases h15 : y.op = 15
  · rw [if_pos h15, if_pos h15]; rfl
  rw [if_neg h15, if_neg h15]
  by_cases h5 : y.op = 5
  · rw [if_pos h5, if_pos h5]; rfl
  rw [if_neg h5, if_neg h5]
  by_cases h67 : y.op = 6 ∨ y.op = 7
  · rw [if_pos h67, if_pos h67]
    by_cases h1 : y.imm = 1
    · rw [if_pos h1, if_pos h1]; rfl
    · rw [if_neg h1, if_neg h1]; rfl
  · rw [if_neg h67, if_neg h67]; rfl
section
variable {x : Ins} {L : List Ins} (hx : Plain x) (hw : (fchk L).2 = 0)
include hx hw
omit hw in
theorem hd_zero : beh (x :: L) ((0 : Nat) : Int) = [((0 + 1 : Nat) : Int)] := beh_next (k := 0) (by simp) hx.n5 hx.n6 hx.n7 hx.n15
theorem hd_bad : ∀ k, k ≤ L.length → bad (x :: L) k = 0
  | 0, _ => by
    have hl := well_len hw
    have hc : chk ((x :: L).getD 0 z0) = 0 := hx.chk
    unfold bad
    rw [if_neg (by rw [hc]; simp), if_neg (by rw [show rch (x :: L) 0 0 = true from rfl]; simp), if_neg]
    rw [hd_zero hx, List.length_cons]
    simp; omega
  | k + 1, h => by
    obtain ⟨h1, h2, h3⟩ := well_chk hw k (by omega)
    have hr : rch (x :: L) (k + 1) (k + 1) = true := by
      unfold rch at h2 ⊢
      rw [Bool.or_eq_true, List.any_eq_true] at h2 ⊢
      refine .inr ?_
      rcases h2 with h2 | ⟨j, hj, h2⟩
      · obtain rfl : k = 0 := by simpa using h2
        exact ⟨0, by simp, by rw [hd_zero hx]; simp⟩
      · have hj' : j < k := List.mem_range.1 hj
        refine ⟨j + 1, List.mem_range.2 (by omega), ?_⟩
        rw [decide_eq_true_eq] at h2 ⊢
        rw [hd_beh x L (by omega)]
        exact List.mem_map.2 ⟨_, h2, by omega⟩
    unfold bad
    rw [hd_getD, if_neg (by rw [h1]; simp), if_neg (by rw [hr]; simp), if_neg]
    rw [hd_beh x L (by omega), List.length_cons]
    intro hc
    obtain ⟨y, hy, hy2⟩ := List.any_eq_true.1 hc
    obtain ⟨z, hz, rfl⟩ := List.mem_map.1 hy
    have := h3 z hz
    rw [decide_eq_true_eq] at hy2
    omega
theorem hd_U : ∀ d k, k + d = L.length + 1 → fchkU (x :: L) d k = (0, 0)
  | 0, k, h => rfl
  | d + 1, k, h => by
    unfold fchkU
    rw [if_neg (by rw [hd_bad hx hw k (by omega)]; simp)]
    exact hd_U d (k + 1) (by omega)
theorem hd_fchk (hl : L.length < 128) : fchk (x :: L) = (0, 0) := by
  unfold fchk
  rw [List.length_cons, if_neg (by omega)]
  exact hd_U hx hw _ _ (by omega)
theorem hd_lgN (hl : L.length < 128) : ∀ d k, k < L.length → L.length ≤ k + d → lgN (x :: L) (k + 1) = lgN L k
  | 0, k, h, h2 => by omega
  | d + 1, k, h, h2 => by
    have ih := fun j (hj : k < j) (hj2 : j < L.length) => hd_lgN hl d j hj2 (by omega)
    rw [lgN_eq (by rw [hd_fchk hx hw hl]) (by rw [List.length_cons]; omega), lgN_eq hw h, hd_beh x L h]
    rcases well_two hw h with ⟨_, e⟩ | ⟨y, e, h1, h2⟩ | ⟨y, z, e, h1, h2, h3⟩
    · rw [e]; rfl
    · rw [e]
      show max 0 (lgN (x :: L) ((y : Int) + 1).toNat) + 1 = max 0 (lgN L (y : Int).toNat) + 1
      rw [show ((y : Int) + 1).toNat = y + 1 from by omega, ih y (by omega) (by omega), Int.toNat_natCast]
    · rw [e]
      show max (max 0 (lgN (x :: L) ((y : Int) + 1).toNat)) (lgN (x :: L) ((z : Int) + 1).toNat) + 1 = max (max 0 (lgN L (y : Int).toNat)) (lgN L (z : Int).toNat) + 1
      rw [show ((y : Int) + 1).toNat = y + 1 from by omega, show ((z : Int) + 1).toNat = z + 1 from by omega, ih y (by omega) (by omega), ih z (by omega) (by omega), Int.toNat_natCast, Int.toNat_natCast]
theorem hd_lng (hl : L.length < 128) : lng (x :: L) = (lgN L 0 + 1, 0) := by
  have h0 := well_len hw
  rw [lng_well (by rw [hd_fchk hx hw hl]), lgN_eq (by rw [hd_fchk hx hw hl]) (by simp), hd_zero hx]
  have e := hd_lgN hx hw hl L.length 0 (by omega) (by omega)
  have := lgN_pos hw (k := 0) (by omega)
  show (max 0 (lgN (x :: L) (((0 + 1 : Nat) : Int)).toNat) + 1, _) = _
  rw [Int.toNat_natCast, e, Int.max_eq_right (by omega)]
end
end Go.Proofs.Ytaomlfnffnapmaa
