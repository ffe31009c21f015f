/- Lemmas of the claim TreePlays. -/
import Derived.Test.YthkppnkhiimaeaaTrS6
import Derived.Test.YthkppnkhiimaeaaTsh
/- TreePlays, plain: Lowest, Make, beside the links. -/
set_option linter.unusedVariables false
set_option linter.unusedSimpArgs false
namespace Go.Proofs.Ythkppnkhiimaeaa.PTreePlays
open Go.RowKit Go.Proofs.Ythkppnkhiimaeaa Go.Proofs.YthkppnkhiimaeaaW.PrintWords Go.Proofs.YthkppnkhiimaeaaW.PrintLast Go.Proofs.YthkppnkhiimaeaaW.PrintMore
section
variable {N : Nat} {key : Int → Int} {l : List S80} {top : Int} {h : Hp}
theorem first_sim {t : Bt} (F : Foc h [] t) (S : Sm N key l top h) : ∃ k m, turnbuckleref11_Lowest.f k l top top = some m ∧ t.ids.headD 0 = 32 * m ∧ rn N m := by
  have hl := S.l40
  obtain ⟨k, _, h1 | h1⟩ := low_of F
  · obtain ⟨h0, h2⟩ := h1
    have t0 : top = 0 := by have := S.tp; omega
    subst t0
    refine ⟨1, 0, ?_, by rw [h2]; rfl, S.tr⟩
    have e : G l 0 = z80 := G_out (by omega)
    simp [turnbuckleref11_Lowest.f, turnbuckleref11_Lowest.l0, Of_eq, hl, e, z80]
  · obtain ⟨yn, a1, a2, a3, a4⟩ := low_sim h1 S S.tp S.tr
    exact ⟨0 + k + 1, yn, a4 0, a1, by omega, a3⟩
def mk80 (ks : List Int) : List S80 := ks.map fun x => ⟨x, 0, 0, 0, false, false⟩
theorem Make_l0 (ks : List Int) (hk : ks.length ≤ 40) : ∀ (d i : Nat), ks.length = i + d → turnbuckleref11_Make.l0 (d + 1) ks (i : Int) (mk80 (ks.take i)) 0 = some (mk80 ks, 0) := by
  intro d
  induction d with
  | zero =>
    intro i hi
    rw [turnbuckleref11_Make.l0, if_neg (by omega), List.take_of_length_le (by omega)]
  | succ d ih =>
    intro i hi
    have hlt : i < ks.length := by omega
    have hlen : (mk80 (ks.take i)).length = i := by unfold mk80; rw [List.length_map, List.length_take]; omega
    rw [turnbuckleref11_Make.l0, if_pos (by omega), if_pos (by omega), if_pos (by omega)]
    have hw : wrap64 ((i : Int) + 1) = ((i + 1 : Nat) : Int) := by unfold wrap64; omega
    have ht : mk80 (ks.take i) ++ [(⟨rd ks (i : Int), 0, 0, 0, false, false⟩ : S80)] = mk80 (ks.take (i + 1)) := by
      rw [List.take_add_one, List.getElem?_eq_getElem hlt]
      unfold mk80
      rw [List.map_append]
      simp [rd, hlt]
    rw [hw, ht]
    exact ih (i + 1) (by omega)
theorem Make_eq {ks : List Int} (hk : ks.length ≤ 40) : turnbuckleref11_Make.f (ks.length + 1) ks = some (mk80 ks, 0) := Make_l0 ks hk ks.length 0 (by omega)
theorem sm0 {ks : List Int} {kw : Int → Int} (hk : ks.length ≤ 40) (hkw : ∀ i : Nat, i < ks.length → kw (32 * ((i : Int) + 1)) = ks.getD i 0) : Sm ks.length kw (mk80 ks) 0 hp0 := by
  have hlen : (mk80 ks).length = ks.length := by simp [mk80]
  refine ⟨hk, hlen, rfl, ⟨by omega, by omega⟩, fun n n1 n2 => ?_⟩
  obtain ⟨i, hi⟩ : ∃ i : Nat, n = (i : Int) + 1 := ⟨(n - 1).toNat, by omega⟩
  subst hi
  have hlt : i < ks.length := by omega
  have e : G (mk80 ks) ((i : Int) + 1) = ⟨ks.getD i 0, 0, 0, 0, false, false⟩ := by
    unfold G
    rw [if_pos ⟨n1, by rw [hlen]; exact n2⟩]
    unfold rd_T80
    rw [show ((i : Int) + 1 - 1).toNat = i from by omega]
    simp [mk80, hlt]
  have r0 : rn ks.length 0 := ⟨by omega, by omega⟩
  rw [e]
  exact ⟨(hkw i hlt).symm, rfl, rfl, rfl, rfl, rfl, r0, r0, r0⟩
end
end Go.Proofs.Ythkppnkhiimaeaa.PTreePlays
