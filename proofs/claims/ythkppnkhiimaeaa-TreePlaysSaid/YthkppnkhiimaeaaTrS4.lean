/- Lemmas of the claim TreePlays. -/
import Derived.Test.YthkppnkhiimaeaaTrS3
import Derived.Test.YthkppnkhiimaeaaTrRf4
/- TreePlays, plain: the reference's fix beside the links. -/
set_option linter.unusedVariables false
set_option linter.unusedSimpArgs false
namespace Go.Proofs.Ythkppnkhiimaeaa.PTreePlays
open Go.RowKit Go.Proofs.Ythkppnkhiimaeaa
section
variable {N : Nat} {key : Int → Int} {l : List S80} {top : Int} {h : Hp}
theorem cv_sim {qn vn : Int} {s : Bool} (C : CV h (32 * qn) s (32 * vn)) (S : Sm N key l top h) (q1 : 1 ≤ qn) (q2 : qn ≤ (N : Int)) (v1 : 1 ≤ vn) (v2 : vn ≤ (N : Int)) :
    ∃ l1 top1, Sm N key l1 top1 (remCH h (32 * qn) s (32 * vn)) ∧ ∀ k, turnbuckleref11_fix.j4 (k + 1) qn s vn l top = turnbuckleref11_fix.l0 k top1 qn l1 top1 := by
  have hl := S.l40
  have rq : rn N qn := ⟨by omega, q2⟩
  have rv : rn N vn := ⟨by omega, v2⟩
  have S2 := (S.paint rv (redH h (32 * qn))).paint rq false
  have e1 : remC1H h (32 * qn) (32 * vn) = paintH (paintH h (32 * vn) (redH h (32 * qn))) (32 * qn) false := rfl
  have hf := C.hf
  have ht := C.ht
  rw [e1] at hf ht
  obtain ⟨c1, c2⟩ := S2.ch v1 v2 (!s)
  rw [c1] at ht
  have S3 := (S2.paint c2 false).turn q1 q2 ht
  rw [← c1] at S3
  rw [S.red rq] at S3 c1
  refine ⟨_, _, by unfold remCH; rw [e1, S.red rq]; exact S3, fun k => ?_⟩
  simp [turnbuckleref11_fix.j4, Of_eq, paint_eq, Child_eq, turn_eq, paintR_len, turnR_len, hl]
theorem red_ff {vn : Int} (S : Sm N key l top h) (v1 : 1 ≤ vn) (v2 : vn ≤ (N : Int)) (s : Bool) : redH h (h.ch s (32 * vn)) = (G l (cdR l vn s)).f5 := by
  obtain ⟨c1, c2⟩ := S.ch v1 v2 s
  rw [c1, S.red c2]
theorem rs2_sim {qn vn : Int} {s : Bool} {h1 : Hp} {x1 p1 : Int} (R : Rs2 h (32 * qn) s (32 * vn) h1 x1 p1) (S : Sm N key l top h) (q1 : 1 ≤ qn) (q2 : qn ≤ (N : Int)) (v1 : 1 ≤ vn) (v2 : vn ≤ (N : Int)) :
    ∃ xn pn l1 top1 d, x1 = 32 * xn ∧ rn N xn ∧ p1 = 32 * pn ∧ rn N pn ∧ Sm N key l1 top1 h1 ∧ ∀ k, turnbuckleref11_fix.j2 (k + d) qn s vn l top = turnbuckleref11_fix.l0 k xn pn l1 top1 := by
  have hl := S.l40
  have rq : rn N qn := ⟨by omega, q2⟩
  have rv : rn N vn := ⟨by omega, v2⟩
  cases R with
  | both hq hv ha hb hra hrb =>
    rw [red_ff S v1 v2] at hra hrb
    have S1 := S.paint rv true
    obtain ⟨u1, u2⟩ := S1.up q1 q2
    refine ⟨qn, _, _, top, 2, rfl, rq, u1, u2, S1, fun k => ?_⟩
    cases s <;> simp [turnbuckleref11_fix.j2, turnbuckleref11_fix.j3, Of_eq, paint_eq, Child_eq, paintR_len, hl, hra, hrb]
  | far ha hb hn hr C =>
    rw [red_ff S v1 v2] at hr
    obtain ⟨l1, top1, S1, p⟩ := cv_sim C S q1 q2 v1 v2
    refine ⟨top1, qn, l1, top1, 3, S1.tp, S1.tr, rfl, rq, S1, fun k => ?_⟩
    rw [← p k]
    cases e : (G l (cdR l vn s)).f5 <;> simp [turnbuckleref11_fix.j2, turnbuckleref11_fix.j3, Of_eq, Child_eq, hl, hr, e]
  | @near w2 ha hb hn hr hv hvs tv ew C =>
    have hrs : redH h (h.ch s (32 * vn)) = true := by
      cases e : redH h (h.ch s (32 * vn))
      · exfalso
        apply hn
        cases s
        · exact ⟨e, hr⟩
        · exact ⟨hr, e⟩
      · rfl
    rw [red_ff S v1 v2] at hr hrs
    obtain ⟨a1, a2⟩ := S.ch v1 v2 s
    rw [a1] at tv
    have S2 := ((S.paint a2 false).paint rv true).turn v1 v2 tv
    have e2 : remBH h s (32 * vn) = turnH (paintH (paintH h (32 * cdR l vn s) false) (32 * vn) true) (32 * vn) (!s) := by unfold remBH; rw [a1]
    rw [← e2] at S2
    obtain ⟨b1, b2⟩ := S2.ch q1 q2 (!s)
    have ew' := ew.symm.trans b1
    subst ew'
    have w1 := rn_isN S2 b2 C.hv
    obtain ⟨l1, top1, S1, p⟩ := cv_sim C S2 q1 q2 w1 b2.2
    refine ⟨top1, qn, l1, top1, 3, S1.tp, S1.tr, rfl, rq, S1, fun k => ?_⟩
    rw [← p k]
    simp [turnbuckleref11_fix.j2, turnbuckleref11_fix.j3, Of_eq, Child_eq, paint_eq, turn_eq, paintR_len, turnR_len, hl, hr, hrs]
theorem removed_sim {h h' : Hp} {x q : Int} (T : RemovedTr h x q h') : ∀ {l : List S80} {top xn qn : Int}, x = 32 * xn → rn N xn → q = 32 * qn → rn N qn → Sm N key l top h → ∃ k l' top', turnbuckleref11_fix.l0 k xn qn l top = some (l', top') ∧ Sm N key l' top' h' := by
  induction T with
  | @done h x q hx hr =>
    intro l top xn qn e1 r1 e2 r2 S
    subst e1
    have hl := S.l40
    refine ⟨2, _, _, ?_, S.paint r1 false⟩
    rw [turnbuckleref11_fix.l0]
    by_cases ht : xn = top
    · rw [if_pos ht]
      simp [turnbuckleref11_fix.j1, paint_eq, hl]
    · rw [if_neg ht]
      have hr' := hr.resolve_left (fun e => ht (by have := S.tp; omega))
      rw [S.red r1] at hr'
      simp [turnbuckleref11_fix.j1, paint_eq, Of_eq, hl, hr']
  | @black h h1 h' x q v x1 q1 s hx hxt hxr hq es ev hv hvr R T ih =>
    intro l top xn qn e1 r1 e2 r2 S
    subst e1 e2
    have hl := S.l40
    have qq := rn_isN S r2 hq
    rw [S.side qq r2.2] at es
    obtain ⟨c1, c2⟩ := S.ch qq r2.2 (!s)
    have ev' := ev.symm.trans c1
    subst ev'
    have vv := rn_isN S c2 hv
    rw [S.red c2] at hvr
    rw [S.red r1] at hxr
    obtain ⟨xn1, pn1, l1, top1, d, a1, a2, a3, a4, a5, a6⟩ := rs2_sim R S qq r2.2 vv c2.2
    obtain ⟨k, l', top', b1, b2⟩ := ih a1 a2 a3 a4 a5
    refine ⟨k + d + 1 + 1, l', top', ?_, b2⟩
    rw [← b1, ← a6 k, turnbuckleref11_fix.l0, if_neg (fun e => hxt (by rw [S.tp, e]))]
    simp [turnbuckleref11_fix.j1, Of_eq, onRight_eq, Child_eq, hl, hxr, es, hvr]
  | @red h h1 h' x q v v1 x1 q1 s hx hxt hxr hq es ev hv hvr tv ev1 hv1 R T ih =>
    intro l top xn qn e1 r1 e2 r2 S
    subst e1 e2
    have hl := S.l40
    have qq := rn_isN S r2 hq
    rw [S.side qq r2.2] at es
    obtain ⟨c1, c2⟩ := S.ch qq r2.2 (!s)
    have ev' := ev.symm.trans c1
    subst ev'
    have vv := rn_isN S c2 hv
    rw [S.red c2] at hvr
    rw [S.red r1] at hxr
    have S1 := ((S.paint c2 false).paint r2 true).turn qq r2.2 tv
    obtain ⟨d1, d2⟩ := S1.ch qq r2.2 (!s)
    have ev1' := ev1.symm.trans d1
    subst ev1'
    have vv1 := rn_isN S1 d2 hv1
    obtain ⟨xn1, pn1, l1, top1, d, a1, a2, a3, a4, a5, a6⟩ := rs2_sim R S1 qq r2.2 vv1 d2.2
    obtain ⟨k, l', top', b1, b2⟩ := ih a1 a2 a3 a4 a5
    refine ⟨k + d + 1 + 1, l', top', ?_, b2⟩
    rw [← b1, ← a6 k, turnbuckleref11_fix.l0, if_neg (fun e => hxt (by rw [S.tp, e]))]
    simp [turnbuckleref11_fix.j1, Of_eq, onRight_eq, Child_eq, paint_eq, turn_eq, paintR_len, turnR_len, hl, hxr, es, hvr]
end
end Go.Proofs.Ythkppnkhiimaeaa.PTreePlays
