/- Lemmas of the claim TreePlays. -/
import Derived.Test.YthkppnkhiimaeaaTrS1
import Derived.Test.YthkppnkhiimaeaaTrRf5
/- TreePlays, plain: the reference's Add beside the links. -/
set_option linter.unusedVariables false
set_option linter.unusedSimpArgs false
namespace Go.Proofs.Ythkppnkhiimaeaa.PTreePlays
open Go.RowKit Go.Proofs.Ythkppnkhiimaeaa
section
variable {N : Nat} {key : Int → Int}
theorem added_sim {h h' : Hp} {x : Int} (T : AddedTr h x h') : ∀ {l : List S80} {top xn : Int}, x = 32 * xn → 1 ≤ xn → xn ≤ (N : Int) → Sm N key l top h → ∃ k l' top', turnbuckleref11_Add.l1 k xn l top = some (l', top', 0) ∧ Sm N key l' top' h' := by
  induction T with
  | @done h x hx hp hr ht =>
    intro l top xn e h1 h2 S
    subst e
    have hl := S.l40
    obtain ⟨u1, u2⟩ := S.up h1 h2
    rw [u1, S.red u2] at hr
    have P := S.paint S.tr false
    rw [← S.tp] at P
    refine ⟨1, _, _, ?_, P⟩
    simp [turnbuckleref11_Add.l1, Of_eq, paint_eq, hl, hr]
  | @uncle h h' x q g u s hx eq hq hrq eg hg es eu hu hru T ih =>
    intro l top xn e h1 h2 S
    subst e
    have hl := S.l40
    obtain ⟨u1, u2⟩ := S.up h1 h2
    obtain ⟨qn, eqn⟩ : ∃ q, q = (G l xn).f3 := ⟨_, rfl⟩
    rw [← eqn] at u1 u2
    have hq' : q = 32 * qn := eq.symm.trans u1
    subst hq'
    have q1 := rn_isN S u2 hq
    obtain ⟨v1, v2⟩ := S.up q1 u2.2
    obtain ⟨gn, egn⟩ : ∃ q, q = (G l qn).f3 := ⟨_, rfl⟩
    rw [← egn] at v1 v2
    have hg' : g = 32 * gn := eg.symm.trans v1
    subst hg'
    have g1 := rn_isN S v2 hg
    rw [S.side g1 v2.2] at es
    obtain ⟨c1, c2⟩ := S.ch g1 v2.2 (!s)
    obtain ⟨un, eun⟩ : ∃ q, q = cdR l gn (!s) := ⟨_, rfl⟩
    rw [← eun] at c1 c2
    have hu' : u = 32 * un := eu.symm.trans c1
    subst hu'
    rw [S.red u2] at hrq
    rw [S.red c2] at hru
    have S3 := ((S.paint u2 false).paint c2 false).paint v2 true
    obtain ⟨k, l', top', r1, r2⟩ := ih rfl g1 v2.2 S3
    refine ⟨k + 1, l', top', ?_, r2⟩
    rw [← r1]
    simp [turnbuckleref11_Add.l1, Of_eq, paint_eq, onRight_eq, Child_eq, paintR_len, hl, ← eqn, ← egn, es, ← eun, hrq, hru]
  | @outer h h' x q g u s hx eq hq hrq eg hg es eu hu hru es2 tv T ih =>
    intro l top xn e h1 h2 S
    subst e
    have hl := S.l40
    obtain ⟨u1, u2⟩ := S.up h1 h2
    obtain ⟨qn, eqn⟩ : ∃ q, q = (G l xn).f3 := ⟨_, rfl⟩
    rw [← eqn] at u1 u2
    have hq' : q = 32 * qn := eq.symm.trans u1
    subst hq'
    have q1 := rn_isN S u2 hq
    obtain ⟨v1, v2⟩ := S.up q1 u2.2
    obtain ⟨gn, egn⟩ : ∃ q, q = (G l qn).f3 := ⟨_, rfl⟩
    rw [← egn] at v1 v2
    have hg' : g = 32 * gn := eg.symm.trans v1
    subst hg'
    have g1 := rn_isN S v2 hg
    rw [S.side g1 v2.2] at es
    rw [S.side q1 u2.2] at es2
    obtain ⟨c1, c2⟩ := S.ch g1 v2.2 (!s)
    obtain ⟨un, eun⟩ : ∃ q, q = cdR l gn (!s) := ⟨_, rfl⟩
    rw [← eun] at c1 c2
    have hu' : u = 32 * un := eu.symm.trans c1
    subst hu'
    rw [S.red u2] at hrq
    rw [S.red c2] at hru
    have S3 := ((S.paint u2 false).paint v2 true).turn g1 v2.2 tv
    obtain ⟨k, l', top', r1, r2⟩ := ih rfl h1 h2 S3
    refine ⟨k + 1, l', top', ?_, r2⟩
    rw [← r1]
    simp [turnbuckleref11_Add.l1, Of_eq, paint_eq, onRight_eq, Child_eq, turn_eq, paintR_len, turnR_len, hl, ← eqn, ← egn, es, es2, ← eun, hrq, hru]
  | @inner h h' x q g u s hx eq hq hrq eg hg es eu hu hru es2 tv1 tv T ih =>
    intro l top xn e h1 h2 S
    subst e
    have hl := S.l40
    obtain ⟨u1, u2⟩ := S.up h1 h2
    obtain ⟨qn, eqn⟩ : ∃ q, q = (G l xn).f3 := ⟨_, rfl⟩
    rw [← eqn] at u1 u2
    have hq' : q = 32 * qn := eq.symm.trans u1
    subst hq'
    have q1 := rn_isN S u2 hq
    obtain ⟨v1, v2⟩ := S.up q1 u2.2
    obtain ⟨gn, egn⟩ : ∃ q, q = (G l qn).f3 := ⟨_, rfl⟩
    rw [← egn] at v1 v2
    have hg' : g = 32 * gn := eg.symm.trans v1
    subst hg'
    have g1 := rn_isN S v2 hg
    rw [S.side g1 v2.2] at es
    rw [S.side q1 u2.2] at es2
    obtain ⟨c1, c2⟩ := S.ch g1 v2.2 (!s)
    obtain ⟨un, eun⟩ : ∃ q, q = cdR l gn (!s) := ⟨_, rfl⟩
    rw [← eun] at c1 c2
    have hu' : u = 32 * un := eu.symm.trans c1
    subst hu'
    rw [S.red u2] at hrq
    rw [S.red c2] at hru
    have S3 := (((S.turn q1 u2.2 tv1).paint (n := xn) ⟨by omega, h2⟩ false).paint v2 true).turn g1 v2.2 tv
    obtain ⟨k, l', top', r1, r2⟩ := ih rfl q1 u2.2 S3
    refine ⟨k + 1, l', top', ?_, r2⟩
    rw [← r1]
    simp [turnbuckleref11_Add.l1, Of_eq, paint_eq, onRight_eq, Child_eq, turn_eq, paintR_len, turnR_len, hl, ← eqn, ← egn, es, es2, ← eun, hrq, hru]
end
end Go.Proofs.Ythkppnkhiimaeaa.PTreePlays
