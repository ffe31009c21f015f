/- Lemmas of the claim TreePlays. -/
import Derived.Test.YthkppnkhiimaeaaTrS2
/- TreePlays, plain: the reference's Add, whole, beside the links. -/
set_option linter.unusedVariables false
set_option linter.unusedSimpArgs false
namespace Go.Proofs.Ythkppnkhiimaeaa.PTreePlays
open Go.RowKit Go.Proofs.Ythkppnkhiimaeaa
section
variable {N : Nat} {key : Int → Int} {l : List S80} {top : Int} {h : Hp}
theorem Sm.eqn {h' : Hp} (S : Sm N key l top h) (e : ∀ m, Eqn h h' m) (ht : h'.top = h.top) : Sm N key l top h' :=
  ⟨S.le, S.len, ht.trans S.tp, S.tr, fun m m1 m2 => (S.at_ m m1 m2).eqn (e _)⟩
theorem desc_sim {kn : Int} {k : Nat} {m q q' : Int} {s s' : Bool} (T : DescTr h key kn k m q s q' s') (S : Sm N key l top h) (xn a b c : Int) (d e : Bool) : ∀ {mn qn : Int}, m = 32 * mn → rn N mn → q = 32 * qn → rn N qn →
    ∃ qn', q' = 32 * qn' ∧ rn N qn' ∧ ∀ kk, turnbuckleref11_Add.l0 (kk + k) xn qn s mn l top kn a b c d e = turnbuckleref11_Add.l0 kk xn qn' s' 0 l top kn a b c d e := by
  have hl := S.l40
  induction T with
  | @done q s =>
    intro mn qn e1 r1 e2 r2
    obtain rfl : mn = 0 := by omega
    exact ⟨qn, e2, r2, fun kk => rfl⟩
  | @left k m q q' s s' hm hk T ih =>
    intro mn qn e1 r1 e2 r2
    subst e1
    have m1 := rn_isN S r1 hm
    obtain ⟨c1, c2⟩ := S.ch m1 r1.2 false
    obtain ⟨qn', p1, p2, p3⟩ := ih c1 c2 rfl r1
    have hkey : (G l mn).f0 = key (32 * mn) := (S.at_ mn m1 r1.2).k
    have hd : decide (kn ≥ (G l mn).f0) = false := decide_eq_false (by rw [hkey]; omega)
    refine ⟨qn', p1, p2, fun kk => ?_⟩
    rw [← p3 kk, ← Nat.add_assoc]
    have hm0 : ¬ mn = 0 := by omega
    rw [turnbuckleref11_Add.l0, if_neg hm0]
    simp only [Of_eq hl, Child_eq hl, Option.bind_some, hd]
  | @right k m q q' s s' hm hk T ih =>
    intro mn qn e1 r1 e2 r2
    subst e1
    have m1 := rn_isN S r1 hm
    obtain ⟨c1, c2⟩ := S.ch m1 r1.2 true
    obtain ⟨qn', p1, p2, p3⟩ := ih c1 c2 rfl r1
    have hkey : (G l mn).f0 = key (32 * mn) := (S.at_ mn m1 r1.2).k
    have hd : decide (kn ≥ (G l mn).f0) = true := decide_eq_true (by rw [hkey]; omega)
    refine ⟨qn', p1, p2, fun kk => ?_⟩
    rw [← p3 kk, ← Nat.add_assoc]
    have hm0 : ¬ mn = 0 := by omega
    rw [turnbuckleref11_Add.l0, if_neg hm0]
    simp only [Of_eq hl, Child_eq hl, Option.bind_some, hd]
theorem Sm.fresh (S : Sm N key l top h) {n : Int} (h1 : 1 ≤ n) (h2 : n ≤ (N : Int)) : Sm N key (Wr l n ⟨(G l n).f0, 0, 0, 0, true, true⟩) top (freshH h (32 * n)) := by
  obtain ⟨f1, f2, f3, f4⟩ := freshH_self (h := h) (n := 32 * n) (by omega)
  have A := S.at_ n h1 h2
  have r0 : rn N 0 := ⟨by omega, by omega⟩
  exact S.wr (h' := freshH h (32 * n)) (x := ⟨(G l n).f0, 0, 0, 0, true, true⟩) h1 h2 ⟨A.k, (f4 false).trans rfl, (f4 true).trans rfl, f1.trans rfl, f2.trans rfl, f3.trans rfl, r0, r0, r0⟩ (fun m hm => freshH_eqn hm) (freshH_top.trans S.tp) S.tr
theorem Sm.att (S : Sm N key l top h) {n q : Int} (h1 : 1 ≤ n) (h2 : n ≤ (N : Int)) (hq : rn N q) (s : Bool) : Sm N key (joinR (Wr l n ⟨(G l n).f0, 0, 0, 0, true, true⟩) q s n) (joinT top q n) (attH h (32 * n) (32 * q) s) := by
  have S1 := S.fresh h1 h2
  unfold attH
  by_cases h0 : q = 0
  · subst h0
    rw [if_pos (by omega)]
    have S2 := S1.joinTop (n := n) ⟨by omega, h2⟩ s
    rw [if_neg (by omega)] at S2
    refine S2.eqn (fun m => ?_) rfl
    obtain ⟨f1, f2, f3, f4⟩ := freshH_self (h := h) (n := 32 * n) (by omega)
    refine ⟨?_, rfl, rfl, fun _ => rfl⟩
    show (freshH h (32 * n)).P m = if m = 32 * n then 0 else (freshH h (32 * n)).P m
    by_cases hm : m = 32 * n
    · rw [if_pos hm, hm]; exact f1
    · rw [if_neg hm]
  · rw [if_neg (by omega)]
    exact S1.join (by have := hq.1; omega) hq.2 ⟨by omega, h2⟩ s
theorem add_sim {h' : Hp} {n : Int} (T : AddTr h key (32 * n) h') (S : Sm N key l top h) (h1 : 1 ≤ n) (h2 : n ≤ (N : Int)) (hO : h.O (32 * n) ≠ 8) : ∃ k l' top', turnbuckleref11_Add.f k l top n = some (l', top', 0) ∧ Sm N key l' top' h' := by
  have hl := S.l40
  have A := S.at_ n h1 h2
  have h4 : (G l n).f4 = false := by
    cases e : (G l n).f4
    · rfl
    · exact absurd (A.o.trans (by rw [e]; rfl)) hO
  cases T with
  | @mk k q s _ hn ht hq D T =>
    obtain ⟨qn, e1, r1, p⟩ := desc_sim D S n (G l n).f1 (G l n).f2 (G l n).f3 (G l n).f4 (G l n).f5 S.tp S.tr (show (0 : Int) = 32 * 0 by rfl) ⟨by omega, by omega⟩
    subst e1
    have S2 := S.att h1 h2 r1 s
    obtain ⟨k2, l', top', a1, a2⟩ := added_sim T rfl h1 h2 S2
    refine ⟨k2 + 1 + k, l', top', ?_, a2⟩
    have hw : (Wr l n ⟨(G l n).f0, 0, 0, 0, true, true⟩).length ≤ 40 := by rw [Wr_len]; exact hl
    have hkey : (G l n).f0 = key (32 * n) := A.k
    unfold turnbuckleref11_Add.f
    simp only [Of_eq hl, Option.bind_some, h4]
    rw [if_neg (by decide), ← a1]
    have p1 := p (k2 + 1)
    rw [← hkey, h4] at p1
    rw [p1, turnbuckleref11_Add.l0, if_pos rfl]
    simp only [With_eq hl, join_eq hw, Option.bind_some]
theorem add_in {n : Int} (S : Sm N key l top h) (h1 : 1 ≤ n) (h2 : n ≤ (N : Int)) (hO : h.O (32 * n) = 8) (k : Nat) : turnbuckleref11_Add.f k l top n = some (l, top, 8) := by
  have hl := S.l40
  have A := S.at_ n h1 h2
  have h4 : (G l n).f4 = true := by
    cases e : (G l n).f4
    · have := A.o; rw [e, hO] at this; cases this
    · rfl
  unfold turnbuckleref11_Add.f
  simp only [Of_eq hl, Option.bind_some, h4]
  rfl
end
end Go.Proofs.Ythkppnkhiimaeaa.PTreePlays
