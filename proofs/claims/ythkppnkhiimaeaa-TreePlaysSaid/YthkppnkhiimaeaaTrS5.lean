/- Lemmas of the claim TreePlays. -/
import Derived.Test.YthkppnkhiimaeaaTrS4
/- TreePlays, plain: the reference's Remove beside the links. -/
set_option linter.unusedVariables false
set_option linter.unusedSimpArgs false
namespace Go.Proofs.Ythkppnkhiimaeaa.PTreePlays
open Go.RowKit Go.Proofs.Ythkppnkhiimaeaa
theorem fix_up {k : Nat} {l : List S80} {top x q : Int} {r : List S80 × Int} (h : turnbuckleref11_fix.f k l top x q = some r) : ∀ m, k ≤ m → turnbuckleref11_fix.f m l top x q = some r := by
  intro m hm
  induction hm with
  | refl => exact h
  | step _ ih => exact turnbuckleref11_fix.mono _ _ _ _ _ _ ih
theorem placeH_col {h : Hp} {o n m : Int} : (placeH h o n).C m = h.C m := by
  unfold placeH
  split
  · split <;> rfl
  · exact joinH_C
theorem redH_of {h h' : Hp} {m : Int} (e : h'.C m = h.C m) : redH h' m = redH h m := by unfold redH; rw [e]
section
variable {N : Nat} {key : Int → Int} {l : List S80} {top : Int} {h : Hp}
theorem Sm.clr (S : Sm N key l top h) {z : Int} (h1 : 1 ≤ z) (h2 : z ≤ (N : Int)) {k : Int} (hk : k = key (32 * z)) : Sm N key (Wr l z ⟨k, 0, 0, 0, false, false⟩) top (clrH h (32 * z)) := by
  have r0 : rn N 0 := ⟨by omega, by omega⟩
  have e : ∀ {a b : Int}, (if 32 * z = 32 * z then a else b) = a := if_pos rfl
  exact S.wr (h' := clrH h (32 * z)) (x := ⟨k, 0, 0, 0, false, false⟩) h1 h2 ⟨hk, e.trans rfl, e.trans rfl, e.trans rfl, e.trans rfl, e.trans rfl, r0, r0, r0⟩ (fun m hm => clrH_eqn hm) S.tp S.tr
theorem j4_sim {h' : Hp} {z x p : Int} {rd : Bool} (S : Sm N key l top h) (h1 : 1 ≤ z) (h2 : z ≤ (N : Int)) (rx : rn N x) (rp : rn N p) (F : Fin_ (clrH h (32 * z)) rd (32 * x) (32 * p) h') {k0 : Int} (hk : k0 = key (32 * z)) (a b c : Int) (d e : Bool) :
    ∃ K l' top', Sm N key l' top' h' ∧ ∀ k, K ≤ k → turnbuckleref11_Remove.j4 (k + 1) z x p rd l top k0 a b c d e = some (l', top', 0) := by
  have hl := S.l40
  have S1 := S.clr h1 h2 hk
  rcases F with ⟨r1, r2⟩ | ⟨r1, r2⟩
  · subst r1 r2
    refine ⟨0, _, _, S1, fun k _ => ?_⟩
    simp [turnbuckleref11_Remove.j4, With_eq, hl]
  · subst r1
    obtain ⟨K, l', top', a1, a2⟩ := removed_sim r2 rfl rx rfl rp S1
    refine ⟨K, l', top', a2, fun k hk => ?_⟩
    have a3 := fix_up (k := K) (r := (l', top')) a1 k hk
    simp [turnbuckleref11_Remove.j4, With_eq, hl, a3]
theorem j3_sim {h' : Hp} {z y x p : Int} {rd c0 : Bool} (S : Sm N key l top h) (h1 : 1 ≤ z) (h2 : z ≤ (N : Int)) (y1 : 1 ≤ y) (y2 : y ≤ (N : Int)) (rx : rn N x) (rp : rn N p)
    (F : Fin_ (clrH (remEndH h (32 * z) (32 * y)) (32 * z)) rd (32 * x) (32 * p) h') (hc : redH h (32 * z) = c0) {k0 : Int} (hk : k0 = key (32 * z)) (a b c : Int) (d : Bool) :
    ∃ K l' top', Sm N key l' top' h' ∧ ∀ k, K ≤ k → turnbuckleref11_Remove.j3 (k + 2) z x p rd y l top k0 a b c d c0 = some (l', top', 0) := by
  have hl := S.l40
  have ry : rn N y := ⟨by omega, y2⟩
  have S1 := S.place h1 h2 ry
  obtain ⟨c1, c2⟩ := S1.ch h1 h2 false
  have S2 := S1.join y1 y2 c2 false
  have hr : redH (remJoinH h (32 * z) (32 * y)) (32 * z) = c0 := by
    rw [← hc]
    exact redH_of (joinH_C.trans placeH_col)
  have e2 : remJoinH h (32 * z) (32 * y) = joinH (placeH h (32 * z) (32 * y)) (32 * y) false (32 * cdR (placeR l z y) z false) := by unfold remJoinH; rw [c1]
  have S3 := S2.paint ry c0
  rw [← e2, ← hr, show paintH (remJoinH h (32 * z) (32 * y)) (32 * y) (redH (remJoinH h (32 * z) (32 * y)) (32 * z)) = remEndH h (32 * z) (32 * y) from rfl, hr] at S3
  obtain ⟨K, l', top', a1, a2⟩ := j4_sim S3 h1 h2 rx rp F hk a b c d c0
  refine ⟨K, l', top', a1, fun k hk => ?_⟩
  rw [← a2 k hk, turnbuckleref11_Remove.j3]
  simp [Of_eq, place_eq, join_eq, paint_eq, placeR_len, joinR_len, hl, cdR]
theorem low_sim {k : Nat} {n y : Int} (T : LowTr h k n y) (S : Sm N key l top h) : ∀ {m : Int}, n = 32 * m → rn N m → ∃ yn, y = 32 * yn ∧ 1 ≤ yn ∧ yn ≤ (N : Int) ∧ ∀ kk, turnbuckleref11_Lowest.f (kk + k + 1) l top m = some yn := by
  have hl := S.l40
  induction T with
  | @here n hn h0 =>
    intro m e r
    subst e
    have m1 := rn_isN S r hn
    obtain ⟨c1, c2⟩ := S.ch m1 r.2 false
    have e0 : (G l m).f1 = 0 := by rw [h0] at c1; have : cdR l m false = 0 := by omega
                                   exact this
    refine ⟨m, rfl, m1, r.2, fun kk => ?_⟩
    simp [turnbuckleref11_Lowest.f, turnbuckleref11_Lowest.l0, Of_eq, hl, e0]
  | @down k n y hn hc T ih =>
    intro m e r
    subst e
    have m1 := rn_isN S r hn
    obtain ⟨c1, c2⟩ := S.ch m1 r.2 false
    have h1 : 1 ≤ cdR l m false := rn_isN S c2 (by rw [← c1]; exact hc)
    have e0 : ¬ (G l m).f1 = 0 := by have : cdR l m false = (G l m).f1 := rfl
                                     omega
    obtain ⟨yn, a1, a2, a3, a4⟩ := ih c1 c2
    refine ⟨yn, a1, a2, a3, fun kk => ?_⟩
    have a5 := a4 kk
    unfold turnbuckleref11_Lowest.f at a5 ⊢
    rw [show kk + (k + 1) + 1 = (kk + k + 1) + 1 from by omega, turnbuckleref11_Lowest.l0, Of_eq hl]
    simp only [Option.bind_some]
    rw [if_neg e0]
    exact a5
end
end Go.Proofs.Ythkppnkhiimaeaa.PTreePlays
