/- Lemmas of the claim TreePlays. -/
import Derived.Test.YthkppnkhiimaeaaTrS5
import Derived.Test.YthkppnkhiimaeaaTrRf6
/- TreePlays, plain: the reference's Remove, whole; All; beside the links. -/
set_option linter.unusedVariables false
set_option linter.unusedSimpArgs false
namespace Go.Proofs.Ythkppnkhiimaeaa.PTreePlays
open Go.RowKit Go.Proofs.Ythkppnkhiimaeaa
section
variable {N : Nat} {key : Int → Int} {l : List S80} {top : Int} {h : Hp}
theorem rem_sim {h' : Hp} {z : Int} (T : RemTr h (32 * z) h') (S : Sm N key l top h) (h1 : 1 ≤ z) (h2 : z ≤ (N : Int)) : ∃ k l' top', turnbuckleref11_Remove.f k l top z = some (l', top', 0) ∧ Sm N key l' top' h' := by
  have hl := S.l40
  have A := S.at_ z h1 h2
  have rz : rn N z := ⟨by omega, h2⟩
  have h4 : h.O (32 * z) = 8 → (G l z).f4 = true := by
    intro hO
    cases e : (G l z).f4
    · have := A.o; rw [e, hO] at this; cases this
    · rfl
  cases T with
  | @leaf s _ hz hO hs h0 hx hp F =>
    have f4 := h4 hO
    obtain ⟨c1, c2⟩ := S.ch h1 h2 (!s)
    rw [A.p, c1, S.red rz] at F
    have S1 := S.place h1 h2 c2
    obtain ⟨K, l', top', a1, a2⟩ := j4_sim S1 h1 h2 c2 A.r3 F A.k (G l z).f1 (G l z).f2 (G l z).f3 (G l z).f4 (G l z).f5
    refine ⟨K + 4, l', top', ?_, a1⟩
    rw [← a2 K (Nat.le_refl _)]
    cases s
    · have e0 : (G l z).f1 = 0 := by have := A.c0; rw [h0] at this; omega
      simp [turnbuckleref11_Remove.f, turnbuckleref11_Remove.j0, turnbuckleref11_Remove.j1, turnbuckleref11_Remove.j2, Of_eq, place_eq, hl, f4, e0, cdR]
    · have e0 : ¬ (G l z).f1 = 0 := fun e => hs rfl (by rw [A.c0, e]; rfl)
      have e1 : (G l z).f2 = 0 := by have := A.c1; rw [h0] at this; omega
      simp [turnbuckleref11_Remove.f, turnbuckleref11_Remove.j0, turnbuckleref11_Remove.j1, turnbuckleref11_Remove.j2, Of_eq, place_eq, hl, f4, e0, e1, cdR]
  | @deep k y _ hz hO hcl hcr hk L hy hx hpy hpz hmid hx2 hyz hpm hlz F =>
    have f4 := h4 hO
    obtain ⟨c1, c2⟩ := S.ch h1 h2 true
    have R1 : 1 ≤ cdR l z true := rn_isN S c2 (by rw [← c1]; exact hcr)
    have L1 : 1 ≤ (G l z).f1 := rn_isN S A.r1 (by rw [← A.c0]; exact hcl)
    obtain ⟨yn, e, y1, y2, lw⟩ := low_sim L S c1 c2
    subst e
    have eR : cdR l z true = (G l z).f2 := rfl
    have e0 : ¬ (G l z).f1 = 0 := by omega
    have e1 : ¬ (G l z).f2 = 0 := by omega
    have e1b : ((G l z).f2 == 0) = false := beq_eq_false_iff_ne.mpr e1
    have ry : rn N yn := ⟨by omega, y2⟩
    have B := S.at_ yn y1 y2
    obtain ⟨d1, d2⟩ := S.ch y1 y2 true
    have eX : cdR l yn true = (G l yn).f2 := rfl
    by_cases hc : yn = (G l z).f2
    · have hpz' : h.P (32 * yn) = 32 * z := hyz.1 (by rw [c1, eR, hc])
      have m1 : remMidH h (32 * z) (32 * yn) = h := if_pos hpz'
      have m2 : remPH h (32 * z) (32 * yn) = 32 * yn := if_pos hpz'
      rw [m1, m2, d1, S.red ry] at F
      obtain ⟨K, l', top', a1, a2⟩ := j3_sim S h1 h2 y1 y2 d2 ry F (S.red rz) A.k (G l z).f1 (G l z).f2 (G l z).f3 (G l z).f4
      refine ⟨K + k + 1 + 2 + 3, l', top', ?_, a1⟩
      rw [← a2 (K + k + 1) (by omega)]
      have lw' := lw (K + 2)
      rw [show K + 2 + k + 1 = K + k + 1 + 2 from by omega, eR, ← hc] at lw'
      have hy0 : ¬ yn = 0 := by omega
      simp [turnbuckleref11_Remove.f, turnbuckleref11_Remove.j0, turnbuckleref11_Remove.j1, turnbuckleref11_Remove.j2, Of_eq, hl, f4, e0, hy0, lw', ← hc, eX]
    · have hpz' : ¬ h.P (32 * yn) = 32 * z := fun e => hc (by have := hyz.2 e; rw [c1, eR] at this; omega)
      have m2 : remPH h (32 * z) (32 * yn) = 32 * (G l yn).f3 := (if_neg hpz').trans B.p
      have S1 := S.place y1 y2 d2
      obtain ⟨g1, g2⟩ := S1.ch h1 h2 true
      have S2 := S1.join y1 y2 g2 true
      have m1 : remMidH h (32 * z) (32 * yn) = joinH (placeH h (32 * yn) (32 * cdR l yn true)) (32 * yn) true (32 * cdR (placeR l yn (cdR l yn true)) z true) := by
        unfold remMidH
        rw [if_neg hpz', d1, g1]
      have hrz : redH (remMidH h (32 * z) (32 * yn)) (32 * z) = (G l z).f5 := by
        rw [m1, ← S.red rz]
        exact redH_of (joinH_C.trans placeH_col)
      rw [← m1] at S2
      rw [m2, d1, S.red ry] at F
      obtain ⟨K, l', top', a1, a2⟩ := j3_sim S2 h1 h2 y1 y2 d2 B.r3 F hrz A.k (G l z).f1 (G l z).f2 (G l z).f3 (G l z).f4
      refine ⟨K + k + 1 + 2 + 3, l', top', ?_, a1⟩
      rw [← a2 (K + k + 1) (by omega)]
      have lw' := lw (K + 2)
      rw [show K + 2 + k + 1 = K + k + 1 + 2 from by omega, eR] at lw'
      simp [turnbuckleref11_Remove.f, turnbuckleref11_Remove.j0, turnbuckleref11_Remove.j1, turnbuckleref11_Remove.j2, Of_eq, place_eq, join_eq, placeR_len, joinR_len, hl, f4, e0, e1, lw', hc, eX, cdR]
theorem rem_out {n : Int} (S : Sm N key l top h) (h1 : 1 ≤ n) (h2 : n ≤ (N : Int)) (hO : h.O (32 * n) ≠ 8) (k : Nat) : turnbuckleref11_Remove.f k l top n = some (l, top, 8) := by
  have hl := S.l40
  have A := S.at_ n h1 h2
  have h4 : (G l n).f4 = false := by
    cases e : (G l n).f4
    · rfl
    · exact absurd (A.o.trans (by rw [e]; rfl)) hO
  unfold turnbuckleref11_Remove.f
  simp only [Of_eq hl, Option.bind_some, h4]
  rfl
theorem all_sim (S : Sm N key l top h) : ∀ (t : Bt) (p n : Int), Rep h p t → t.ids.length ≤ 64 → t.rt = 32 * n → rn N n → ∃ k L, (∀ kk, turnbuckleref11_All.f (kk + k) l top n = some L) ∧ L.map (fun m => 32 * m) = t.ids
  | .nil, p, n, R, hlen, e, r => by
    obtain rfl : n = 0 := by have : (0 : Int) = 32 * n := e; omega
    exact ⟨1, [], fun kk => rfl, rfl⟩
  | .node c a m b, p, n, R, hlen, e, r => by
    have hl := S.l40
    obtain rfl : m = 32 * n := e
    obtain ⟨x1, x2, x3, x4, x5, x6, xa, xb⟩ := R
    have n1 := rn_isN S r x1
    have A := S.at_ n n1 r.2
    have hlen' : a.ids.length + (b.ids.length + 1) ≤ 64 := by simpa [Bt.ids] using hlen
    obtain ⟨ka, La, pa1, pa2⟩ := all_sim S a _ _ xa (by omega) (x5.symm.trans A.c0) A.r1
    obtain ⟨kb, Lb, pb1, pb2⟩ := all_sim S b _ _ xb (by omega) (x6.symm.trans A.c1) A.r2
    have la : La.length = a.ids.length := by rw [← pa2, List.length_map]
    have lb : Lb.length = b.ids.length := by rw [← pb2, List.length_map]
    refine ⟨ka + kb + 1, La ++ n :: Lb, fun kk => ?_, by simp [Bt.ids, pa2, pb2]⟩
    have qa := pa1 (kk + kb)
    have qb := pb1 (kk + ka)
    rw [show kk + kb + ka = kk + (ka + kb) from by omega] at qa
    rw [show kk + ka + kb = kk + (ka + kb) from by omega] at qb
    have hn0 : ¬ n = 0 := by omega
    rw [← Nat.add_assoc, turnbuckleref11_All.f, if_neg hn0]
    simp only [Of_eq hl, Option.bind_some, qa, qb]
    rw [if_pos (by omega), if_pos (by simp; omega)]
    simp
end
end Go.Proofs.Ythkppnkhiimaeaa.PTreePlays
