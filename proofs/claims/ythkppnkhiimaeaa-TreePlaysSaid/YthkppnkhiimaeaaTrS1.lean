/- Lemmas of the claim TreePlays. -/
import Derived.Test.YthkppnkhiimaeaaTrS0
/- TreePlays, plain: the reference's leaves beside the links. -/
set_option linter.unusedVariables false
set_option linter.unusedSimpArgs false
namespace Go.Proofs.Ythkppnkhiimaeaa.PTreePlays
open Go.RowKit Go.Proofs.Ythkppnkhiimaeaa
theorem beq32 (a b : Int) : (!(32 * a == 32 * b)) = (a != b) := by
  show (!(32 * a == 32 * b)) = (!(a == b))
  rw [show (32 * a == 32 * b) = (a == b) from by rw [Bool.eq_iff_iff, beq_iff_eq, beq_iff_eq]; omega]
def rn (N : Nat) (n : Int) : Prop := 0 ≤ n ∧ n ≤ (N : Int)
structure At (N : Nat) (key : Int → Int) (x : S80) (n : Int) (h : Hp) : Prop where
  k : x.f0 = key n
  c0 : h.ch false n = 32 * x.f1
  c1 : h.ch true n = 32 * x.f2
  p : h.P n = 32 * x.f3
  o : h.O n = if x.f4 then 8 else 0
  c : h.C n = cI x.f5
  r1 : rn N x.f1
  r2 : rn N x.f2
  r3 : rn N x.f3
structure Sm (N : Nat) (key : Int → Int) (l : List S80) (top : Int) (h : Hp) : Prop where
  le : N ≤ 40
  len : l.length = N
  tp : h.top = 32 * top
  tr : rn N top
  at_ : ∀ n : Int, 1 ≤ n → n ≤ (N : Int) → At N key (G l n) (32 * n) h
theorem At.eqn {N : Nat} {key : Int → Int} {x : S80} {n : Int} {h h' : Hp} (A : At N key x n h) (e : Eqn h h' n) : At N key x n h' :=
  ⟨A.k, (e.2.2.2 false).trans A.c0, (e.2.2.2 true).trans A.c1, e.1.trans A.p, e.2.2.1.trans A.o, e.2.1.trans A.c, A.r1, A.r2, A.r3⟩
section
variable {N : Nat} {key : Int → Int} {l : List S80} {top : Int} {h : Hp}
theorem Sm.l40 (S : Sm N key l top h) : l.length ≤ 40 := by rw [S.len]; exact S.le
theorem Sm.wr {h' : Hp} {n : Int} {x : S80} (S : Sm N key l top h) (h1 : 1 ≤ n) (h2 : n ≤ (N : Int)) (A : At N key x (32 * n) h') (ho : ∀ m, m ≠ 32 * n → Eqn h h' m) {top' : Int} (ht : h'.top = 32 * top') (hr : rn N top') : Sm N key (Wr l n x) top' h' := by
  refine ⟨S.le, (Wr_len ..).trans S.len, ht, hr, fun m m1 m2 => ?_⟩
  rw [G_Wr h1 (by rw [S.len]; exact h2)]
  by_cases hm : m = n
  · rw [if_pos hm, hm]; exact A
  · rw [if_neg hm]; exact (S.at_ m m1 m2).eqn (ho _ (by omega))
theorem Sm.ch (S : Sm N key l top h) {n : Int} (h1 : 1 ≤ n) (h2 : n ≤ (N : Int)) (s : Bool) : h.ch s (32 * n) = 32 * cdR l n s ∧ rn N (cdR l n s) := by
  have A := S.at_ n h1 h2
  cases s
  · exact ⟨A.c0, A.r1⟩
  · exact ⟨A.c1, A.r2⟩
theorem Sm.red (S : Sm N key l top h) {n : Int} (hn : rn N n) : redH h (32 * n) = (G l n).f5 := by
  unfold redH
  by_cases h0 : n = 0
  · subst h0
    rw [G_out (by omega)]
    rfl
  · have A := S.at_ n (by have := hn.1; omega) hn.2
    rw [A.c, show (32 * n != 0) = true from by rw [bne_iff_ne]; omega]
    cases (G l n).f5 <;> rfl
theorem Sm.paint (S : Sm N key l top h) {n : Int} (hn : rn N n) (c : Bool) : Sm N key (paintR l n c) top (paintH h (32 * n) c) := by
  unfold paintR paintH
  by_cases h0 : n = 0
  · subst h0
    rw [Wr_out (by omega)]
    exact S
  · have h1 : 1 ≤ n := by have := hn.1; omega
    have A := S.at_ n h1 hn.2
    rw [if_neg (by omega)]
    exact S.wr (h' := h.setC (32 * n) (cI c)) (x := { G l n with f5 := c }) h1 hn.2 ⟨A.k, A.c0, A.c1, A.p, A.o, if_pos rfl, A.r1, A.r2, A.r3⟩ (fun m hm => setC_eqn hm) S.tp S.tr
theorem Sm.setCh (S : Sm N key l top h) {p n : Int} (h1 : 1 ≤ p) (h2 : p ≤ (N : Int)) (hn : rn N n) (s : Bool) : Sm N key (joinL l p s n) top (h.setCh s (32 * p) (32 * n)) := by
  have A := S.at_ p h1 h2
  unfold joinL
  rw [if_neg (by omega)]
  have e1 : (h.setCh false (32 * p) (32 * n)).ch true (32 * p) = h.ch true (32 * p) := by simp [Hp.setCh]
  have e2 : (h.setCh true (32 * p) (32 * n)).ch false (32 * p) = h.ch false (32 * p) := by simp [Hp.setCh]
  cases s
  · exact S.wr (h' := h.setCh false (32 * p) (32 * n)) (x := { G l p with f1 := n }) h1 h2 ⟨A.k, if_pos ⟨rfl, rfl⟩, e1.trans A.c1, A.p, A.o, A.c, hn, A.r2, A.r3⟩ (fun m hm => setCh_eqn hm) S.tp S.tr
  · exact S.wr (h' := h.setCh true (32 * p) (32 * n)) (x := { G l p with f2 := n }) h1 h2 ⟨A.k, e2.trans A.c0, if_pos ⟨rfl, rfl⟩, A.p, A.o, A.c, A.r1, hn, A.r3⟩ (fun m hm => setCh_eqn hm) S.tp S.tr
theorem Sm.setP (S : Sm N key l top h) {n p : Int} (h1 : 1 ≤ n) (h2 : n ≤ (N : Int)) (hp : rn N p) : Sm N key (Wr l n { G l n with f3 := p }) top (h.setP (32 * n) (32 * p)) := by
  have A := S.at_ n h1 h2
  exact S.wr (h' := h.setP (32 * n) (32 * p)) (x := { G l n with f3 := p }) h1 h2 ⟨A.k, A.c0, A.c1, if_pos rfl, A.o, A.c, A.r1, A.r2, hp⟩ (fun m hm => setP_eqn hm) S.tp S.tr
theorem Sm.setTop (S : Sm N key l top h) {n : Int} (hn : rn N n) : Sm N key l n (h.setTop (32 * n)) :=
  ⟨S.le, S.len, rfl, hn, fun m m1 m2 => (S.at_ m m1 m2).eqn ⟨rfl, rfl, rfl, fun _ => rfl⟩⟩
theorem Sm.join (S : Sm N key l top h) {p n : Int} (h1 : 1 ≤ p) (h2 : p ≤ (N : Int)) (hn : rn N n) (s : Bool) : Sm N key (joinR l p s n) (joinT top p n) (joinH h (32 * p) s (32 * n)) := by
  have S1 := S.setCh h1 h2 hn s
  unfold joinR joinH joinT
  rw [if_neg (by omega)]
  by_cases h0 : n = 0
  · subst h0
    rw [Wr_out (by omega), if_pos (by omega)]
    exact S1
  · rw [if_neg (by omega)]
    exact S1.setP (by have := hn.1; omega) hn.2 ⟨by omega, h2⟩
theorem Sm.joinTop (S : Sm N key l top h) {n : Int} (hn : rn N n) (s : Bool) : Sm N key (joinR l 0 s n) (joinT top 0 n) (if 32 * n = 0 then h.setTop (32 * n) else (h.setTop (32 * n)).setP (32 * n) 0) := by
  have S1 := S.setTop hn
  have e : joinL l 0 s n = l := if_pos rfl
  unfold joinR joinT
  rw [e, if_pos rfl]
  by_cases h0 : n = 0
  · subst h0
    rw [Wr_out (by omega), if_pos (by omega)]
    exact S1
  · rw [if_neg (by omega)]
    exact S1.setP (by have := hn.1; omega) hn.2 ⟨by omega, by omega⟩
theorem Sm.place (S : Sm N key l top h) {o n : Int} (h1 : 1 ≤ o) (h2 : o ≤ (N : Int)) (hn : rn N n) : Sm N key (placeR l o n) (placeT l top o n) (placeH h (32 * o) (32 * n)) := by
  have A := S.at_ o h1 h2
  unfold placeR placeT placeH
  rw [A.p]
  by_cases h0 : (G l o).f3 = 0
  · rw [h0, if_pos (by omega)]
    exact S.joinTop hn _
  · have q1 : 1 ≤ (G l o).f3 := by have := A.r3.1; omega
    rw [if_neg (by omega)]
    have e : sideH h (32 * (G l o).f3) (32 * o) = ((G l (G l o).f3).f1 != o) := by
      unfold sideH
      rw [(S.at_ _ q1 A.r3.2).c0]
      exact beq32 _ _
    rw [e]
    exact S.join q1 A.r3.2 hn _
theorem rn_isN (S : Sm N key l top h) {n : Int} (hn : rn N n) (hi : isN (32 * n)) : 1 ≤ n := by unfold isN at hi; omega
theorem Sm.turn (S : Sm N key l top h) {x : Int} (h1 : 1 ≤ x) (h2 : x ≤ (N : Int)) {s : Bool} (T : Tv h (32 * x) s) : Sm N key (turnR l x s) (turnT l top x s) (turnH h (32 * x) s) := by
  obtain ⟨ey, ry⟩ := S.ch h1 h2 (!s)
  have y1 : 1 ≤ cdR l x (!s) := rn_isN S ry (by rw [← ey]; exact T.hy)
  obtain ⟨eb, rb⟩ := S.ch y1 ry.2 s
  have hq := T.hq
  rw [ey, eb] at hq
  unfold turnR turnT turnH
  rw [ey, hq]
  exact ((S.place h1 h2 ry).join h1 h2 rb _).join y1 ry.2 ⟨by omega, h2⟩ _
theorem Sm.up (S : Sm N key l top h) {n : Int} (h1 : 1 ≤ n) (h2 : n ≤ (N : Int)) : h.P (32 * n) = 32 * (G l n).f3 ∧ rn N (G l n).f3 := ⟨(S.at_ n h1 h2).p, (S.at_ n h1 h2).r3⟩
theorem Sm.side (S : Sm N key l top h) {p : Int} (h1 : 1 ≤ p) (h2 : p ≤ (N : Int)) (n : Int) : sideH h (32 * p) (32 * n) = ((G l p).f1 != n) := by
  unfold sideH
  rw [(S.at_ _ h1 h2).c0]
  exact beq32 _ _
end
end Go.Proofs.Ythkppnkhiimaeaa.PTreePlays
