/- Lemmas of the claim TreePlays. -/
import Derived.Test.YthkppnkhiimaeaaTrAl
import Derived.Test.YthkppnkhiimaeaaTlw
/- The law TreePlays: the round's state, and its step. -/
set_option linter.unusedVariables false
set_option linter.unusedSimpArgs false
namespace Go.Proofs.Ythkppnkhiimaeaa.PTreePlays
open Go.RowKit Go.Proofs.Ythkppnkhiimaeaa Go.Proofs.YthkppnkhiimaeaaW.PrintWords Go.Proofs.YthkppnkhiimaeaaW.PrintLast Go.Proofs.YthkppnkhiimaeaaW.PrintMore
theorem below_set {w0 w : World} {g j : Nat} (h : Below w0.heap.size w0 w) (hg : w0.heap.size ≤ g) (v : Value) : Below w0.heap.size w0 (w.setCell ⟨g, j, none⟩ v) := h.setCell hg v
theorem Ts_kept {w0 w w1 : World} {p d : Nat} {kw : Int → Int} {h : Hp} {t : Bt} {P : Nat → Prop} (T : Ts w0 w p d kw h t) (hb : Below w0.heap.size w0 w1) (hk : Go.Proofs.YthkppnkhiimaeaaW.PrintWords.Kept w w1 P) (hp : ¬ P p) (hd : ¬ P d) : Ts w0 w1 p d kw h t := by
  obtain ⟨bs, h1, h2⟩ := T.S.ex
  exact T.with_ ⟨bs, ⟨⟨hb⟩, ⟨(hk.2 p h1.ar.lt.1 hp).trans h1.ar.hdr, (hk.2 d h1.ar.lt.2 hd).trans h1.ar.row, h1.ar.ne, h1.ar.len, h1.ar.rng⟩, h1.new⟩, h2⟩
structure Rt (w0 w : World) (p d g : Nat) (hv : Value) (l : List S80) (top : Int) : Prop where
  lx : Kd.R k80 80 w w0.heap.size (fun k => k ≠ p ∧ k ≠ d ∧ k ≠ g) hv l
  xl : Xl w g hv (.int .i64 top)
  ne : g ≠ p ∧ g ≠ d ∧ w0.heap.size ≤ g
section
variable {w0 w w1 : World} {p d g : Nat} {hv v0 : Value} {l l' : List S80} {top top' : Int} {kw : Int → Int} {h : Hp} {t : Bt}
theorem Rt.kept (r : Rt w0 w p d g hv l top) (hk : Kd1 w w1 d) : Rt w0 w1 p d g hv l top := ⟨Kd.R_kept r.lx hk (fun k h1 e => h1.2.1 e), r.xl.kept hk r.ne.2.1, r.ne⟩
theorem Rt.step (r : Rt w0 w p d g hv l top) (T : Ts w0 w p d kw h t) (hr : Kd.R k80 80 w1 w0.heap.size (fun k => (k ≠ p ∧ k ≠ d ∧ k ≠ g) ∨ w.heap.size ≤ k) v0 l')
    (hb : Below w0.heap.size w0 w1) (hk : Go.Proofs.YthkppnkhiimaeaaW.PrintWords.Kept w w1 (fun k => k ≠ p ∧ k ≠ d ∧ k ≠ g)) :
    Rt w0 ((w1.setCell ⟨g, 0, none⟩ v0).setCell ⟨g, 1, none⟩ (.int .i64 top')) p d g v0 l' top' ∧ Ts w0 ((w1.setCell ⟨g, 0, none⟩ v0).setCell ⟨g, 1, none⟩ (.int .i64 top')) p d kw h t := by
  have hg := r.xl.lt
  have hpd := T.S.new
  have hP : ∀ k, (k ≠ p ∧ k ≠ d ∧ k ≠ g) ∨ w.heap.size ≤ k → k ≠ p ∧ k ≠ d ∧ k ≠ g := fun k hk => by
    rcases hk with hk | hk
    · exact hk
    · omega
  have hX : w1.heap[g]? = some (.cells #[hv, .int .i64 top] 49) := (hk.2 g hg (fun e => e.2.2 rfl)).trans r.xl
  refine ⟨⟨?_, ?_, r.ne⟩, ?_⟩
  · exact Kd.R_far (Kd.R_far (Kd.R_mono hr hP) (fun k hk => hk.2.2) v0) (fun k hk => hk.2.2) (.int .i64 top')
  · exact blk_put (cs := #[v0, .int .i64 top]) (blk_put (cs := #[hv, .int .i64 top]) hX 0 _ rfl) 1 _ rfl
  · refine Ts_kept (P := fun k => k ≠ p ∧ k ≠ d) T (below_set (below_set hb r.ne.2.2 _) r.ne.2.2 _) (Kept.setCell (Kept.setCell ⟨hk.1, fun i hi hn => hk.2 i hi (fun e => hn ⟨e.1, e.2.1⟩)⟩ (.inl ⟨r.ne.1, r.ne.2.1⟩) _) (.inl ⟨r.ne.1, r.ne.2.1⟩) _) (fun e => e.1 rfl) (fun e => e.2 rfl)
end
def ksl (f : Nat → Int) (N : Nat) : List Int := (List.range N).map f
theorem ksl_length (f : Nat → Int) (N : Nat) : (ksl f N).length = N := by simp [ksl]
theorem ksl_get (f : Nat → Int) (N i : Nat) (h : i < N) : (ksl f N).getD i 0 = f i := by simp [ksl, h]
theorem C_of_ky {w : World} {A : Option Addr} {N : Nat} {f : Nat → Int} (h : Ky w A N f) (hN : N ≤ 40) : Kd.C (Kd.int .u64) w A (ksl f N).length (ksl f N) := by
  rw [ksl_length]
  refine ⟨ksl_length f N, by omega, fun hn => ?_⟩
  obtain ⟨ad, e, _, _, _⟩ := h.at_ 0 hn
  refine ⟨ad, e, fun j p hj => ?_⟩
  have hjl : j < N := by have := (List.getElem?_eq_some_iff.1 hj).1; rw [ksl_length] at this; exact this
  obtain ⟨ad', e', _, hc, h0, h1⟩ := h.at_ j hjl
  obtain rfl : ad = ad' := by rw [e] at e'; injection e'
  have hp : p = f j := by
    have := ksl_get f N j hjl
    rw [List.getD_eq_getElem?_getD, hj] at this
    exact this
  subst hp
  refine ⟨[.int .u64 (f j)], rfl, rfl, fun i u hu => ?_⟩
  rcases i with _ | i
  · simp at hu
    subst hu
    show w.cell? (ad.add (j * 1 + 0)) = _
    rw [Nat.mul_one, Nat.add_zero]
    exact hc
  · simp at hu
section
variable {w0 w : World} {p d : Nat} {kw : Int → Int} {h : Hp} {t : Bt} {N : Nat} {l : List S80} {top : Int}
theorem add_both (T : Ts w0 w p d kw h t) (M : Sm N (keyOf kw) l top h) {i : Nat} (hi : i < N) : ∃ h' t' k l' top' c, turnbuckleref11_Add.f k l top (1 + (i : Int)) = some (l', top', c) ∧ Sm N (keyOf kw) l' top' h' ∧
    Calls Try.prog 12 #[.pointer (some ⟨p, 0, none⟩), .int .i64 8, .int .i64 (32 * (1 + (i : Int))), .int .i64 (-8)] w fun e w' => e = .returned (.int .i64 c) ∧ Ts w0 w' p d kw h' t' ∧ w.grownBy w' (some d) := by
  have hN := M.le
  have hn : isN (32 * (1 + (i : Int))) := by unfold isN; omega
  by_cases hin : 32 * (1 + (i : Int)) ∈ t.ids
  · have hO : h.O (32 * (1 + (i : Int))) = 8 := by rw [T.own hn, if_pos hin]
    refine ⟨h, t, 1, l, top, 8, add_in M (by omega) (by omega) hO 1, M, (Add_hs_in T.S hn (by omega)).mono ?_⟩
    rintro e w' ⟨rfl, S', hg⟩
    exact ⟨rfl, T.with_ S', hg⟩
  · have hO : h.O (32 * (1 + (i : Int))) = 0 := by rw [T.own hn, if_neg hin]
    obtain ⟨h', t', a1, a2, a3⟩ := Add_ts T hn hin
    obtain ⟨k, l', top', b1, b2⟩ := add_sim a1 M (by omega) (by omega) (by omega)
    exact ⟨h', t', k, l', top', 0, b1, b2, a3⟩
theorem rem_both (T : Ts w0 w p d kw h t) (M : Sm N (keyOf kw) l top h) {i : Nat} (hi : i < N) : ∃ h' t' k l' top' c, turnbuckleref11_Remove.f k l top (1 + (i : Int)) = some (l', top', c) ∧ Sm N (keyOf kw) l' top' h' ∧
    Calls Try.prog 16 #[.pointer (some ⟨p, 0, none⟩), .int .i64 8, .int .i64 (32 * (1 + (i : Int)))] w fun e w' => e = .returned (.int .i64 c) ∧ Ts w0 w' p d kw h' t' ∧ w.grownBy w' (some d) := by
  have hN := M.le
  have hn : isN (32 * (1 + (i : Int))) := by unfold isN; omega
  by_cases hin : 32 * (1 + (i : Int)) ∈ t.ids
  · obtain ⟨h', t', a1, a2, a3⟩ := Remove_ts T hin
    obtain ⟨k, l', top', b1, b2⟩ := rem_sim a1 M (by omega) (by omega)
    exact ⟨h', t', k, l', top', 0, b1, b2, a3⟩
  · have hO : h.O (32 * (1 + (i : Int))) ≠ 8 := by rw [T.own hn, if_neg hin]; decide
    refine ⟨h, t, 1, l, top, 8, rem_out M (by omega) (by omega) hO 1, M, (Remove_hs_no T.S hn hO).mono ?_⟩
    rintro e w' ⟨rfl, S', hg⟩
    exact ⟨rfl, T.with_ S', hg⟩
end
end Go.Proofs.Ythkppnkhiimaeaa.PTreePlays
