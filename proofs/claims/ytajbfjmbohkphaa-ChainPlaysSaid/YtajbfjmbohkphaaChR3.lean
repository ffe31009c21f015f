/- The law ChainPlays. -/
import Derived.Test.YtajbfjmbohkphaaChR2
import Derived.Test.YtajbfjmbohkphaaChD
import Derived.Test.YtajbfjmbohkphaaPost
import Derived.Test.YtajbfjmbohkphaaCol
import Derived.Deep.DeepCutAuto
set_option linter.unusedVariables false
set_option linter.unusedSimpArgs false
namespace Go.Proofs.Ytajbfjmbohkphaa.Ref
open Go.RowKit Go.Proofs.YtajbfjmbohkphaaW.PrintWords Go.Proofs.Ytajbfjmbohkphaa.PChainPlays
open Go.Proofs.Ytajbfjmbohkphaa (Cs hA nA isH_hA isN_nA head_calls node_calls Push_cs Pop_cs Remove_cs fresh_cs shown_calls ownr endN nums isH isN Deeds pushLs remLs)

theorem Cs_kept {w0 w w1 : World} {p d : Nat} {ls : Int → List Int} {P : Nat → Prop} (S : Cs w0 w p d ls) (hb : Below w0.heap.size w0 w1) (hk : Go.Proofs.YtajbfjmbohkphaaW.PrintWords.Kept w w1 P) (hp : ¬ P p) (hd : ¬ P d) : Cs w0 w1 p d ls := by
  obtain ⟨bs, G, h1, h2, h3⟩ := S.ex
  exact ⟨bs, G, ⟨⟨hb⟩, ⟨(hk.2 p h1.ar.lt.1 hp).trans h1.ar.hdr, (hk.2 d h1.ar.lt.2 hd).trans h1.ar.row, h1.ar.ne, h1.ar.len, h1.ar.rng⟩, h1.new⟩, h2, h3⟩
/-- The round's state: the chain's lists, the reference's, and where x lies. -/
structure Rd (w0 w : World) (p d g : Nat) (hv ov : Value) (ls : Int → List Int) : Prop where
  lx : Lx w0 w p d g hv ov ls
  xl : Xl w g hv ov
  ne : g ≠ p ∧ g ≠ d ∧ w0.heap.size ≤ g
section
variable {w0 w w1 : World} {p d g : Nat} {hv ov v0 v1 : Value} {ls ls' ls1 : Int → List Int}
theorem Rd.kept (h : Rd w0 w p d g hv ov ls) (hk : Kd1 w w1 d) : Rd w0 w1 p d g hv ov ls := ⟨h.lx.kept hk, h.xl.kept hk h.ne.2.1, h.ne⟩
/-- Behind a step of the reference, and the store of what it answered. -/
theorem Rd.step (h : Rd w0 w p d g hv ov ls) (S : Cs w0 w p d ls1) (hr : Kd.R (Kd.int .i64) 3 w1 w0.heap.size (fun k => (k ≠ p ∧ k ≠ d ∧ k ≠ g) ∨ w.heap.size ≤ k) v0 H3)
    (hv1 : Kd.V (Kd.slice 3 (Kd.int .i64)) 29 w1 w0.heap.size (fun k => (((k ≠ p ∧ k ≠ d ∧ k ≠ g) ∨ (k ≠ p ∧ k ≠ d ∧ k ≠ g)) ∨ w.heap.size ≤ k) ∧ some k ≠ v0.ownBlock) v1 (O3 ls'))
    (hb : Below w0.heap.size w0 w1) (hk : Go.Proofs.YtajbfjmbohkphaaW.PrintWords.Kept w w1 (fun k => k ≠ p ∧ k ≠ d ∧ k ≠ g)) :
    Rd w0 ((w1.setCell ⟨g, 0, none⟩ v0).setCell ⟨g, 1, none⟩ v1) p d g v0 v1 ls' ∧ Cs w0 ((w1.setCell ⟨g, 0, none⟩ v0).setCell ⟨g, 1, none⟩ v1) p d ls1 := by
  have hg := h.xl.lt
  have hpd := S.new
  have hP : ∀ k, (k ≠ p ∧ k ≠ d ∧ k ≠ g) ∨ w.heap.size ≤ k → k ≠ p ∧ k ≠ d ∧ k ≠ g := fun k hk => by
    rcases hk with hk | hk
    · exact hk
    · omega
  have hX : w1.heap[g]? = some (.cells #[hv, ov] 42) := (hk.2 g hg (fun e => e.2.2 rfl)).trans h.xl
  refine ⟨⟨⟨?_, ?_⟩, ?_, h.ne⟩, ?_⟩
  · exact Kd.R_far (Kd.R_far (Kd.R_mono hr hP) (fun k hk => hk.2.2) v0) (fun k hk => hk.2.2) v1
  · exact Kd.V_far (Kd.V_far (Kd.V_mono hv1 (fun k hk => ⟨hP k (hk.1.elim (fun h => h.elim .inl .inl) .inr), hk.2⟩)) (fun k hk => hk.1.2.2) v0) (fun k hk => hk.1.2.2) v1
  · exact blk_put (cs := #[v0, ov]) (blk_put (cs := #[hv, ov]) hX 0 _ rfl) 1 _ rfl
  · refine Cs_kept (P := fun k => k ≠ p ∧ k ≠ d) S (below_set (below_set hb h.ne.2.2) h.ne.2.2) (Kept.setCell (Kept.setCell ⟨hk.1, fun i hi hn => hk.2 i hi (fun e => hn ⟨e.1, e.2.1⟩)⟩ (.inl ⟨h.ne.1, h.ne.2.1⟩) _) (.inl ⟨h.ne.1, h.ne.2.1⟩) _) (fun e => e.1 rfl) (fun e => e.2 rfl)
end
end Go.Proofs.Ytajbfjmbohkphaa.Ref
