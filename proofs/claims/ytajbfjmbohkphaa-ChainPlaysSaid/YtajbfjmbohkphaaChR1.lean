/- The law ChainPlays: the reference's lists in memory; alike. -/
import Derived.Test.YtajbfjmbohkphaaChR0
import Derived.Test.YtajbfjmbohkphaaChShown
import Derived.Deep.DeepCutAuto
set_option linter.unusedVariables false
set_option linter.unusedSimpArgs false
namespace Go.Proofs.Ytajbfjmbohkphaa.Ref
open Go.RowKit Go.Proofs.YtajbfjmbohkphaaW.PrintWords Go.Proofs.Ytajbfjmbohkphaa.PChainPlays
open Go.Proofs.Ytajbfjmbohkphaa (Cs hA nA isH_hA isN_nA head_calls node_calls All_cs End_cs Owner_cs Next_in Next_free ownr endN nums isH isN)

/-- The reference's lists, as they lie. -/
structure Lx (w0 w : World) (p d g : Nat) (hv ov : Value) (ls : Int → List Int) : Prop where
  r : Kd.R (Kd.int .i64) 3 w w0.heap.size (fun k => k ≠ p ∧ k ≠ d ∧ k ≠ g) hv H3
  v : Kd.V (Kd.slice 3 (Kd.int .i64)) 29 w w0.heap.size (fun k => (k ≠ p ∧ k ≠ d ∧ k ≠ g) ∧ some k ≠ hv.ownBlock) ov (O3 ls)
section
variable {w0 w w1 : World} {p d g : Nat} {hv ov : Value} {ls : Int → List Int}
theorem Lx.kept (h : Lx w0 w p d g hv ov ls) (hk : Go.Proofs.YtajbfjmbohkphaaW.PrintWords.Kept w w1 (fun k => k = d)) : Lx w0 w1 p d g hv ov ls :=
  ⟨Kd.R_kept h.r hk (fun k hk e => hk.2.1 e), Kd.V_kept h.v hk (fun k hk e => hk.1.2.1 e)⟩
theorem Lx.below (h : Lx w0 w p d g hv ov ls) (hb : Below w.heap.size w w1) : Lx w0 w1 p d g hv ov ls := ⟨Kd.R_below h.r hb, Kd.V_below h.v hb⟩
/-- What was written is the arena's row alone, or new. -/
abbrev Kd1 (w w1 : World) (d : Nat) : Prop := Go.Proofs.YtajbfjmbohkphaaW.PrintWords.Kept w w1 (fun k => k = d)
theorem kd_grown (hg : w.grownBy w1 (some d)) : Kd1 w w1 d := ⟨hg.size, fun i hi hne => hg.block i hi (fun e => hne (by injection e))⟩
theorem kd_below (hb : Below w.heap.size w w1) : Kd1 w w1 d := ⟨hb.size, fun i hi _ => hb.block i hi⟩
theorem Kd1.trans {w2 : World} (h : Kd1 w w1 d) (k : Kd1 w1 w2 d) : Kd1 w w2 d := ⟨Nat.le_trans h.1 k.1, fun i hi hne => (k.2 i (Nat.lt_of_lt_of_le hi h.1) hne).trans (h.2 i hi hne)⟩
theorem few_of (S : Cs w0 w p d ls) : Few ls := ⟨fun h hh => S.len hh⟩
end
/-- The two slices in a block of their own. -/
def Xl (w : World) (g : Nat) (hv ov : Value) : Prop := w.heap[g]? = some (.cells #[hv, ov] 42)
section
variable {w w1 : World} {g d : Nat} {hv ov : Value}
theorem Xl.lt (h : Xl w g hv ov) : g < w.heap.size := (Array.getElem?_eq_some_iff.1 h).1
theorem Xl.c0 (h : Xl w g hv ov) : w.cell? ⟨g, 0, none⟩ = some hv := by rw [cell_of_row w g 0 _ _ _ h]; rfl
theorem Xl.c1 (h : Xl w g hv ov) : w.cell? ⟨g, 1, none⟩ = some ov := by rw [cell_of_row w g 1 _ _ _ h]; rfl
theorem Xl.kept (h : Xl w g hv ov) (hk : Kd1 w w1 d) (hg : g ≠ d) : Xl w1 g hv ov := (hk.2 g h.lt hg).trans h
end
end Go.Proofs.Ytajbfjmbohkphaa.Ref
