/- Lemmas of the claim TreePlays. -/
import Derived.Test.YthkppnkhiimaeaaTrS7
import Derived.Deep.DeepCutAuto
/- The law TreePlays: the reference's leaves in memory. -/
set_option linter.unusedVariables false
set_option linter.unusedSimpArgs false
namespace Go.Proofs.Ythkppnkhiimaeaa.PTreePlays
open Go.RowKit Go.Proofs.Ythkppnkhiimaeaa Go.Proofs.YthkppnkhiimaeaaW.PrintWords Go.Proofs.YthkppnkhiimaeaaW.PrintLast Go.Proofs.YthkppnkhiimaeaaW.PrintMore
abbrev Kd1 (w w1 : World) (d : Nat) : Prop := Go.Proofs.YthkppnkhiimaeaaW.PrintWords.Kept w w1 (fun k => k = d)
section
variable {w w1 : World} {g d : Nat} {hv ov : Value}
theorem kd_grown (hg : w.grownBy w1 (some d)) : Kd1 w w1 d := ⟨hg.size, fun i hi hne => hg.block i hi (fun e => hne (by injection e))⟩
theorem kd_below (hb : Below w.heap.size w w1) : Kd1 w w1 d := ⟨hb.size, fun i hi _ => hb.block i hi⟩
theorem Kd1.trans {w2 : World} (h : Kd1 w w1 d) (k : Kd1 w1 w2 d) : Kd1 w w2 d := ⟨Nat.le_trans h.1 k.1, fun i hi hne => (k.2 i (Nat.lt_of_lt_of_le hi h.1) hne).trans (h.2 i hi hne)⟩
def Xl (w : World) (g : Nat) (hv ov : Value) : Prop := w.heap[g]? = some (.cells #[hv, ov] 49)
theorem Xl.lt (h : Xl w g hv ov) : g < w.heap.size := (Array.getElem?_eq_some_iff.1 h).1
theorem Xl.c0 (h : Xl w g hv ov) : w.cell? ⟨g, 0, none⟩ = some hv := by rw [cell_of_row w g 0 _ _ _ h]; rfl
theorem Xl.c1 (h : Xl w g hv ov) : w.cell? ⟨g, 1, none⟩ = some ov := by rw [cell_of_row w g 1 _ _ _ h]; rfl
theorem Xl.kept (h : Xl w g hv ov) (hk : Kd1 w w1 d) (hg : g ≠ d) : Xl w1 g hv ov := (hk.2 g h.lt hg).trans h
end
def Xx (w : World) (g : Nat) (x : S80) : Prop := w.heap[g]? = some (.cells #[.int .u64 x.f0, .int .i64 x.f1, .int .i64 x.f2, .int .i64 x.f3, .bool x.f4, .bool x.f5] 80)
section
variable {w w1 : World} {g d : Nat} {x : S80}
theorem Xx.lt (h : Xx w g x) : g < w.heap.size := (Array.getElem?_eq_some_iff.1 h).1
theorem Xx.c1 (h : Xx w g x) : w.cell? ⟨g, 1, none⟩ = some (.int .i64 x.f1) := by rw [cell_of_row w g 1 _ _ _ h]; rfl
theorem Xx.c2 (h : Xx w g x) : w.cell? ⟨g, 2, none⟩ = some (.int .i64 x.f2) := by rw [cell_of_row w g 2 _ _ _ h]; rfl
theorem Xx.c3 (h : Xx w g x) : w.cell? ⟨g, 3, none⟩ = some (.int .i64 x.f3) := by rw [cell_of_row w g 3 _ _ _ h]; rfl
theorem Xx.c4 (h : Xx w g x) : w.cell? ⟨g, 4, none⟩ = some (.bool x.f4) := by rw [cell_of_row w g 4 _ _ _ h]; rfl
theorem Xx.c5 (h : Xx w g x) : w.cell? ⟨g, 5, none⟩ = some (.bool x.f5) := by rw [cell_of_row w g 5 _ _ _ h]; rfl
theorem Xx.kept (h : Xx w g x) (hk : Kd1 w w1 d) (hg : g ≠ d) : Xx w1 g x := (hk.2 g h.lt hg).trans h
end
end Go.Proofs.Ythkppnkhiimaeaa.PTreePlays
