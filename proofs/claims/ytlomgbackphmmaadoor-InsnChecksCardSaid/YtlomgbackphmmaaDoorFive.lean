/- An instruction that came in by value: its five fields. -/
import Derived.Lib.SmallJoins
set_option linter.unusedVariables false
namespace Go.Proofs.YtlomgbackphmmaaDoor
open Go.RowKit Go.ChangeShapes Go.WideShapes Go.Deep Go.Joins
theorem open_agg5 {H : Type} {enc : TypeId × Value → H} {P : Program} {w : World} {base : Nat} {spare : Nat → Bool} {held : Bool} {r : Reach} {b0 : Nat} {t : TypeId} {f0 f1 f2 f3 f4 : Field} {v : Value} {d : DataW H} {p : List MemPlace}
    (hs : P.underlying t = some (.struct #[f0, f1, f2, f3, f4])) (hone : oneCellFields P #[f0, f1, f2, f3, f4] = true) (hC : P.cellsOf t = 5) (hv : Value.okWide P w r b0 t v) (h : DataW.Trod enc P w base spare held t v d p) :
    ∃ (v0 v1 v2 v3 v4 : Value) (y0 y1 y2 y3 y4 : DataW H × List MemPlace) (n : Nat), v = .agg #[v0, v1, v2, v3, v4] ∧ d = .agg [y0.1, y1.1, y2.1, y3.1, y4.1] ∧ p = y0.2 ++ (y1.2 ++ (y2.2 ++ (y3.2 ++ y4.2))) ∧
      DataW.trod enc P w base spare held n f0.type [v0] = some y0 ∧ DataW.trod enc P w base spare held n f1.type [v1] = some y1 ∧ DataW.trod enc P w base spare held n f2.type [v2] = some y2 ∧ DataW.trod enc P w base spare held n f3.type [v3] = some y3 ∧ DataW.trod enc P w base spare held n f4.type [v4] = some y4 := by
  obtain ⟨cells, rfl, hcells⟩ := okWide_struct hs hv
  obtain ⟨fuel, hread⟩ := h
  obtain ⟨ys, n, _, hboth, _, hnum, hfield⟩ := DataW.trod_struct hs hread
  have size5 : cells.size = 5 := hcells.trans hC
  obtain ⟨cl⟩ := cells
  match cl, size5 with
  | [u0, u1, u2, u3, u4], _ =>
    match ys, hnum with
    | [z0, z1, z2, z3, z4], _ =>
      have q0 := hone_of hone 0 f0 rfl
      have q1 := hone_of hone 1 f1 rfl
      have q2 := hone_of hone 2 f2 rfl
      have q3 := hone_of hone 3 f3 rfl
      have q4 := hone_of hone 4 f4 rfl
      simp only [Prod.mk.injEq] at hboth
      refine ⟨u0, u1, u2, u3, u4, z0, z1, z2, z3, z4, n, rfl, by simpa using hboth.1, by simpa using hboth.2, ?_, ?_, ?_, ?_, ?_⟩
      · simpa [Value.cells, q0.1, q0.2] using hfield 0 f0 rfl
      · simpa [Value.cells, q1.1, q1.2] using hfield 1 f1 rfl
      · simpa [Value.cells, q2.1, q2.2] using hfield 2 f2 rfl
      · simpa [Value.cells, q3.1, q3.2] using hfield 3 f3 rfl
      · simpa [Value.cells, q4.1, q4.2] using hfield 4 f4 rfl
end Go.Proofs.YtlomgbackphmmaaDoor
