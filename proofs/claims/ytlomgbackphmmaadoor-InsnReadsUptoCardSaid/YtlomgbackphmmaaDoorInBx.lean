/- A box that holds an instruction. -/
import Derived.Test.YtlomgbackphmmaaDoorInP
set_option linter.unusedVariables false
set_option linter.unusedSimpArgs false
namespace Go.Proofs.YtlomgbackphmmaaDoor
open Go.RowKit Go.Lib

/-- A box that holds an instruction. -/
def Bx (w : World) (g : Nat) (x : Ins) : Prop := w.heap[g]? = some (.cells x.cells 24)
theorem Bx.lt {w : World} {g : Nat} {x : Ins} (h : Bx w g x) : g < w.heap.size := (Array.getElem?_eq_some_iff.1 h).1
theorem Bx.below {w w1 : World} {g : Nat} {x : Ins} (h : Bx w g x) (hb : Below w.heap.size w w1) : Bx w1 g x := (hb.block g h.lt).trans h
theorem Bx.new (w : World) (x : Ins) : Bx (w.alloc (.cells x.cells 24)) w.heap.size x := heap_alloc_new w _
theorem Bx.k0 {w : World} {g : Nat} {x : Ins} (h : Bx w g x) : w.cell? ⟨g, 0, none⟩ = some (.int .u8 x.op) := by rw [cell_of_row w g 0 _ _ _ h]; rfl
theorem Bx.k1 {w : World} {g : Nat} {x : Ins} (h : Bx w g x) : w.cell? ⟨g, 1, none⟩ = some (.int .u8 x.a) := by rw [cell_of_row w g 1 _ _ _ h]; rfl
theorem Bx.k2 {w : World} {g : Nat} {x : Ins} (h : Bx w g x) : w.cell? ⟨g, 2, none⟩ = some (.int .u8 x.b) := by rw [cell_of_row w g 2 _ _ _ h]; rfl
theorem Bx.k3 {w : World} {g : Nat} {x : Ins} (h : Bx w g x) : w.cell? ⟨g, 3, none⟩ = some (.int .u8 x.c) := by rw [cell_of_row w g 3 _ _ _ h]; rfl
theorem Bx.k4 {w : World} {g : Nat} {x : Ins} (h : Bx w g x) : w.cell? ⟨g, 4, none⟩ = some (.int .u32 x.imm) := by rw [cell_of_row w g 4 _ _ _ h]; rfl
end Go.Proofs.YtlomgbackphmmaaDoor
