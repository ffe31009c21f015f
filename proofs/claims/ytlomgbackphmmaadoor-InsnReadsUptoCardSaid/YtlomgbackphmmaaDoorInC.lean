/- insn.Check: what it answers (layer 6). -/
import Derived.Test.YtlomgbackphmmaaDoorFlM
import Derived.Test.YtlomgbackphmmaaDoorProg
import Derived.WalkKit
import Derived.WalkSpells
import Derived.Lib.Hide
import Derived.BigQuiet
import Derived.Great.BuildSlice
import Derived.Deep.WholeRow
import Derived.Deep.MidRow
import Derived.KernelRfl
set_option linter.unusedVariables false
set_option linter.unusedSimpArgs false
namespace Go.Proofs.YtlomgbackphmmaaDoor
open Go.RowKit

/-- What fields may be: the greatest of A, B, C; the least and the greatest of Imm. -/
structure Bd where
  a : Int
  b : Int
  c : Int
  least : Int
  most : Int
def bnd (op : Int) : Bd :=
  if op = 1 then ⟨9, 9, 0, 0, 0⟩ else if op = 2 then ⟨9, 0, 0, 0, 4294967295⟩ else if op = 3 then ⟨9, 9, 11, 0, 0⟩ else if op = 4 then ⟨9, 0, 11, 0, 4294967295⟩ else if op = 5 then ⟨0, 0, 0, 1, 127⟩ else
  if op = 6 then ⟨9, 9, 9, 1, 127⟩ else if op = 7 then ⟨9, 255, 9, 1, 127⟩ else if op = 8 then ⟨9, 0, 7, 0, 0⟩ else if op = 9 then ⟨9, 0, 7, 0, 0⟩ else if op = 10 then ⟨9, 9, 11, 0, 4294967295⟩ else
  if op = 11 then ⟨9, 9, 11, 0, 9⟩ else if op = 12 then ⟨9, 9, 11, 0, 4294967295⟩ else if op = 13 then ⟨9, 9, 11, 0, 9⟩ else if op = 14 then ⟨0, 0, 22, 0, 4294967295⟩ else ⟨0, 0, 0, 0, 0⟩
abbrev Bd.val (x : Bd) : Value := .agg #[.int .u32 x.a, .int .u32 x.b, .int .u32 x.c, .int .u32 x.least, .int .u32 x.most]
def isOp (op : Int) : Bool := decide (1 ≤ op) && decide (op ≤ 15)
def hasW (op : Int) : Bool := op == 3 || op == 4 || op == 6 || op == 7 || op == 14

def zeros80 : Array Value := #[.int .u32 0, .int .u32 0, .int .u32 0, .int .u32 0, .int .u32 0, .int .u32 0, .int .u32 0, .int .u32 0, .int .u32 0, .int .u32 0, .int .u32 0, .int .u32 0, .int .u32 0, .int .u32 0, .int .u32 0, .int .u32 0, .int .u32 0, .int .u32 0, .int .u32 0, .int .u32 0, .int .u32 0, .int .u32 0, .int .u32 0, .int .u32 0, .int .u32 0, .int .u32 0, .int .u32 0, .int .u32 0, .int .u32 0, .int .u32 0, .int .u32 0, .int .u32 0, .int .u32 0, .int .u32 0, .int .u32 0, .int .u32 0, .int .u32 0, .int .u32 0, .int .u32 0, .int .u32 0, .int .u32 0, .int .u32 0, .int .u32 0, .int .u32 0, .int .u32 0, .int .u32 0, .int .u32 0, .int .u32 0, .int .u32 0, .int .u32 0, .int .u32 0, .int .u32 0, .int .u32 0, .int .u32 0, .int .u32 0, .int .u32 0, .int .u32 0, .int .u32 0, .int .u32 0, .int .u32 0, .int .u32 0, .int .u32 0, .int .u32 0, .int .u32 0, .int .u32 0, .int .u32 0, .int .u32 0, .int .u32 0, .int .u32 0, .int .u32 0, .int .u32 0, .int .u32 0, .int .u32 0, .int .u32 0, .int .u32 0, .int .u32 0, .int .u32 0, .int .u32 0, .int .u32 0, .int .u32 0]
def rows80 : Array Value := #[.int .u32 0, .int .u32 0, .int .u32 0, .int .u32 0, .int .u32 0, .int .u32 9, .int .u32 9, .int .u32 0, .int .u32 0, .int .u32 0, .int .u32 9, .int .u32 0, .int .u32 0, .int .u32 0, .int .u32 4294967295, .int .u32 9, .int .u32 9, .int .u32 11, .int .u32 0, .int .u32 0, .int .u32 9, .int .u32 0, .int .u32 11, .int .u32 0, .int .u32 4294967295, .int .u32 0, .int .u32 0, .int .u32 0, .int .u32 1, .int .u32 127, .int .u32 9, .int .u32 9, .int .u32 9, .int .u32 1, .int .u32 127, .int .u32 9, .int .u32 255, .int .u32 9, .int .u32 1, .int .u32 127, .int .u32 9, .int .u32 0, .int .u32 7, .int .u32 0, .int .u32 0, .int .u32 9, .int .u32 0, .int .u32 7, .int .u32 0, .int .u32 0, .int .u32 9, .int .u32 9, .int .u32 11, .int .u32 0, .int .u32 4294967295, .int .u32 9, .int .u32 9, .int .u32 11, .int .u32 0, .int .u32 9, .int .u32 9, .int .u32 9, .int .u32 11, .int .u32 0, .int .u32 4294967295, .int .u32 9, .int .u32 9, .int .u32 11, .int .u32 0, .int .u32 9, .int .u32 0, .int .u32 0, .int .u32 22, .int .u32 0, .int .u32 4294967295, .int .u32 0, .int .u32 0, .int .u32 0, .int .u32 0, .int .u32 0]
theorem zero_rows (w : World) : (zeroValue 89).run Tryd.prog w = .ok (.agg zeros80) w := by kernel_rfl

theorem rows_size : rows80.size = 80 := by kernel_rfl
theorem store_rows (w : World) (o : Obj) : (storeCells ⟨w.heap.size + 1, 0, none⟩ rows80.toList).run Tryd.prog ((w.alloc o).alloc (.cells zeros80 89)) = .ok () ((w.alloc o).alloc (.cells rows80 89)) := by
  have := run_storeCells_new (P := Tryd.prog) (w.alloc o) 89 zeros80 rows80 (by kernel_rfl) (by kernel_rfl) (by kernel_rfl)
  rwa [World.size_alloc] at this

set_option maxRecDepth 100000 in
set_option maxHeartbeats 1000000 in
theorem row_bad (op : Int) (w : World) (h : op < 1 ∨ 15 < op) (h0 : 0 ≤ op) (h1 : op ≤ 255) :
    Calls Tryd.prog 29 #[.int .u8 op] w fun e w' => e = .returned (.tuple #[.agg #[.int .u32 0, .int .u32 0, .int .u32 0, .int .u32 0, .int .u32 0], .bool false]) ∧ Below w.heap.size w w' := by
  have hz := zero_rows
  have hs8 := rows_size
  have hst := store_rows
  rcases h with h | h
  all_goals
    go_enter Tryd.func29, Tryd.ntmps29
    go_wp2_with ((with_reducible refine wpList_buildTo rfl 89 _ rfl (some 21) rfl rows80 ?hbb ?_); (case hbb => kernel_rfl))
    refine bodyPost_ret (v := .tuple #[.agg #[.int .u32 0, .int .u32 0, .int .u32 0, .int .u32 0, .int .u32 0], .bool false]) (by simp [results, Tryd.results29, go_sem]) rfl ⟨rfl, ?_⟩
    exact ((Below.refl _ w).alloc (Nat.le_refl _) _).alloc (by simp) _

theorem rows_at (k : Nat) (h : k < 16) : rows80[k * 5]? = some (.int .u32 (bnd k).a) ∧ rows80[k * 5 + 1]? = some (.int .u32 (bnd k).b) ∧ rows80[k * 5 + 2]? = some (.int .u32 (bnd k).c) ∧ rows80[k * 5 + 3]? = some (.int .u32 (bnd k).least) ∧ rows80[k * 5 + 4]? = some (.int .u32 (bnd k).most) := by
  have : k = 0 ∨ k = 1 ∨ k = 2 ∨ k = 3 ∨ k = 4 ∨ k = 5 ∨ k = 6 ∨ k = 7 ∨ k = 8 ∨ k = 9 ∨ k = 10 ∨ k = 11 ∨ k = 12 ∨ k = 13 ∨ k = 14 ∨ k = 15 := by omega
  rcases this with rfl | rfl | rfl | rfl | rfl | rfl | rfl | rfl | rfl | rfl | rfl | rfl | rfl | rfl | rfl | rfl <;> exact ⟨rfl, rfl, rfl, rfl, rfl⟩

set_option maxRecDepth 100000 in
set_option maxHeartbeats 1000000 in
theorem row_ok (k : Nat) (w : World) (h1 : 1 ≤ k) (h2 : k ≤ 15) :
    Calls Tryd.prog 29 #[.int .u8 (k : Int)] w fun e w' => e = .returned (.tuple #[(bnd k).val, .bool true]) ∧ Below w.heap.size w w' := by
  have hz := zero_rows
  have hs8 := rows_size
  have hst := store_rows
  have hki : (k : Int) ≤ 15 := by omega
  have hki1 : (1 : Int) ≤ k := by omega
  obtain ⟨r0, r1, r2, r3, r4⟩ := rows_at k (by omega)
  generalize bnd (k : Int) = B at *
  go_enter Tryd.func29, Tryd.ntmps29
  go_wp2_with ((with_reducible refine wpList_buildTo rfl 89 _ rfl (some 21) rfl rows80 ?hbb ?_); (case hbb => kernel_rfl))
  refine bodyPost_ret (v := .tuple #[B.val, .bool true]) (by simp [results, Tryd.results29, go_sem]) rfl ⟨rfl, ?_⟩
  first
    | exact ((Below.refl _ w).alloc (Nat.le_refl _) _).alloc (by simp) _
    | exact (((Below.refl _ w).alloc (Nat.le_refl _) _).alloc (by simp) _).setCell (by simp) _

theorem over_calls (v m : Int) (w : World) : Calls Tryd.prog 30 #[.int .u32 v, .int .u32 m] w fun e w' => e = .returned (.bool (decide (m < v) && decide (0 < m))) ∧ w = w' := by
  by_cases h : m < v
  · go_enter Tryd.func30, Tryd.ntmps30
    go_wp2
    go_ret
    exact ⟨by simp [h], rfl⟩
  · have hd : decide (m < v) = false := decide_eq_false h
    go_enter Tryd.func30, Tryd.ntmps30
    go_wp2
    go_ret
    exact ⟨by simp, rfl⟩
end Go.Proofs.YtlomgbackphmmaaDoor
