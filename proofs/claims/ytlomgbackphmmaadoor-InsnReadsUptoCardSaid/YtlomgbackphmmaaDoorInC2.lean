/- insn.Check: what it answers, operation by operation. -/
import Derived.Test.YtlomgbackphmmaaDoorInC
set_option linter.unusedVariables false
set_option linter.unusedSimpArgs false
namespace Go.Proofs.YtlomgbackphmmaaDoor
open Go.RowKit

theorem ret_int {k : IntKind} {a b : Int} (h : a = b) : Ending.returned (.int k a) = .returned (.int k b) := by rw [h]
theorem words_cmp (w : World) (a : Option Addr) (n c : Nat) : (binOp .neq 51 (.slice a n c) (.slice none 0 0)).run Tryd.prog w = .ok (.bool (!a.isNone)) w := run_neq_slice_nil_any w _ 9 a n c 0 0 Tryd.underlying51
/-- A box of five cells, later. -/
theorem five {w w1 : World} {x0 x1 x2 x3 x4 : Value} {t : TypeId} {B : Nat} (hB : w.heap.size < B) (hb : Below B (w.alloc (.cells #[x0, x1, x2, x3, x4] t)) w1) :
    w1.cell? ⟨w.heap.size, 0, none⟩ = some x0 ∧ w1.cell? ⟨w.heap.size, 1, none⟩ = some x1 ∧ w1.cell? ⟨w.heap.size, 2, none⟩ = some x2 ∧ w1.cell? ⟨w.heap.size, 3, none⟩ = some x3 ∧ w1.cell? ⟨w.heap.size, 4, none⟩ = some x4 := by
  refine ⟨?_, ?_, ?_, ?_, ?_⟩
  · exact (hb.cell (p := ⟨w.heap.size, 0, none⟩) hB).trans (by simp)
  · exact (hb.cell (p := ⟨w.heap.size, 1, none⟩) hB).trans (by simp)
  · exact (hb.cell (p := ⟨w.heap.size, 2, none⟩) hB).trans (by simp)
  · exact (hb.cell (p := ⟨w.heap.size, 3, none⟩) hB).trans (by simp)
  · exact (hb.cell (p := ⟨w.heap.size, 4, none⟩) hB).trans (by simp)

set_option maxRecDepth 100000 in
set_option maxHeartbeats 1000000 in
theorem words_no (op : Int) (w : World) (h : hasW op = false) : Calls Tryd.prog 23 #[.int .u8 op] w fun e w' => e = .returned (.slice none 0 0) ∧ w = w' := by
  unfold hasW at h
  simp only [Bool.or_eq_false_iff] at h
  obtain ⟨⟨⟨⟨h3, h4⟩, h6⟩, h7⟩, h14⟩ := h
  go_enter Tryd.func23, Tryd.ntmps23
  go_wp2
  go_ret
  exact ⟨rfl, rfl⟩
set_option maxRecDepth 100000 in
set_option maxHeartbeats 1000000 in
theorem words_yes (op : Int) (w : World) (h : op = 3 ∨ op = 4 ∨ op = 6 ∨ op = 7 ∨ op = 14) : Calls Tryd.prog 23 #[.int .u8 op] w fun e w' => (∃ ad n c, e = .returned (.slice (some ad) n c)) ∧ Below w.heap.size w w' := by
  rcases h with rfl | rfl | rfl | rfl | rfl
  all_goals
    go_enter Tryd.func23, Tryd.ntmps23
    go_wp2
    go_ret
    exact ⟨⟨_, _, _, rfl⟩, (Below.refl _ w).alloc (Nat.le_refl _) _⟩

def over (v m : Int) : Bool := decide (m < v) && decide (0 < m)
/-- What Check answers. -/
def chk (x : Ins) : Int :=
  if isOp x.op = true then
    (if over x.a (bnd x.op).a || over x.b (bnd x.op).b || over x.c (bnd x.op).c || (hasW x.op && x.c == 0) || (decide (0 < (bnd x.op).most) && (decide (x.imm < (bnd x.op).least) || decide ((bnd x.op).most < x.imm))) then 4
    else if ((bnd x.op).a == 0 && decide (0 < x.a)) || ((bnd x.op).b == 0 && decide (0 < x.b)) || ((bnd x.op).c == 0 && decide (0 < x.c)) || ((bnd x.op).most == 0 && decide (0 < x.imm)) then 1 else 0)
  else 3

set_option maxRecDepth 100000 in
set_option maxHeartbeats 1000000 in
theorem Check_bad (op a b c imm : Int) (w : World) (h : op < 1 ∨ 15 < op) (h0 : 0 ≤ op) (h1 : op ≤ 255) :
    Calls Tryd.prog 13 #[.agg #[.int .u8 op, .int .u8 a, .int .u8 b, .int .u8 c, .int .u32 imm]] w fun e w' => e = .returned (.int .i64 3) ∧ Below w.heap.size w w' := by
  have HH := Lib.hid h
  clear h
  go_enter Tryd.func13, Tryd.ntmps13
  go_wp2_with fail
  refine (row_bad op _ HH.out h0 h1).mono ?_
  rintro e w1 ⟨rfl, hB1⟩
  have HB := Lib.hid (((Below.refl _ w).alloc (Nat.le_refl _) (.cells #[.int .u8 op, .int .u8 a, .int .u8 b, .int .u8 c, .int .u32 imm] 24)).trans (hB1.mono (by simp)))
  have hsz : w.heap.size ≤ w1.heap.size := HB.out.size
  clear hB1
  go_wp2
  go_ret
  exact ⟨rfl, HB.out.alloc hsz _⟩

set_option maxRecDepth 100000 in
set_option maxHeartbeats 4000000 in
theorem Check_1 (a b c imm : Int) (w : World) (ha : 0 ≤ a ∧ a ≤ 255) (hb : 0 ≤ b ∧ b ≤ 255) (hc : 0 ≤ c ∧ c ≤ 255) (hi : 0 ≤ imm ∧ imm ≤ 4294967295) :
    Calls Tryd.prog 13 #[.agg #[.int .u8 1, .int .u8 a, .int .u8 b, .int .u8 c, .int .u32 imm]] w fun e w' => e = .returned (.int .i64 (chk ⟨1, a, b, c, imm⟩)) ∧ Below w.heap.size w w' := by
  obtain ⟨a0, a1⟩ := ha
  obtain ⟨b0, b1⟩ := hb
  obtain ⟨c0, c1⟩ := hc
  obtain ⟨i0, i1⟩ := hi
  have hnn := words_cmp
  go_enter Tryd.func13, Tryd.ntmps13
  go_wp2_with fail
  refine (row_ok 1 _ (by omega) (by omega)).mono ?_
  rintro e w1 ⟨rfl, hB1⟩
  rw [show bnd ((1 : Nat) : Int) = ⟨9, 9, 0, 0, 0⟩ from rfl]
  dsimp only [Bd.val]
  rw [World.size_alloc] at hB1
  have hsz : w.heap.size + 1 ≤ w1.heap.size := by have := hB1.size; simpa using this
  have hB1a := hB1.alloc hsz (.cells #[.int .u32 9, .int .u32 9, .int .u32 0, .int .u32 0, .int .u32 0] 61)
  obtain ⟨p0, p1, p2, p3, p4⟩ := five (by omega) hB1a
  have HB1 := Lib.hid hB1a
  have HB := Lib.hid (((Below.refl _ w).alloc (Nat.le_refl _) (.cells #[.int .u8 1, .int .u8 a, .int .u8 b, .int .u8 c, .int .u32 imm] 24)).trans (hB1a.mono (by omega)))
  clear hB1 hB1a
  go_wp2_with (first
    | (go_at_call 30; refine (over_calls _ _ _).mono ?_; rintro e w2 ⟨rfl, rfl⟩)
    | (go_at_call 23; refine (words_no 1 _ (by decide)).mono ?_; rintro e w2 ⟨rfl, rfl⟩))
  all_goals
    go_ret
    refine ⟨ret_int ?_, by exact HB.out⟩
    clear hnn HB1 HB p0 p1 p2 p3 p4
    simp only [chk, isOp, hasW, over, bnd]
    simp
    try simp only [beq_iff_eq, beq_eq_false_iff_ne, ne_eq] at *
    repeat' split
    all_goals omega

set_option maxRecDepth 100000 in
set_option maxHeartbeats 4000000 in
theorem Check_2 (a b c imm : Int) (w : World) (ha : 0 ≤ a ∧ a ≤ 255) (hb : 0 ≤ b ∧ b ≤ 255) (hc : 0 ≤ c ∧ c ≤ 255) (hi : 0 ≤ imm ∧ imm ≤ 4294967295) :
    Calls Tryd.prog 13 #[.agg #[.int .u8 2, .int .u8 a, .int .u8 b, .int .u8 c, .int .u32 imm]] w fun e w' => e = .returned (.int .i64 (chk ⟨2, a, b, c, imm⟩)) ∧ Below w.heap.size w w' := by
  obtain ⟨a0, a1⟩ := ha
  obtain ⟨b0, b1⟩ := hb
  obtain ⟨c0, c1⟩ := hc
  obtain ⟨i0, i1⟩ := hi
  have hnn := words_cmp
  go_enter Tryd.func13, Tryd.ntmps13
  go_wp2_with fail
  refine (row_ok 2 _ (by omega) (by omega)).mono ?_
  rintro e w1 ⟨rfl, hB1⟩
  rw [show bnd ((2 : Nat) : Int) = ⟨9, 0, 0, 0, 4294967295⟩ from rfl]
  dsimp only [Bd.val]
  rw [World.size_alloc] at hB1
  have hsz : w.heap.size + 1 ≤ w1.heap.size := by have := hB1.size; simpa using this
  have hB1a := hB1.alloc hsz (.cells #[.int .u32 9, .int .u32 0, .int .u32 0, .int .u32 0, .int .u32 4294967295] 61)
  obtain ⟨p0, p1, p2, p3, p4⟩ := five (by omega) hB1a
  have HB1 := Lib.hid hB1a
  have HB := Lib.hid (((Below.refl _ w).alloc (Nat.le_refl _) (.cells #[.int .u8 2, .int .u8 a, .int .u8 b, .int .u8 c, .int .u32 imm] 24)).trans (hB1a.mono (by omega)))
  clear hB1 hB1a
  go_wp2_with (first
    | (go_at_call 30; refine (over_calls _ _ _).mono ?_; rintro e w2 ⟨rfl, rfl⟩)
    | (go_at_call 23; refine (words_no 2 _ (by decide)).mono ?_; rintro e w2 ⟨rfl, rfl⟩))
  all_goals
    go_ret
    refine ⟨ret_int ?_, by exact HB.out⟩
    clear hnn HB1 HB p0 p1 p2 p3 p4
    simp only [chk, isOp, hasW, over, bnd]
    simp
    try simp only [beq_iff_eq, beq_eq_false_iff_ne, ne_eq] at *
    repeat' split
    all_goals omega

set_option maxRecDepth 100000 in
set_option maxHeartbeats 4000000 in
theorem Check_3 (a b c imm : Int) (w : World) (ha : 0 ≤ a ∧ a ≤ 255) (hb : 0 ≤ b ∧ b ≤ 255) (hc : 0 ≤ c ∧ c ≤ 255) (hi : 0 ≤ imm ∧ imm ≤ 4294967295) :
    Calls Tryd.prog 13 #[.agg #[.int .u8 3, .int .u8 a, .int .u8 b, .int .u8 c, .int .u32 imm]] w fun e w' => e = .returned (.int .i64 (chk ⟨3, a, b, c, imm⟩)) ∧ Below w.heap.size w w' := by
  obtain ⟨a0, a1⟩ := ha
  obtain ⟨b0, b1⟩ := hb
  obtain ⟨c0, c1⟩ := hc
  obtain ⟨i0, i1⟩ := hi
  have hnn := words_cmp
  go_enter Tryd.func13, Tryd.ntmps13
  go_wp2_with fail
  refine (row_ok 3 _ (by omega) (by omega)).mono ?_
  rintro e w1 ⟨rfl, hB1⟩
  rw [show bnd ((3 : Nat) : Int) = ⟨9, 9, 11, 0, 0⟩ from rfl]
  dsimp only [Bd.val]
  rw [World.size_alloc] at hB1
  have hsz : w.heap.size + 1 ≤ w1.heap.size := by have := hB1.size; simpa using this
  have hB1a := hB1.alloc hsz (.cells #[.int .u32 9, .int .u32 9, .int .u32 11, .int .u32 0, .int .u32 0] 61)
  obtain ⟨p0, p1, p2, p3, p4⟩ := five (by omega) hB1a
  have HB1 := Lib.hid hB1a
  have HB := Lib.hid (((Below.refl _ w).alloc (Nat.le_refl _) (.cells #[.int .u8 3, .int .u8 a, .int .u8 b, .int .u8 c, .int .u32 imm] 24)).trans (hB1a.mono (by omega)))
  clear hB1 hB1a
  go_wp2_with (first
    | (go_at_call 30; refine (over_calls _ _ _).mono ?_; rintro e w2 ⟨rfl, rfl⟩)
    | (go_at_call 23; refine (words_yes 3 _ (by omega)).mono ?_; rintro e w2 ⟨⟨ad, wn, wc, rfl⟩, hB2⟩; have hB3 := HB1.out.trans (hB2.mono (by simp; omega)); obtain ⟨d0, d1, d2, d3, d4⟩ := five (by omega) hB3; obtain ⟨e0, e1, e2, e3, e4⟩ := five (by simp) hB2; have HB2 := Lib.hid (HB.out.trans (hB2.mono (by simp; omega))); clear hB2 hB3))
  all_goals
    go_ret
    refine ⟨ret_int ?_, by first | exact HB2.out | exact HB.out⟩
    clear hnn HB1 HB p0 p1 p2 p3 p4
    simp only [chk, isOp, hasW, over, bnd]
    simp
    try simp only [beq_iff_eq, beq_eq_false_iff_ne, ne_eq] at *
    repeat' split
    all_goals omega
end Go.Proofs.YtlomgbackphmmaaDoor
