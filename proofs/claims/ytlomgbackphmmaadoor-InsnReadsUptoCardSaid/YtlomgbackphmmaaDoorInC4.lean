/- insn.Check, operation by operation: on. -/
import Derived.Test.YtlomgbackphmmaaDoorInC2
set_option linter.unusedVariables false
set_option linter.unusedSimpArgs false
namespace Go.Proofs.YtlomgbackphmmaaDoor
open Go.RowKit

set_option maxRecDepth 100000 in
set_option maxHeartbeats 4000000 in
theorem Check_10 (a b c imm : Int) (w : World) (ha : 0 ≤ a ∧ a ≤ 255) (hb : 0 ≤ b ∧ b ≤ 255) (hc : 0 ≤ c ∧ c ≤ 255) (hi : 0 ≤ imm ∧ imm ≤ 4294967295) :
    Calls Tryd.prog 13 #[.agg #[.int .u8 10, .int .u8 a, .int .u8 b, .int .u8 c, .int .u32 imm]] w fun e w' => e = .returned (.int .i64 (chk ⟨10, a, b, c, imm⟩)) ∧ Below w.heap.size w w' := by
  obtain ⟨a0, a1⟩ := ha
  obtain ⟨b0, b1⟩ := hb
  obtain ⟨c0, c1⟩ := hc
  obtain ⟨i0, i1⟩ := hi
  have hnn := words_cmp
  go_enter Tryd.func13, Tryd.ntmps13
  go_wp2_with fail
  refine (row_ok 10 _ (by omega) (by omega)).mono ?_
  rintro e w1 ⟨rfl, hB1⟩
  rw [show bnd ((10 : Nat) : Int) = ⟨9, 9, 11, 0, 4294967295⟩ from rfl]
  dsimp only [Bd.val]
  rw [World.size_alloc] at hB1
  have hsz : w.heap.size + 1 ≤ w1.heap.size := by have := hB1.size; simpa using this
  have hB1a := hB1.alloc hsz (.cells #[.int .u32 9, .int .u32 9, .int .u32 11, .int .u32 0, .int .u32 4294967295] 61)
  obtain ⟨p0, p1, p2, p3, p4⟩ := five (by omega) hB1a
  have HB1 := Lib.hid hB1a
  have HB := Lib.hid (((Below.refl _ w).alloc (Nat.le_refl _) (.cells #[.int .u8 10, .int .u8 a, .int .u8 b, .int .u8 c, .int .u32 imm] 24)).trans (hB1a.mono (by omega)))
  clear hB1 hB1a
  go_wp2_with (first
    | (go_at_call 30; refine (over_calls _ _ _).mono ?_; rintro e w2 ⟨rfl, rfl⟩)
    | (go_at_call 23; refine (words_no 10 _ (by decide)).mono ?_; rintro e w2 ⟨rfl, rfl⟩))
  all_goals
    go_ret
    refine ⟨ret_int ?_, by exact HB.out⟩
    clear hnn HB1 HB p0 p1 p2 p3 p4
    simp only [chk, isOp, hasW, over, bnd]
    simp
    try simp only [beq_iff_eq, beq_eq_false_iff_ne, ne_eq] at *
    repeat' split
    all_goals omega

set_option maxRecDepth 100000 in
set_option maxHeartbeats 4000000 in
theorem Check_11 (a b c imm : Int) (w : World) (ha : 0 ≤ a ∧ a ≤ 255) (hb : 0 ≤ b ∧ b ≤ 255) (hc : 0 ≤ c ∧ c ≤ 255) (hi : 0 ≤ imm ∧ imm ≤ 4294967295) :
    Calls Tryd.prog 13 #[.agg #[.int .u8 11, .int .u8 a, .int .u8 b, .int .u8 c, .int .u32 imm]] w fun e w' => e = .returned (.int .i64 (chk ⟨11, a, b, c, imm⟩)) ∧ Below w.heap.size w w' := by
  obtain ⟨a0, a1⟩ := ha
  obtain ⟨b0, b1⟩ := hb
  obtain ⟨c0, c1⟩ := hc
  obtain ⟨i0, i1⟩ := hi
  have hnn := words_cmp
  go_enter Tryd.func13, Tryd.ntmps13
  go_wp2_with fail
  refine (row_ok 11 _ (by omega) (by omega)).mono ?_
  rintro e w1 ⟨rfl, hB1⟩
  rw [show bnd ((11 : Nat) : Int) = ⟨9, 9, 11, 0, 9⟩ from rfl]
  dsimp only [Bd.val]
  rw [World.size_alloc] at hB1
  have hsz : w.heap.size + 1 ≤ w1.heap.size := by have := hB1.size; simpa using this
  have hB1a := hB1.alloc hsz (.cells #[.int .u32 9, .int .u32 9, .int .u32 11, .int .u32 0, .int .u32 9] 61)
  obtain ⟨p0, p1, p2, p3, p4⟩ := five (by omega) hB1a
  have HB1 := Lib.hid hB1a
  have HB := Lib.hid (((Below.refl _ w).alloc (Nat.le_refl _) (.cells #[.int .u8 11, .int .u8 a, .int .u8 b, .int .u8 c, .int .u32 imm] 24)).trans (hB1a.mono (by omega)))
  clear hB1 hB1a
  go_wp2_with (first
    | (go_at_call 30; refine (over_calls _ _ _).mono ?_; rintro e w2 ⟨rfl, rfl⟩)
    | (go_at_call 23; refine (words_no 11 _ (by decide)).mono ?_; rintro e w2 ⟨rfl, rfl⟩))
  all_goals
    go_ret
    refine ⟨ret_int ?_, by exact HB.out⟩
    clear hnn HB1 HB p0 p1 p2 p3 p4
    simp only [chk, isOp, hasW, over, bnd]
    simp
    try simp only [beq_iff_eq, beq_eq_false_iff_ne, ne_eq] at *
    repeat' split
    all_goals omega

set_option maxRecDepth 100000 in
set_option maxHeartbeats 4000000 in
theorem Check_12 (a b c imm : Int) (w : World) (ha : 0 ≤ a ∧ a ≤ 255) (hb : 0 ≤ b ∧ b ≤ 255) (hc : 0 ≤ c ∧ c ≤ 255) (hi : 0 ≤ imm ∧ imm ≤ 4294967295) :
    Calls Tryd.prog 13 #[.agg #[.int .u8 12, .int .u8 a, .int .u8 b, .int .u8 c, .int .u32 imm]] w fun e w' => e = .returned (.int .i64 (chk ⟨12, a, b, c, imm⟩)) ∧ Below w.heap.size w w' := by
  obtain ⟨a0, a1⟩ := ha
  obtain ⟨b0, b1⟩ := hb
  obtain ⟨c0, c1⟩ := hc
  obtain ⟨i0, i1⟩ := hi
  have hnn := words_cmp
  go_enter Tryd.func13, Tryd.ntmps13
  go_wp2_with fail
  refine (row_ok 12 _ (by omega) (by omega)).mono ?_
  rintro e w1 ⟨rfl, hB1⟩
  rw [show bnd ((12 : Nat) : Int) = ⟨9, 9, 11, 0, 4294967295⟩ from rfl]
  dsimp only [Bd.val]
  rw [World.size_alloc] at hB1
  have hsz : w.heap.size + 1 ≤ w1.heap.size := by have := hB1.size; simpa using this
  have hB1a := hB1.alloc hsz (.cells #[.int .u32 9, .int .u32 9, .int .u32 11, .int .u32 0, .int .u32 4294967295] 61)
  obtain ⟨p0, p1, p2, p3, p4⟩ := five (by omega) hB1a
  have HB1 := Lib.hid hB1a
  have HB := Lib.hid (((Below.refl _ w).alloc (Nat.le_refl _) (.cells #[.int .u8 12, .int .u8 a, .int .u8 b, .int .u8 c, .int .u32 imm] 24)).trans (hB1a.mono (by omega)))
  clear hB1 hB1a
  go_wp2_with (first
    | (go_at_call 30; refine (over_calls _ _ _).mono ?_; rintro e w2 ⟨rfl, rfl⟩)
    | (go_at_call 23; refine (words_no 12 _ (by decide)).mono ?_; rintro e w2 ⟨rfl, rfl⟩))
  all_goals
    go_ret
    refine ⟨ret_int ?_, by exact HB.out⟩
    clear hnn HB1 HB p0 p1 p2 p3 p4
    simp only [chk, isOp, hasW, over, bnd]
    simp
    try simp only [beq_iff_eq, beq_eq_false_iff_ne, ne_eq] at *
    repeat' split
    all_goals omega

set_option maxRecDepth 100000 in
set_option maxHeartbeats 4000000 in
theorem Check_13 (a b c imm : Int) (w : World) (ha : 0 ≤ a ∧ a ≤ 255) (hb : 0 ≤ b ∧ b ≤ 255) (hc : 0 ≤ c ∧ c ≤ 255) (hi : 0 ≤ imm ∧ imm ≤ 4294967295) :
    Calls Tryd.prog 13 #[.agg #[.int .u8 13, .int .u8 a, .int .u8 b, .int .u8 c, .int .u32 imm]] w fun e w' => e = .returned (.int .i64 (chk ⟨13, a, b, c, imm⟩)) ∧ Below w.heap.size w w' := by
  obtain ⟨a0, a1⟩ := ha
  obtain ⟨b0, b1⟩ := hb
  obtain ⟨c0, c1⟩ := hc
  obtain ⟨i0, i1⟩ := hi
  have hnn := words_cmp
  go_enter Tryd.func13, Tryd.ntmps13
  go_wp2_with fail
  refine (row_ok 13 _ (by omega) (by omega)).mono ?_
  rintro e w1 ⟨rfl, hB1⟩
  rw [show bnd ((13 : Nat) : Int) = ⟨9, 9, 11, 0, 9⟩ from rfl]
  dsimp only [Bd.val]
  rw [World.size_alloc] at hB1
  have hsz : w.heap.size + 1 ≤ w1.heap.size := by have := hB1.size; simpa using this
  have hB1a := hB1.alloc hsz (.cells #[.int .u32 9, .int .u32 9, .int .u32 11, .int .u32 0, .int .u32 9] 61)
  obtain ⟨p0, p1, p2, p3, p4⟩ := five (by omega) hB1a
  have HB1 := Lib.hid hB1a
  have HB := Lib.hid (((Below.refl _ w).alloc (Nat.le_refl _) (.cells #[.int .u8 13, .int .u8 a, .int .u8 b, .int .u8 c, .int .u32 imm] 24)).trans (hB1a.mono (by omega)))
  clear hB1 hB1a
  go_wp2_with (first
    | (go_at_call 30; refine (over_calls _ _ _).mono ?_; rintro e w2 ⟨rfl, rfl⟩)
    | (go_at_call 23; refine (words_no 13 _ (by decide)).mono ?_; rintro e w2 ⟨rfl, rfl⟩))
  all_goals
    go_ret
    refine ⟨ret_int ?_, by exact HB.out⟩
    clear hnn HB1 HB p0 p1 p2 p3 p4
    simp only [chk, isOp, hasW, over, bnd]
    simp
    try simp only [beq_iff_eq, beq_eq_false_iff_ne, ne_eq] at *
    repeat' split
    all_goals omega

set_option maxRecDepth 100000 in
set_option maxHeartbeats 4000000 in
theorem Check_14 (a b c imm : Int) (w : World) (ha : 0 ≤ a ∧ a ≤ 255) (hb : 0 ≤ b ∧ b ≤ 255) (hc : 0 ≤ c ∧ c ≤ 255) (hi : 0 ≤ imm ∧ imm ≤ 4294967295) :
    Calls Tryd.prog 13 #[.agg #[.int .u8 14, .int .u8 a, .int .u8 b, .int .u8 c, .int .u32 imm]] w fun e w' => e = .returned (.int .i64 (chk ⟨14, a, b, c, imm⟩)) ∧ Below w.heap.size w w' := by
  obtain ⟨a0, a1⟩ := ha
  obtain ⟨b0, b1⟩ := hb
  obtain ⟨c0, c1⟩ := hc
  obtain ⟨i0, i1⟩ := hi
  have hnn := words_cmp
  go_enter Tryd.func13, Tryd.ntmps13
  go_wp2_with fail
  refine (row_ok 14 _ (by omega) (by omega)).mono ?_
  rintro e w1 ⟨rfl, hB1⟩
  rw [show bnd ((14 : Nat) : Int) = ⟨0, 0, 22, 0, 4294967295⟩ from rfl]
  dsimp only [Bd.val]
  rw [World.size_alloc] at hB1
  have hsz : w.heap.size + 1 ≤ w1.heap.size := by have := hB1.size; simpa using this
  have hB1a := hB1.alloc hsz (.cells #[.int .u32 0, .int .u32 0, .int .u32 22, .int .u32 0, .int .u32 4294967295] 61)
  obtain ⟨p0, p1, p2, p3, p4⟩ := five (by omega) hB1a
  have HB1 := Lib.hid hB1a
  have HB := Lib.hid (((Below.refl _ w).alloc (Nat.le_refl _) (.cells #[.int .u8 14, .int .u8 a, .int .u8 b, .int .u8 c, .int .u32 imm] 24)).trans (hB1a.mono (by omega)))
  clear hB1 hB1a
  go_wp2_with (first
    | (go_at_call 30; refine (over_calls _ _ _).mono ?_; rintro e w2 ⟨rfl, rfl⟩)
    | (go_at_call 23; refine (words_yes 14 _ (by omega)).mono ?_; rintro e w2 ⟨⟨ad, wn, wc, rfl⟩, hB2⟩; have hB3 := HB1.out.trans (hB2.mono (by simp; omega)); obtain ⟨d0, d1, d2, d3, d4⟩ := five (by omega) hB3; obtain ⟨e0, e1, e2, e3, e4⟩ := five (by simp) hB2; have HB2 := Lib.hid (HB.out.trans (hB2.mono (by simp; omega))); clear hB2 hB3))
  all_goals
    go_ret
    refine ⟨ret_int ?_, by first | exact HB2.out | exact HB.out⟩
    clear hnn HB1 HB p0 p1 p2 p3 p4
    simp only [chk, isOp, hasW, over, bnd]
    simp
    try simp only [beq_iff_eq, beq_eq_false_iff_ne, ne_eq] at *
    repeat' split
    all_goals omega

set_option maxRecDepth 100000 in
set_option maxHeartbeats 4000000 in
theorem Check_15 (a b c imm : Int) (w : World) (ha : 0 ≤ a ∧ a ≤ 255) (hb : 0 ≤ b ∧ b ≤ 255) (hc : 0 ≤ c ∧ c ≤ 255) (hi : 0 ≤ imm ∧ imm ≤ 4294967295) :
    Calls Tryd.prog 13 #[.agg #[.int .u8 15, .int .u8 a, .int .u8 b, .int .u8 c, .int .u32 imm]] w fun e w' => e = .returned (.int .i64 (chk ⟨15, a, b, c, imm⟩)) ∧ Below w.heap.size w w' := by
  obtain ⟨a0, a1⟩ := ha
  obtain ⟨b0, b1⟩ := hb
  obtain ⟨c0, c1⟩ := hc
  obtain ⟨i0, i1⟩ := hi
  have hnn := words_cmp
  go_enter Tryd.func13, Tryd.ntmps13
  go_wp2_with fail
  refine (row_ok 15 _ (by omega) (by omega)).mono ?_
  rintro e w1 ⟨rfl, hB1⟩
  rw [show bnd ((15 : Nat) : Int) = ⟨0, 0, 0, 0, 0⟩ from rfl]
  dsimp only [Bd.val]
  rw [World.size_alloc] at hB1
  have hsz : w.heap.size + 1 ≤ w1.heap.size := by have := hB1.size; simpa using this
  have hB1a := hB1.alloc hsz (.cells #[.int .u32 0, .int .u32 0, .int .u32 0, .int .u32 0, .int .u32 0] 61)
  obtain ⟨p0, p1, p2, p3, p4⟩ := five (by omega) hB1a
  have HB1 := Lib.hid hB1a
  have HB := Lib.hid (((Below.refl _ w).alloc (Nat.le_refl _) (.cells #[.int .u8 15, .int .u8 a, .int .u8 b, .int .u8 c, .int .u32 imm] 24)).trans (hB1a.mono (by omega)))
  clear hB1 hB1a
  go_wp2_with (first
    | (go_at_call 30; refine (over_calls _ _ _).mono ?_; rintro e w2 ⟨rfl, rfl⟩)
    | (go_at_call 23; refine (words_no 15 _ (by decide)).mono ?_; rintro e w2 ⟨rfl, rfl⟩))
  all_goals
    go_ret
    refine ⟨ret_int ?_, by exact HB.out⟩
    clear hnn HB1 HB p0 p1 p2 p3 p4
    simp only [chk, isOp, hasW, over, bnd]
    simp
    try simp only [beq_iff_eq, beq_eq_false_iff_ne, ne_eq] at *
    repeat' split
    all_goals omega
end Go.Proofs.YtlomgbackphmmaaDoor
