/- insn.Check, operation by operation: on. -/
import Derived.Test.YtlomgbackphmmaaDoorInC2
set_option linter.unusedVariables false
set_option linter.unusedSimpArgs false
namespace Go.Proofs.YtlomgbackphmmaaDoor
open Go.RowKit

set_option maxRecDepth 100000 in
set_option maxHeartbeats 4000000 in
theorem Check_4 (a b c imm : Int) (w : World) (ha : 0 ≤ a ∧ a ≤ 255) (hb : 0 ≤ b ∧ b ≤ 255) (hc : 0 ≤ c ∧ c ≤ 255) (hi : 0 ≤ imm ∧ imm ≤ 4294967295) :
    Calls Tryd.prog 13 #[.agg #[.int .u8 4, .int .u8 a, .int .u8 b, .int .u8 c, .int .u32 imm]] w fun e w' => e = .returned (.int .i64 (chk ⟨4, a, b, c, imm⟩)) ∧ Below w.heap.size w w' := by
  obtain ⟨a0, a1⟩ := ha
  obtain ⟨b0, b1⟩ := hb
  obtain ⟨c0, c1⟩ := hc
  obtain ⟨i0, i1⟩ := hi
  have hnn := words_cmp
  go_enter Tryd.func13, Tryd.ntmps13
  go_wp2_with fail
  refine (row_ok 4 _ (by omega) (by omega)).mono ?_
  rintro e w1 ⟨rfl, hB1⟩
  rw [show bnd ((4 : Nat) : Int) = ⟨9, 0, 11, 0, 4294967295⟩ from rfl]
  dsimp only [Bd.val]
  rw [World.size_alloc] at hB1
  have hsz : w.heap.size + 1 ≤ w1.heap.size := by have := hB1.size; simpa using this
  have hB1a := hB1.alloc hsz (.cells #[.int .u32 9, .int .u32 0, .int .u32 11, .int .u32 0, .int .u32 4294967295] 61)
  obtain ⟨p0, p1, p2, p3, p4⟩ := five (by omega) hB1a
  have HB1 := Lib.hid hB1a
  have HB := Lib.hid (((Below.refl _ w).alloc (Nat.le_refl _) (.cells #[.int .u8 4, .int .u8 a, .int .u8 b, .int .u8 c, .int .u32 imm] 24)).trans (hB1a.mono (by omega)))
  clear hB1 hB1a
  go_wp2_with (first
    | (go_at_call 30; refine (over_calls _ _ _).mono ?_; rintro e w2 ⟨rfl, rfl⟩)
    | (go_at_call 23; refine (words_yes 4 _ (by omega)).mono ?_; rintro e w2 ⟨⟨ad, wn, wc, rfl⟩, hB2⟩; have hB3 := HB1.out.trans (hB2.mono (by simp; omega)); obtain ⟨d0, d1, d2, d3, d4⟩ := five (by omega) hB3; obtain ⟨e0, e1, e2, e3, e4⟩ := five (by simp) hB2; have HB2 := Lib.hid (HB.out.trans (hB2.mono (by simp; omega))); clear hB2 hB3))
  all_goals
    go_ret
    refine ⟨ret_int ?_, by first | exact HB2.out | exact HB.out⟩
    clear hnn HB1 HB p0 p1 p2 p3 p4
    simp only [chk, isOp, hasW, over, bnd]
    simp
    try simp only [beq_iff_eq, beq_eq_false_iff_ne, ne_eq] at *
    repeat' split
    all_goals omega

set_option maxRecDepth 100000 in
set_option maxHeartbeats 4000000 in
theorem Check_5 (a b c imm : Int) (w : World) (ha : 0 ≤ a ∧ a ≤ 255) (hb : 0 ≤ b ∧ b ≤ 255) (hc : 0 ≤ c ∧ c ≤ 255) (hi : 0 ≤ imm ∧ imm ≤ 4294967295) :
    Calls Tryd.prog 13 #[.agg #[.int .u8 5, .int .u8 a, .int .u8 b, .int .u8 c, .int .u32 imm]] w fun e w' => e = .returned (.int .i64 (chk ⟨5, a, b, c, imm⟩)) ∧ Below w.heap.size w w' := by
  obtain ⟨a0, a1⟩ := ha
  obtain ⟨b0, b1⟩ := hb
  obtain ⟨c0, c1⟩ := hc
  obtain ⟨i0, i1⟩ := hi
  have hnn := words_cmp
  go_enter Tryd.func13, Tryd.ntmps13
  go_wp2_with fail
  refine (row_ok 5 _ (by omega) (by omega)).mono ?_
  rintro e w1 ⟨rfl, hB1⟩
  rw [show bnd ((5 : Nat) : Int) = ⟨0, 0, 0, 1, 127⟩ from rfl]
  dsimp only [Bd.val]
  rw [World.size_alloc] at hB1
  have hsz : w.heap.size + 1 ≤ w1.heap.size := by have := hB1.size; simpa using this
  have hB1a := hB1.alloc hsz (.cells #[.int .u32 0, .int .u32 0, .int .u32 0, .int .u32 1, .int .u32 127] 61)
  obtain ⟨p0, p1, p2, p3, p4⟩ := five (by omega) hB1a
  have HB1 := Lib.hid hB1a
  have HB := Lib.hid (((Below.refl _ w).alloc (Nat.le_refl _) (.cells #[.int .u8 5, .int .u8 a, .int .u8 b, .int .u8 c, .int .u32 imm] 24)).trans (hB1a.mono (by omega)))
  clear hB1 hB1a
  go_wp2_with (first
    | (go_at_call 30; refine (over_calls _ _ _).mono ?_; rintro e w2 ⟨rfl, rfl⟩)
    | (go_at_call 23; refine (words_no 5 _ (by decide)).mono ?_; rintro e w2 ⟨rfl, rfl⟩))
  all_goals
    go_ret
    refine ⟨ret_int ?_, by exact HB.out⟩
    clear hnn HB1 HB p0 p1 p2 p3 p4
    simp only [chk, isOp, hasW, over, bnd]
    simp
    try simp only [beq_iff_eq, beq_eq_false_iff_ne, ne_eq] at *
    repeat' split
    all_goals omega

set_option maxRecDepth 100000 in
set_option maxHeartbeats 4000000 in
theorem Check_6 (a b c imm : Int) (w : World) (ha : 0 ≤ a ∧ a ≤ 255) (hb : 0 ≤ b ∧ b ≤ 255) (hc : 0 ≤ c ∧ c ≤ 255) (hi : 0 ≤ imm ∧ imm ≤ 4294967295) :
    Calls Tryd.prog 13 #[.agg #[.int .u8 6, .int .u8 a, .int .u8 b, .int .u8 c, .int .u32 imm]] w fun e w' => e = .returned (.int .i64 (chk ⟨6, a, b, c, imm⟩)) ∧ Below w.heap.size w w' := by
  obtain ⟨a0, a1⟩ := ha
  obtain ⟨b0, b1⟩ := hb
  obtain ⟨c0, c1⟩ := hc
  obtain ⟨i0, i1⟩ := hi
  have hnn := words_cmp
  go_enter Tryd.func13, Tryd.ntmps13
  go_wp2_with fail
  refine (row_ok 6 _ (by omega) (by omega)).mono ?_
  rintro e w1 ⟨rfl, hB1⟩
  rw [show bnd ((6 : Nat) : Int) = ⟨9, 9, 9, 1, 127⟩ from rfl]
  dsimp only [Bd.val]
  rw [World.size_alloc] at hB1
  have hsz : w.heap.size + 1 ≤ w1.heap.size := by have := hB1.size; simpa using this
  have hB1a := hB1.alloc hsz (.cells #[.int .u32 9, .int .u32 9, .int .u32 9, .int .u32 1, .int .u32 127] 61)
  obtain ⟨p0, p1, p2, p3, p4⟩ := five (by omega) hB1a
  have HB1 := Lib.hid hB1a
  have HB := Lib.hid (((Below.refl _ w).alloc (Nat.le_refl _) (.cells #[.int .u8 6, .int .u8 a, .int .u8 b, .int .u8 c, .int .u32 imm] 24)).trans (hB1a.mono (by omega)))
  clear hB1 hB1a
  go_wp2_with (first
    | (go_at_call 30; refine (over_calls _ _ _).mono ?_; rintro e w2 ⟨rfl, rfl⟩)
    | (go_at_call 23; refine (words_yes 6 _ (by omega)).mono ?_; rintro e w2 ⟨⟨ad, wn, wc, rfl⟩, hB2⟩; have hB3 := HB1.out.trans (hB2.mono (by simp; omega)); obtain ⟨d0, d1, d2, d3, d4⟩ := five (by omega) hB3; obtain ⟨e0, e1, e2, e3, e4⟩ := five (by simp) hB2; have HB2 := Lib.hid (HB.out.trans (hB2.mono (by simp; omega))); clear hB2 hB3))
  all_goals
    go_ret
    refine ⟨ret_int ?_, by first | exact HB2.out | exact HB.out⟩
    clear hnn HB1 HB p0 p1 p2 p3 p4
    simp only [chk, isOp, hasW, over, bnd]
    simp
    try simp only [beq_iff_eq, beq_eq_false_iff_ne, ne_eq] at *
    repeat' split
    all_goals omega

set_option maxRecDepth 100000 in
set_option maxHeartbeats 4000000 in
theorem Check_7 (a b c imm : Int) (w : World) (ha : 0 ≤ a ∧ a ≤ 255) (hb : 0 ≤ b ∧ b ≤ 255) (hc : 0 ≤ c ∧ c ≤ 255) (hi : 0 ≤ imm ∧ imm ≤ 4294967295) :
    Calls Tryd.prog 13 #[.agg #[.int .u8 7, .int .u8 a, .int .u8 b, .int .u8 c, .int .u32 imm]] w fun e w' => e = .returned (.int .i64 (chk ⟨7, a, b, c, imm⟩)) ∧ Below w.heap.size w w' := by
  obtain ⟨a0, a1⟩ := ha
  obtain ⟨b0, b1⟩ := hb
  obtain ⟨c0, c1⟩ := hc
  obtain ⟨i0, i1⟩ := hi
  have hnn := words_cmp
  go_enter Tryd.func13, Tryd.ntmps13
  go_wp2_with fail
  refine (row_ok 7 _ (by omega) (by omega)).mono ?_
  rintro e w1 ⟨rfl, hB1⟩
  rw [show bnd ((7 : Nat) : Int) = ⟨9, 255, 9, 1, 127⟩ from rfl]
  dsimp only [Bd.val]
  rw [World.size_alloc] at hB1
  have hsz : w.heap.size + 1 ≤ w1.heap.size := by have := hB1.size; simpa using this
  have hB1a := hB1.alloc hsz (.cells #[.int .u32 9, .int .u32 255, .int .u32 9, .int .u32 1, .int .u32 127] 61)
  obtain ⟨p0, p1, p2, p3, p4⟩ := five (by omega) hB1a
  have HB1 := Lib.hid hB1a
  have HB := Lib.hid (((Below.refl _ w).alloc (Nat.le_refl _) (.cells #[.int .u8 7, .int .u8 a, .int .u8 b, .int .u8 c, .int .u32 imm] 24)).trans (hB1a.mono (by omega)))
  clear hB1 hB1a
  go_wp2_with (first
    | (go_at_call 30; refine (over_calls _ _ _).mono ?_; rintro e w2 ⟨rfl, rfl⟩)
    | (go_at_call 23; refine (words_yes 7 _ (by omega)).mono ?_; rintro e w2 ⟨⟨ad, wn, wc, rfl⟩, hB2⟩; have hB3 := HB1.out.trans (hB2.mono (by simp; omega)); obtain ⟨d0, d1, d2, d3, d4⟩ := five (by omega) hB3; obtain ⟨e0, e1, e2, e3, e4⟩ := five (by simp) hB2; have HB2 := Lib.hid (HB.out.trans (hB2.mono (by simp; omega))); clear hB2 hB3))
  all_goals
    go_ret
    refine ⟨ret_int ?_, by first | exact HB2.out | exact HB.out⟩
    clear hnn HB1 HB p0 p1 p2 p3 p4
    simp only [chk, isOp, hasW, over, bnd]
    simp
    try simp only [beq_iff_eq, beq_eq_false_iff_ne, ne_eq] at *
    repeat' split
    all_goals omega

set_option maxRecDepth 100000 in
set_option maxHeartbeats 4000000 in
theorem Check_8 (a b c imm : Int) (w : World) (ha : 0 ≤ a ∧ a ≤ 255) (hb : 0 ≤ b ∧ b ≤ 255) (hc : 0 ≤ c ∧ c ≤ 255) (hi : 0 ≤ imm ∧ imm ≤ 4294967295) :
    Calls Tryd.prog 13 #[.agg #[.int .u8 8, .int .u8 a, .int .u8 b, .int .u8 c, .int .u32 imm]] w fun e w' => e = .returned (.int .i64 (chk ⟨8, a, b, c, imm⟩)) ∧ Below w.heap.size w w' := by
  obtain ⟨a0, a1⟩ := ha
  obtain ⟨b0, b1⟩ := hb
  obtain ⟨c0, c1⟩ := hc
  obtain ⟨i0, i1⟩ := hi
  have hnn := words_cmp
  go_enter Tryd.func13, Tryd.ntmps13
  go_wp2_with fail
  refine (row_ok 8 _ (by omega) (by omega)).mono ?_
  rintro e w1 ⟨rfl, hB1⟩
  rw [show bnd ((8 : Nat) : Int) = ⟨9, 0, 7, 0, 0⟩ from rfl]
  dsimp only [Bd.val]
  rw [World.size_alloc] at hB1
  have hsz : w.heap.size + 1 ≤ w1.heap.size := by have := hB1.size; simpa using this
  have hB1a := hB1.alloc hsz (.cells #[.int .u32 9, .int .u32 0, .int .u32 7, .int .u32 0, .int .u32 0] 61)
  obtain ⟨p0, p1, p2, p3, p4⟩ := five (by omega) hB1a
  have HB1 := Lib.hid hB1a
  have HB := Lib.hid (((Below.refl _ w).alloc (Nat.le_refl _) (.cells #[.int .u8 8, .int .u8 a, .int .u8 b, .int .u8 c, .int .u32 imm] 24)).trans (hB1a.mono (by omega)))
  clear hB1 hB1a
  go_wp2_with (first
    | (go_at_call 30; refine (over_calls _ _ _).mono ?_; rintro e w2 ⟨rfl, rfl⟩)
    | (go_at_call 23; refine (words_no 8 _ (by decide)).mono ?_; rintro e w2 ⟨rfl, rfl⟩))
  all_goals
    go_ret
    refine ⟨ret_int ?_, by exact HB.out⟩
    clear hnn HB1 HB p0 p1 p2 p3 p4
    simp only [chk, isOp, hasW, over, bnd]
    simp
    try simp only [beq_iff_eq, beq_eq_false_iff_ne, ne_eq] at *
    repeat' split
    all_goals omega

set_option maxRecDepth 100000 in
set_option maxHeartbeats 4000000 in
theorem Check_9 (a b c imm : Int) (w : World) (ha : 0 ≤ a ∧ a ≤ 255) (hb : 0 ≤ b ∧ b ≤ 255) (hc : 0 ≤ c ∧ c ≤ 255) (hi : 0 ≤ imm ∧ imm ≤ 4294967295) :
    Calls Tryd.prog 13 #[.agg #[.int .u8 9, .int .u8 a, .int .u8 b, .int .u8 c, .int .u32 imm]] w fun e w' => e = .returned (.int .i64 (chk ⟨9, a, b, c, imm⟩)) ∧ Below w.heap.size w w' := by
  obtain ⟨a0, a1⟩ := ha
  obtain ⟨b0, b1⟩ := hb
  obtain ⟨c0, c1⟩ := hc
  obtain ⟨i0, i1⟩ := hi
  have hnn := words_cmp
  go_enter Tryd.func13, Tryd.ntmps13
  go_wp2_with fail
  refine (row_ok 9 _ (by omega) (by omega)).mono ?_
  rintro e w1 ⟨rfl, hB1⟩
  rw [show bnd ((9 : Nat) : Int) = ⟨9, 0, 7, 0, 0⟩ from rfl]
  dsimp only [Bd.val]
  rw [World.size_alloc] at hB1
  have hsz : w.heap.size + 1 ≤ w1.heap.size := by have := hB1.size; simpa using this
  have hB1a := hB1.alloc hsz (.cells #[.int .u32 9, .int .u32 0, .int .u32 7, .int .u32 0, .int .u32 0] 61)
  obtain ⟨p0, p1, p2, p3, p4⟩ := five (by omega) hB1a
  have HB1 := Lib.hid hB1a
  have HB := Lib.hid (((Below.refl _ w).alloc (Nat.le_refl _) (.cells #[.int .u8 9, .int .u8 a, .int .u8 b, .int .u8 c, .int .u32 imm] 24)).trans (hB1a.mono (by omega)))
  clear hB1 hB1a
  go_wp2_with (first
    | (go_at_call 30; refine (over_calls _ _ _).mono ?_; rintro e w2 ⟨rfl, rfl⟩)
    | (go_at_call 23; refine (words_no 9 _ (by decide)).mono ?_; rintro e w2 ⟨rfl, rfl⟩))
  all_goals
    go_ret
    refine ⟨ret_int ?_, by exact HB.out⟩
    clear hnn HB1 HB p0 p1 p2 p3 p4
    simp only [chk, isOp, hasW, over, bnd]
    simp
    try simp only [beq_iff_eq, beq_eq_false_iff_ne, ne_eq] at *
    repeat' split
    all_goals omega
end Go.Proofs.YtlomgbackphmmaaDoor
