/- The reference of layer 06, as printed: Check of one instruction. -/
import Derived.Test.YtlomgbackphmmaaDoorPInsnReadsx4
import Derived.Test.YtlomgbackphmmaaDoorPInsnReadsx5
import Derived.Test.YtlomgbackphmmaaDoorInT
set_option linter.unusedVariables false
set_option linter.unusedSimpArgs false
namespace Go.Proofs.YtlomgbackphmmaaDoor.RefC
open Go.RowKit Go.Proofs.YtlomgbackphmmaaDoorW.PrintWords Go.Proofs.YtlomgbackphmmaaDoor.PInsnReads
open Go.Proofs.YtlomgbackphmmaaDoor (Ins z0 chk isOp bnd hasW over)

theorem w64 {x : Int} (h0 : -9223372036854775808 ≤ x) (h1 : x ≤ 9223372036854775807) : wrap64 x = x := by unfold wrap64; omega

theorem bind_ite' {c : Prop} [Decidable c] {α β : Type} (x y : Option α) (f : α → Option β) : (if c then x else y).bind f = if c then x.bind f else y.bind f := by split <;> rfl

set_option maxRecDepth 100000 in
theorem RC_1e (a b c imm : Int) : turnbuckleref06_Check.f 60 1 a b c imm = (((some (decide (a % 4294967296 ≤ 9))) : Option Bool).bind fun t => if t = true then (((some (decide (b % 4294967296 ≤ 9))) : Option Bool).bind fun t => if t = true then (if c % 4294967296 = 0 then (if imm = 0 then some 0 else some 1) else some 1) else some 4) else some 4) := by kernel_rfl
set_option maxHeartbeats 1000000 in
theorem RC_1 (a b c imm : Int) (ha : 0 ≤ a ∧ a ≤ 255) (hb : 0 ≤ b ∧ b ≤ 255) (hc : 0 ≤ c ∧ c ≤ 255) (hi : 0 ≤ imm ∧ imm ≤ 4294967295) : turnbuckleref06_Check.f 60 1 a b c imm = some (chk ⟨1, a, b, c, imm⟩) := by
  rw [RC_1e]
  simp only [Int.emod_eq_of_lt ha.1 (show a < 4294967296 by omega), Int.emod_eq_of_lt hb.1 (show b < 4294967296 by omega), Int.emod_eq_of_lt hc.1 (show c < 4294967296 by omega), w64 (x := c) (by omega) (by omega)]
  simp only [chk, isOp, bnd, hasW, over, Option.bind_some, bind_ite', decide_eq_true_eq, Bool.or_eq_true, Bool.and_eq_true, beq_iff_eq]
  simp
  repeat' split
  all_goals first | rfl | omega | (simp; omega) | (simp_all; omega) | simp_all

set_option maxRecDepth 100000 in
theorem RC_2e (a b c imm : Int) : turnbuckleref06_Check.f 60 2 a b c imm = (((some (decide (a % 4294967296 ≤ 9))) : Option Bool).bind fun t => if t = true then (((some true) : Option Bool).bind fun t => if t = true then (if b % 4294967296 = 0 then (if c % 4294967296 = 0 then some 0 else some 1) else some 1) else some 4) else some 4) := by kernel_rfl
set_option maxHeartbeats 1000000 in
theorem RC_2 (a b c imm : Int) (ha : 0 ≤ a ∧ a ≤ 255) (hb : 0 ≤ b ∧ b ≤ 255) (hc : 0 ≤ c ∧ c ≤ 255) (hi : 0 ≤ imm ∧ imm ≤ 4294967295) : turnbuckleref06_Check.f 60 2 a b c imm = some (chk ⟨2, a, b, c, imm⟩) := by
  rw [RC_2e]
  simp only [Int.emod_eq_of_lt ha.1 (show a < 4294967296 by omega), Int.emod_eq_of_lt hb.1 (show b < 4294967296 by omega), Int.emod_eq_of_lt hc.1 (show c < 4294967296 by omega), w64 (x := c) (by omega) (by omega)]
  simp only [chk, isOp, bnd, hasW, over, Option.bind_some, bind_ite', decide_eq_true_eq, Bool.or_eq_true, Bool.and_eq_true, beq_iff_eq]
  simp
  repeat' split
  all_goals first | rfl | omega | (simp; omega) | (simp_all; omega) | simp_all

set_option maxRecDepth 100000 in
theorem RC_3e (a b c imm : Int) : turnbuckleref06_Check.f 60 3 a b c imm = (((some (decide (a % 4294967296 ≤ 9))) : Option Bool).bind fun t => if t = true then (((some (decide (b % 4294967296 ≤ 9))) : Option Bool).bind fun t => if t = true then (((if c % 4294967296 ≥ 1 then some (decide (wrap64 (c % 4294967296) ≤ 11)) else some false) : Option Bool).bind fun t => if t = true then (if imm = 0 then some 0 else some 1) else some 4) else some 4) else some 4) := by kernel_rfl
set_option maxHeartbeats 1000000 in
theorem RC_3 (a b c imm : Int) (ha : 0 ≤ a ∧ a ≤ 255) (hb : 0 ≤ b ∧ b ≤ 255) (hc : 0 ≤ c ∧ c ≤ 255) (hi : 0 ≤ imm ∧ imm ≤ 4294967295) : turnbuckleref06_Check.f 60 3 a b c imm = some (chk ⟨3, a, b, c, imm⟩) := by
  rw [RC_3e]
  simp only [Int.emod_eq_of_lt ha.1 (show a < 4294967296 by omega), Int.emod_eq_of_lt hb.1 (show b < 4294967296 by omega), Int.emod_eq_of_lt hc.1 (show c < 4294967296 by omega), w64 (x := c) (by omega) (by omega)]
  simp only [chk, isOp, bnd, hasW, over, Option.bind_some, bind_ite', decide_eq_true_eq, Bool.or_eq_true, Bool.and_eq_true, beq_iff_eq]
  simp
  repeat' split
  all_goals first | rfl | omega | (simp; omega) | (simp_all; omega) | simp_all

set_option maxRecDepth 100000 in
theorem RC_4e (a b c imm : Int) : turnbuckleref06_Check.f 60 4 a b c imm = (((some (decide (a % 4294967296 ≤ 9))) : Option Bool).bind fun t => if t = true then (((some true) : Option Bool).bind fun t => if t = true then (((if c % 4294967296 ≥ 1 then some (decide (wrap64 (c % 4294967296) ≤ 11)) else some false) : Option Bool).bind fun t => if t = true then (if b % 4294967296 = 0 then some 0 else some 1) else some 4) else some 4) else some 4) := by kernel_rfl
set_option maxHeartbeats 1000000 in
theorem RC_4 (a b c imm : Int) (ha : 0 ≤ a ∧ a ≤ 255) (hb : 0 ≤ b ∧ b ≤ 255) (hc : 0 ≤ c ∧ c ≤ 255) (hi : 0 ≤ imm ∧ imm ≤ 4294967295) : turnbuckleref06_Check.f 60 4 a b c imm = some (chk ⟨4, a, b, c, imm⟩) := by
  rw [RC_4e]
  simp only [Int.emod_eq_of_lt ha.1 (show a < 4294967296 by omega), Int.emod_eq_of_lt hb.1 (show b < 4294967296 by omega), Int.emod_eq_of_lt hc.1 (show c < 4294967296 by omega), w64 (x := c) (by omega) (by omega)]
  simp only [chk, isOp, bnd, hasW, over, Option.bind_some, bind_ite', decide_eq_true_eq, Bool.or_eq_true, Bool.and_eq_true, beq_iff_eq]
  simp
  repeat' split
  all_goals first | rfl | omega | (simp; omega) | (simp_all; omega) | simp_all

set_option maxRecDepth 100000 in
theorem RC_5e (a b c imm : Int) : turnbuckleref06_Check.f 60 5 a b c imm = (((if imm ≥ 1 then some (decide (imm ≤ 127)) else some false) : Option Bool).bind fun t => if t = true then (if a % 4294967296 = 0 then (if b % 4294967296 = 0 then (if c % 4294967296 = 0 then some 0 else some 1) else some 1) else some 1) else some 4) := by kernel_rfl
set_option maxHeartbeats 1000000 in
theorem RC_5 (a b c imm : Int) (ha : 0 ≤ a ∧ a ≤ 255) (hb : 0 ≤ b ∧ b ≤ 255) (hc : 0 ≤ c ∧ c ≤ 255) (hi : 0 ≤ imm ∧ imm ≤ 4294967295) : turnbuckleref06_Check.f 60 5 a b c imm = some (chk ⟨5, a, b, c, imm⟩) := by
  rw [RC_5e]
  simp only [Int.emod_eq_of_lt ha.1 (show a < 4294967296 by omega), Int.emod_eq_of_lt hb.1 (show b < 4294967296 by omega), Int.emod_eq_of_lt hc.1 (show c < 4294967296 by omega), w64 (x := c) (by omega) (by omega)]
  simp only [chk, isOp, bnd, hasW, over, Option.bind_some, bind_ite', decide_eq_true_eq, Bool.or_eq_true, Bool.and_eq_true, beq_iff_eq]
  simp
  repeat' split
  all_goals first | rfl | omega | (simp; omega) | (simp_all; omega) | simp_all

set_option maxRecDepth 100000 in
theorem RC_6e (a b c imm : Int) : turnbuckleref06_Check.f 60 6 a b c imm = (((some (decide (a % 4294967296 ≤ 9))) : Option Bool).bind fun t => if t = true then (((some (decide (b % 4294967296 ≤ 9))) : Option Bool).bind fun t => if t = true then (((if imm ≥ 1 then some (decide (imm ≤ 127)) else some false) : Option Bool).bind fun t => if t = true then (((if c % 4294967296 ≥ 1 then some (decide (wrap64 (c % 4294967296) ≤ 9)) else some false) : Option Bool).bind fun t => if t = true then some 0 else some 4) else some 4) else some 4) else some 4) := by kernel_rfl
set_option maxHeartbeats 1000000 in
theorem RC_6 (a b c imm : Int) (ha : 0 ≤ a ∧ a ≤ 255) (hb : 0 ≤ b ∧ b ≤ 255) (hc : 0 ≤ c ∧ c ≤ 255) (hi : 0 ≤ imm ∧ imm ≤ 4294967295) : turnbuckleref06_Check.f 60 6 a b c imm = some (chk ⟨6, a, b, c, imm⟩) := by
  rw [RC_6e]
  simp only [Int.emod_eq_of_lt ha.1 (show a < 4294967296 by omega), Int.emod_eq_of_lt hb.1 (show b < 4294967296 by omega), Int.emod_eq_of_lt hc.1 (show c < 4294967296 by omega), w64 (x := c) (by omega) (by omega)]
  simp only [chk, isOp, bnd, hasW, over, Option.bind_some, bind_ite', decide_eq_true_eq, Bool.or_eq_true, Bool.and_eq_true, beq_iff_eq]
  simp
  repeat' split
  all_goals first | rfl | omega | (simp; omega) | (simp_all; omega) | simp_all

set_option maxRecDepth 100000 in
theorem RC_7e (a b c imm : Int) : turnbuckleref06_Check.f 60 7 a b c imm = (((some (decide (a % 4294967296 ≤ 9))) : Option Bool).bind fun t => if t = true then (((some true) : Option Bool).bind fun t => if t = true then (((if imm ≥ 1 then some (decide (imm ≤ 127)) else some false) : Option Bool).bind fun t => if t = true then (((if c % 4294967296 ≥ 1 then some (decide (wrap64 (c % 4294967296) ≤ 9)) else some false) : Option Bool).bind fun t => if t = true then some 0 else some 4) else some 4) else some 4) else some 4) := by kernel_rfl
set_option maxHeartbeats 1000000 in
theorem RC_7 (a b c imm : Int) (ha : 0 ≤ a ∧ a ≤ 255) (hb : 0 ≤ b ∧ b ≤ 255) (hc : 0 ≤ c ∧ c ≤ 255) (hi : 0 ≤ imm ∧ imm ≤ 4294967295) : turnbuckleref06_Check.f 60 7 a b c imm = some (chk ⟨7, a, b, c, imm⟩) := by
  rw [RC_7e]
  simp only [Int.emod_eq_of_lt ha.1 (show a < 4294967296 by omega), Int.emod_eq_of_lt hb.1 (show b < 4294967296 by omega), Int.emod_eq_of_lt hc.1 (show c < 4294967296 by omega), w64 (x := c) (by omega) (by omega)]
  simp only [chk, isOp, bnd, hasW, over, Option.bind_some, bind_ite', decide_eq_true_eq, Bool.or_eq_true, Bool.and_eq_true, beq_iff_eq]
  simp
  repeat' split
  all_goals first | rfl | omega | (simp; omega) | (simp_all; omega) | simp_all

set_option maxRecDepth 100000 in
theorem RC_8e (a b c imm : Int) : turnbuckleref06_Check.f 60 8 a b c imm = (((some (decide (c % 4294967296 ≤ 7))) : Option Bool).bind fun t => if t = true then (((some (decide (a % 4294967296 ≤ 9))) : Option Bool).bind fun t => if t = true then (if b % 4294967296 = 0 then (if imm = 0 then some 0 else some 1) else some 1) else some 4) else some 4) := by kernel_rfl
set_option maxHeartbeats 1000000 in
theorem RC_8 (a b c imm : Int) (ha : 0 ≤ a ∧ a ≤ 255) (hb : 0 ≤ b ∧ b ≤ 255) (hc : 0 ≤ c ∧ c ≤ 255) (hi : 0 ≤ imm ∧ imm ≤ 4294967295) : turnbuckleref06_Check.f 60 8 a b c imm = some (chk ⟨8, a, b, c, imm⟩) := by
  rw [RC_8e]
  simp only [Int.emod_eq_of_lt ha.1 (show a < 4294967296 by omega), Int.emod_eq_of_lt hb.1 (show b < 4294967296 by omega), Int.emod_eq_of_lt hc.1 (show c < 4294967296 by omega), w64 (x := c) (by omega) (by omega)]
  simp only [chk, isOp, bnd, hasW, over, Option.bind_some, bind_ite', decide_eq_true_eq, Bool.or_eq_true, Bool.and_eq_true, beq_iff_eq]
  simp
  repeat' split
  all_goals first | rfl | omega | (simp; omega) | (simp_all; omega) | simp_all

set_option maxRecDepth 100000 in
theorem RC_9e (a b c imm : Int) : turnbuckleref06_Check.f 60 9 a b c imm = (((some (decide (a % 4294967296 ≤ 9))) : Option Bool).bind fun t => if t = true then (((some (decide (c % 4294967296 ≤ 7))) : Option Bool).bind fun t => if t = true then (if b % 4294967296 = 0 then (if imm = 0 then some 0 else some 1) else some 1) else some 4) else some 4) := by kernel_rfl
set_option maxHeartbeats 1000000 in
theorem RC_9 (a b c imm : Int) (ha : 0 ≤ a ∧ a ≤ 255) (hb : 0 ≤ b ∧ b ≤ 255) (hc : 0 ≤ c ∧ c ≤ 255) (hi : 0 ≤ imm ∧ imm ≤ 4294967295) : turnbuckleref06_Check.f 60 9 a b c imm = some (chk ⟨9, a, b, c, imm⟩) := by
  rw [RC_9e]
  simp only [Int.emod_eq_of_lt ha.1 (show a < 4294967296 by omega), Int.emod_eq_of_lt hb.1 (show b < 4294967296 by omega), Int.emod_eq_of_lt hc.1 (show c < 4294967296 by omega), w64 (x := c) (by omega) (by omega)]
  simp only [chk, isOp, bnd, hasW, over, Option.bind_some, bind_ite', decide_eq_true_eq, Bool.or_eq_true, Bool.and_eq_true, beq_iff_eq]
  simp
  repeat' split
  all_goals first | rfl | omega | (simp; omega) | (simp_all; omega) | simp_all

set_option maxRecDepth 100000 in
theorem RC_10e (a b c imm : Int) : turnbuckleref06_Check.f 60 10 a b c imm = (((some (decide (a % 4294967296 ≤ 9))) : Option Bool).bind fun t => if t = true then (((some (decide (b % 4294967296 ≤ 9))) : Option Bool).bind fun t => if t = true then (((some (decide (c % 4294967296 ≤ 11))) : Option Bool).bind fun t => if t = true then (((some true) : Option Bool).bind fun t => if t = true then some 0 else some 4) else some 4) else some 4) else some 4) := by kernel_rfl
set_option maxHeartbeats 1000000 in
theorem RC_10 (a b c imm : Int) (ha : 0 ≤ a ∧ a ≤ 255) (hb : 0 ≤ b ∧ b ≤ 255) (hc : 0 ≤ c ∧ c ≤ 255) (hi : 0 ≤ imm ∧ imm ≤ 4294967295) : turnbuckleref06_Check.f 60 10 a b c imm = some (chk ⟨10, a, b, c, imm⟩) := by
  rw [RC_10e]
  simp only [Int.emod_eq_of_lt ha.1 (show a < 4294967296 by omega), Int.emod_eq_of_lt hb.1 (show b < 4294967296 by omega), Int.emod_eq_of_lt hc.1 (show c < 4294967296 by omega), w64 (x := c) (by omega) (by omega)]
  simp only [chk, isOp, bnd, hasW, over, Option.bind_some, bind_ite', decide_eq_true_eq, Bool.or_eq_true, Bool.and_eq_true, beq_iff_eq]
  simp
  repeat' split
  all_goals first | rfl | omega | (simp; omega) | (simp_all; omega) | simp_all

set_option maxRecDepth 100000 in
theorem RC_11e (a b c imm : Int) : turnbuckleref06_Check.f 60 11 a b c imm = (((some (decide (a % 4294967296 ≤ 9))) : Option Bool).bind fun t => if t = true then (((some (decide (b % 4294967296 ≤ 9))) : Option Bool).bind fun t => if t = true then (((some (decide (c % 4294967296 ≤ 11))) : Option Bool).bind fun t => if t = true then (((some (decide (imm ≤ 9))) : Option Bool).bind fun t => if t = true then some 0 else some 4) else some 4) else some 4) else some 4) := by kernel_rfl
set_option maxHeartbeats 1000000 in
theorem RC_11 (a b c imm : Int) (ha : 0 ≤ a ∧ a ≤ 255) (hb : 0 ≤ b ∧ b ≤ 255) (hc : 0 ≤ c ∧ c ≤ 255) (hi : 0 ≤ imm ∧ imm ≤ 4294967295) : turnbuckleref06_Check.f 60 11 a b c imm = some (chk ⟨11, a, b, c, imm⟩) := by
  rw [RC_11e]
  simp only [Int.emod_eq_of_lt ha.1 (show a < 4294967296 by omega), Int.emod_eq_of_lt hb.1 (show b < 4294967296 by omega), Int.emod_eq_of_lt hc.1 (show c < 4294967296 by omega), w64 (x := c) (by omega) (by omega)]
  simp only [chk, isOp, bnd, hasW, over, Option.bind_some, bind_ite', decide_eq_true_eq, Bool.or_eq_true, Bool.and_eq_true, beq_iff_eq]
  simp
  repeat' split
  all_goals first | rfl | omega | (simp; omega) | (simp_all; omega) | simp_all

set_option maxRecDepth 100000 in
theorem RC_12e (a b c imm : Int) : turnbuckleref06_Check.f 60 12 a b c imm = (((some (decide (b % 4294967296 ≤ 9))) : Option Bool).bind fun t => if t = true then (((some (decide (c % 4294967296 ≤ 11))) : Option Bool).bind fun t => if t = true then (((some true) : Option Bool).bind fun t => if t = true then (((some (decide (a % 4294967296 ≤ 9))) : Option Bool).bind fun t => if t = true then some 0 else some 4) else some 4) else some 4) else some 4) := by kernel_rfl
set_option maxHeartbeats 1000000 in
theorem RC_12 (a b c imm : Int) (ha : 0 ≤ a ∧ a ≤ 255) (hb : 0 ≤ b ∧ b ≤ 255) (hc : 0 ≤ c ∧ c ≤ 255) (hi : 0 ≤ imm ∧ imm ≤ 4294967295) : turnbuckleref06_Check.f 60 12 a b c imm = some (chk ⟨12, a, b, c, imm⟩) := by
  rw [RC_12e]
  simp only [Int.emod_eq_of_lt ha.1 (show a < 4294967296 by omega), Int.emod_eq_of_lt hb.1 (show b < 4294967296 by omega), Int.emod_eq_of_lt hc.1 (show c < 4294967296 by omega), w64 (x := c) (by omega) (by omega)]
  simp only [chk, isOp, bnd, hasW, over, Option.bind_some, bind_ite', decide_eq_true_eq, Bool.or_eq_true, Bool.and_eq_true, beq_iff_eq]
  simp
  repeat' split
  all_goals first | rfl | omega | (simp; omega) | (simp_all; omega) | simp_all

set_option maxRecDepth 100000 in
theorem RC_13e (a b c imm : Int) : turnbuckleref06_Check.f 60 13 a b c imm = (((some (decide (b % 4294967296 ≤ 9))) : Option Bool).bind fun t => if t = true then (((some (decide (c % 4294967296 ≤ 11))) : Option Bool).bind fun t => if t = true then (((some (decide (imm ≤ 9))) : Option Bool).bind fun t => if t = true then (((some (decide (a % 4294967296 ≤ 9))) : Option Bool).bind fun t => if t = true then some 0 else some 4) else some 4) else some 4) else some 4) := by kernel_rfl
set_option maxHeartbeats 1000000 in
theorem RC_13 (a b c imm : Int) (ha : 0 ≤ a ∧ a ≤ 255) (hb : 0 ≤ b ∧ b ≤ 255) (hc : 0 ≤ c ∧ c ≤ 255) (hi : 0 ≤ imm ∧ imm ≤ 4294967295) : turnbuckleref06_Check.f 60 13 a b c imm = some (chk ⟨13, a, b, c, imm⟩) := by
  rw [RC_13e]
  simp only [Int.emod_eq_of_lt ha.1 (show a < 4294967296 by omega), Int.emod_eq_of_lt hb.1 (show b < 4294967296 by omega), Int.emod_eq_of_lt hc.1 (show c < 4294967296 by omega), w64 (x := c) (by omega) (by omega)]
  simp only [chk, isOp, bnd, hasW, over, Option.bind_some, bind_ite', decide_eq_true_eq, Bool.or_eq_true, Bool.and_eq_true, beq_iff_eq]
  simp
  repeat' split
  all_goals first | rfl | omega | (simp; omega) | (simp_all; omega) | simp_all

set_option maxRecDepth 100000 in
theorem RC_14e (a b c imm : Int) : turnbuckleref06_Check.f 60 14 a b c imm = (((if c % 4294967296 ≥ 1 then some (decide (wrap64 (c % 4294967296) ≤ 22)) else some false) : Option Bool).bind fun t => if t = true then (((some true) : Option Bool).bind fun t => if t = true then (if a % 4294967296 = 0 then (if b % 4294967296 = 0 then some 0 else some 1) else some 1) else some 4) else some 4) := by kernel_rfl
set_option maxHeartbeats 1000000 in
theorem RC_14 (a b c imm : Int) (ha : 0 ≤ a ∧ a ≤ 255) (hb : 0 ≤ b ∧ b ≤ 255) (hc : 0 ≤ c ∧ c ≤ 255) (hi : 0 ≤ imm ∧ imm ≤ 4294967295) : turnbuckleref06_Check.f 60 14 a b c imm = some (chk ⟨14, a, b, c, imm⟩) := by
  rw [RC_14e]
  simp only [Int.emod_eq_of_lt ha.1 (show a < 4294967296 by omega), Int.emod_eq_of_lt hb.1 (show b < 4294967296 by omega), Int.emod_eq_of_lt hc.1 (show c < 4294967296 by omega), w64 (x := c) (by omega) (by omega)]
  simp only [chk, isOp, bnd, hasW, over, Option.bind_some, bind_ite', decide_eq_true_eq, Bool.or_eq_true, Bool.and_eq_true, beq_iff_eq]
  simp
  repeat' split
  all_goals first | rfl | omega | (simp; omega) | (simp_all; omega) | simp_all

set_option maxRecDepth 100000 in
theorem RC_15e (a b c imm : Int) : turnbuckleref06_Check.f 60 15 a b c imm = (if a % 4294967296 = 0 then (if b % 4294967296 = 0 then (if c % 4294967296 = 0 then (if imm = 0 then some 0 else some 1) else some 1) else some 1) else some 1) := by kernel_rfl
set_option maxHeartbeats 1000000 in
theorem RC_15 (a b c imm : Int) (ha : 0 ≤ a ∧ a ≤ 255) (hb : 0 ≤ b ∧ b ≤ 255) (hc : 0 ≤ c ∧ c ≤ 255) (hi : 0 ≤ imm ∧ imm ≤ 4294967295) : turnbuckleref06_Check.f 60 15 a b c imm = some (chk ⟨15, a, b, c, imm⟩) := by
  rw [RC_15e]
  simp only [Int.emod_eq_of_lt ha.1 (show a < 4294967296 by omega), Int.emod_eq_of_lt hb.1 (show b < 4294967296 by omega), Int.emod_eq_of_lt hc.1 (show c < 4294967296 by omega), w64 (x := c) (by omega) (by omega)]
  simp only [chk, isOp, bnd, hasW, over, Option.bind_some, bind_ite', decide_eq_true_eq, Bool.or_eq_true, Bool.and_eq_true, beq_iff_eq]
  simp
  repeat' split
  all_goals first | rfl | omega | (simp; omega) | (simp_all; omega) | simp_all
theorem RC_bad (op a b c imm : Int) (h0 : 0 ≤ op ∧ op ≤ 255) (h : op < 1 ∨ 15 < op) : turnbuckleref06_Check.f 60 op a b c imm = some (chk ⟨op, a, b, c, imm⟩) := by
  have hc : chk ⟨op, a, b, c, imm⟩ = 3 := by
    unfold chk
    rw [if_neg]
    simp only [isOp, Bool.and_eq_true, decide_eq_true_eq]
    omega
  rw [hc]
  unfold turnbuckleref06_Check.f
  rw [w64 (by omega) (by omega)]
  by_cases h1 : op < 1
  · rw [if_pos h1]
    simp [turnbuckleref06_Check.j0]
  · rw [if_neg h1]
    have h2 : op > 15 := by omega
    simp [turnbuckleref06_Check.j0, h2]
theorem RC (x : Ins) (hx : x.Ok) : turnbuckleref06_Check.f 60 x.op x.a x.b x.c x.imm = some (chk x) := by
  obtain ⟨op, a, b, c, imm⟩ := x
  obtain ⟨h0, h1, h2, h3, h4⟩ := hx
  dsimp only at h0 h1 h2 h3 h4 ⊢
  by_cases h : op < 1 ∨ 15 < op
  · exact RC_bad op a b c imm h0 h
  · have : op = 1 ∨ op = 2 ∨ op = 3 ∨ op = 4 ∨ op = 5 ∨ op = 6 ∨ op = 7 ∨ op = 8 ∨ op = 9 ∨ op = 10 ∨ op = 11 ∨ op = 12 ∨ op = 13 ∨ op = 14 ∨ op = 15 := by omega
    rcases this with rfl | rfl | rfl | rfl | rfl | rfl | rfl | rfl | rfl | rfl | rfl | rfl | rfl | rfl | rfl
    · exact RC_1 a b c imm h1 h2 h3 h4
    · exact RC_2 a b c imm h1 h2 h3 h4
    · exact RC_3 a b c imm h1 h2 h3 h4
    · exact RC_4 a b c imm h1 h2 h3 h4
    · exact RC_5 a b c imm h1 h2 h3 h4
    · exact RC_6 a b c imm h1 h2 h3 h4
    · exact RC_7 a b c imm h1 h2 h3 h4
    · exact RC_8 a b c imm h1 h2 h3 h4
    · exact RC_9 a b c imm h1 h2 h3 h4
    · exact RC_10 a b c imm h1 h2 h3 h4
    · exact RC_11 a b c imm h1 h2 h3 h4
    · exact RC_12 a b c imm h1 h2 h3 h4
    · exact RC_13 a b c imm h1 h2 h3 h4
    · exact RC_14 a b c imm h1 h2 h3 h4
    · exact RC_15 a b c imm h1 h2 h3 h4
/-- The reference's Check answers what insn.Check does. -/
theorem RCheck (x : Ins) (hx : x.Ok) (w : World) : Calls Tryd.prog 14 #[.agg x.cells] w fun e w' => e = .returned (.int .i64 (chk x)) ∧ Below w.heap.size w w' :=
  turnbuckleref06_Check.calls 60 x.op x.a x.b x.c x.imm (chk x) w (RC x hx)
end Go.Proofs.YtlomgbackphmmaaDoor.RefC
