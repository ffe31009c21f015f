/- The reference of layer 16, as printed: Check of one instruction. -/
import Derived.Test.YtaomlfnffnapmaaPFlowChecksx4
import Derived.Test.YtaomlfnffnapmaaFlS
import Derived.Test.YtaomlfnffnapmaaFlW
set_option linter.unusedVariables false
set_option linter.unusedSimpArgs false
namespace Go.Proofs.Ytaomlfnffnapmaa.RefC
open Go.RowKit Go.Proofs.YtaomlfnffnapmaaW.PrintWords Go.Proofs.Ytaomlfnffnapmaa.PFlowChecks
open Go.Proofs.Ytaomlfnffnapmaa (Ins z0 Pr chk isOp bnd hasW over)

theorem w64 {x : Int} (h0 : -9223372036854775808 ≤ x) (h1 : x ≤ 9223372036854775807) : wrap64 x = x := by unfold wrap64; omega

theorem bind_ite' {c : Prop} [Decidable c] {α β : Type} (x y : Option α) (f : α → Option β) : (if c then x else y).bind f = if c then x.bind f else y.bind f := by split <;> rfl

set_option maxRecDepth 100000 in
theorem RC_1e (a b c imm : Int) : turnbuckleref06_Check.f 60 1 a b c imm = (((some (decide (a % 4294967296 ≤ 9))) : Option Bool).bind fun t => if t = true then (((some (decide (b % 4294967296 ≤ 9))) : Option Bool).bind fun t => if t = true then (if c % 4294967296 = 0 then (if imm = 0 then some 0 else some 1) else some 1) else some 4) else some 4) := by kernel_rfl
set_option maxHeartbeats 1000000 in
theorem RC_1 (a b c imm : Int) (ha : 0 ≤ a ∧ a ≤ 255) (hb : 0 ≤ b ∧ b ≤ 255) (hc : 0 ≤ c ∧ c ≤ 255) (hi : 0 ≤ imm ∧ imm ≤ 4294967295) : turnbuckleref06_Check.f 60 1 a b c imm = some (chk ⟨1, a, b, c, imm⟩) := by
  rw [RC_1e]
  simp only [Int.emod_eq_of_lt ha.1 (show a < 4294967296 by omega), Int.emod_eq_of_lt hb.1 (show b < 4294967296 by omega), Int.emod_eq_of_lt hc.1 (show c < 4294967296 by omega), w64 (x := c) (by omega) (by omega)]
  simp only [chk, isOp, bnd, hasW, over, Option.bind_some, bind_ite', decide_eq_true_eq, Bool.or_eq_true, Bool.and_eq_true, beq_iff_eq]
  simp
  repeat' split
  all_goals first | rfl | omega | (simp; omega) | (simp_all; omega) | simp_all

set_option maxRecDepth 100000 in
theorem RC_2e (a b c imm : Int) : turnbuckleref06_Check.f 60 2 a b c imm = (((some (decide (a % 4294967296 ≤ 9))) : Option Bool).bind fun t => if t = true then (((some true) : Option Bool).bind fun t => if t = true then (if b % 4294967296 = 0 then (if c % 4294967296 = 0 then some 0 else some 1) else some 1) else some 4) else some 4) := by kernel_rfl
set_option maxHeartbeats 1000000 in
theorem RC_2 (a b c imm : Int) (ha : 0 ≤ a ∧ a ≤ 255) (hb : 0 ≤ b ∧ b ≤ 255) (hc : 0 ≤ c ∧ c ≤ 255) (hi : 0 ≤ imm ∧ imm ≤ 4294967295) : turnbuckleref06_Check.f 60 2 a b c imm = some (chk ⟨2, a, b, c, imm⟩) := by
  rw [RC_2e]
  simp only [Int.emod_eq_of_lt ha.1 (show a < 4294967296 by omega), Int.emod_eq_of_lt hb.1 (show b < 4294967296 by omega), Int.emod_eq_of_lt hc.1 (show c < 4294967296 by omega), w64 (x := c) (by omega) (by omega)]
  simp only [chk, isOp, bnd, hasW, over, Option.bind_some, bind_ite', decide_eq_true_eq, Bool.or_eq_true, Bool.and_eq_true, beq_iff_eq]
  simp
  repeat' split
  all_goals first | rfl | omega | (simp; omega) | (simp_all; omega) | simp_all

set_option maxRecDepth 100000 in
theorem RC_3e (a b c imm : Int) : turnbuckleref06_Check.f 60 3 a b c imm = (((some (decide (a % 4294967296 ≤ 9))) : Option Bool).bind fun t => if t = true then (((some (decide (b % 4294967296 ≤ 9))) : Option Bool).bind fun t => if t = true then (((if c % 4294967296 ≥ 1 then some (decide (wrap64 (c % 4294967296) ≤ 11)) else some false) : Option Bool).bind fun t => if t = true then (if imm = 0 then some 0 else some 1) else some 4) else some 4) else some 4) := by kernel_rfl
set_option maxHeartbeats 1000000 in
theorem RC_3 (a b c imm : Int) (ha : 0 ≤ a ∧ a ≤ 255) (hb : 0 ≤ b ∧ b ≤ 255) (hc : 0 ≤ c ∧ c ≤ 255) (hi : 0 ≤ imm ∧ imm ≤ 4294967295) : turnbuckleref06_Check.f 60 3 a b c imm = some (chk ⟨3, a, b, c, imm⟩) := by
  rw [RC_3e]
  simp only [Int.emod_eq_of_lt ha.1 (show a < 4294967296 by omega), Int.emod_eq_of_lt hb.1 (show b < 4294967296 by omega), Int.emod_eq_of_lt hc.1 (show c < 4294967296 by omega), w64 (x := c) (by omega) (by omega)]
  simp only [chk, isOp, bnd, hasW, over, Option.bind_some, bind_ite', decide_eq_true_eq, Bool.or_eq_true, Bool.and_eq_true, beq_iff_eq]
  simp
  repeat' split
  all_goals first | rfl | omega | (simp; omega) | (simp_all; omega) | simp_all

set_option maxRecDepth 100000 in
theorem RC_4e (a b c imm : Int) : turnbuckleref06_Check.f 60 4 a b c imm = (((some (decide (a % 4294967296 ≤ 9))) : Option Bool).bind fun t => if t = true then (((some true) : Option Bool).bind fun t => if t = true then (((if c % 4294967296 ≥ 1 then some (decide (wrap64 (c % 4294967296) ≤ 11)) else some false) : Option Bool).bind fun t => if t = true then (if b % 4294967296 = 0 then some 0 else some 1) else some 4) else some 4) else some 4) := by kernel_rfl
set_option maxHeartbeats 1000000 in
theorem RC_4 (a b c imm : Int) (ha : 0 ≤ a ∧ a ≤ 255) (hb : 0 ≤ b ∧ b ≤ 255) (hc : 0 ≤ c ∧ c ≤ 255) (hi : 0 ≤ imm ∧ imm ≤ 4294967295) : turnbuckleref06_Check.f 60 4 a b c imm = some (chk ⟨4, a, b, c, imm⟩) := by
  rw [RC_4e]
  simp only [Int.emod_eq_of_lt ha.1 (show a < 4294967296 by omega), Int.emod_eq_of_lt hb.1 (show b < 4294967296 by omega), Int.emod_eq_of_lt hc.1 (show c < 4294967296 by omega), w64 (x := c) (by omega) (by omega)]
  simp only [chk, isOp, bnd, hasW, over, Option.bind_some, bind_ite', decide_eq_true_eq, Bool.or_eq_true, Bool.and_eq_true, beq_iff_eq]
  simp
  repeat' split
  all_goals first | rfl | omega | (simp; omega) | (simp_all; omega) | simp_all

set_option maxRecDepth 100000 in
theorem RC_5e (a b c imm : Int) : turnbuckleref06_Check.f 60 5 a b c imm = (((if imm ≥ 1 then some (decide (imm ≤ 127)) else some false) : Option Bool).bind fun t => if t = true then (if a % 4294967296 = 0 then (if b % 4294967296 = 0 then (if c % 4294967296 = 0 then some 0 else some 1) else some 1) else some 1) else some 4) := by kernel_rfl
set_option maxHeartbeats 1000000 in
theorem RC_5 (a b c imm : Int) (ha : 0 ≤ a ∧ a ≤ 255) (hb : 0 ≤ b ∧ b ≤ 255) (hc : 0 ≤ c ∧ c ≤ 255) (hi : 0 ≤ imm ∧ imm ≤ 4294967295) : turnbuckleref06_Check.f 60 5 a b c imm = some (chk ⟨5, a, b, c, imm⟩) := by
  rw [RC_5e]
  simp only [Int.emod_eq_of_lt ha.1 (show a < 4294967296 by omega), Int.emod_eq_of_lt hb.1 (show b < 4294967296 by omega), Int.emod_eq_of_lt hc.1 (show c < 4294967296 by omega), w64 (x := c) (by omega) (by omega)]
  simp only [chk, isOp, bnd, hasW, over, Option.bind_some, bind_ite', decide_eq_true_eq, Bool.or_eq_true, Bool.and_eq_true, beq_iff_eq]
  simp
  repeat' split
  all_goals first | rfl | omega | (simp; omega) | (simp_all; omega) | simp_all

set_option maxRecDepth 100000 in
theorem RC_6e (a b c imm : Int) : turnbuckleref06_Check.f 60 6 a b c imm = (((some (decide (a % 4294967296 ≤ 9))) : Option Bool).bind fun t => if t = true then (((some (decide (b % 4294967296 ≤ 9))) : Option Bool).bind fun t => if t = true then (((if imm ≥ 1 then some (decide (imm ≤ 127)) else some false) : Option Bool).bind fun t => if t = true then (((if c % 4294967296 ≥ 1 then some (decide (wrap64 (c % 4294967296) ≤ 9)) else some false) : Option Bool).bind fun t => if t = true then some 0 else some 4) else some 4) else some 4) else some 4) := by kernel_rfl
set_option maxHeartbeats 1000000 in
theorem RC_6 (a b c imm : Int) (ha : 0 ≤ a ∧ a ≤ 255) (hb : 0 ≤ b ∧ b ≤ 255) (hc : 0 ≤ c ∧ c ≤ 255) (hi : 0 ≤ imm ∧ imm ≤ 4294967295) : turnbuckleref06_Check.f 60 6 a b c imm = some (chk ⟨6, a, b, c, imm⟩) := by
  rw [RC_6e]
  simp only [Int.emod_eq_of_lt ha.1 (show a < 4294967296 by omega), Int.emod_eq_of_lt hb.1 (show b < 4294967296 by omega), Int.emod_eq_of_lt hc.1 (show c < 4294967296 by omega), w64 (x := c) (by omega) (by omega)]
  simp only [chk, isOp, bnd, hasW, over, Option.bind_some, bind_ite', decide_eq_true_eq, Bool.or_eq_true, Bool.and_eq_true, beq_iff_eq]
  simp
  repeat' split
  all_goals first | rfl | omega | (simp; omega) | (simp_all; omega) | simp_all

set_option maxRecDepth 100000 in
theorem RC_7e (a b c imm : Int) : turnbuckleref06_Check.f 60 7 a b c imm = (((some (decide (a % 4294967296 ≤ 9))) : Option Bool).bind fun t => if t = true then (((some true) : Option Bool).bind fun t => if t = true then (((if imm ≥ 1 then some (decide (imm ≤ 127)) else some false) : Option Bool).bind fun t => if t = true then (((if c % 4294967296 ≥ 1 then some (decide (wrap64 (c % 4294967296) ≤ 9)) else some false) : Option Bool).bind fun t => if t = true then some 0 else some 4) else some 4) else some 4) else some 4) := by kernel_rfl
set_option maxHeartbeats 1000000 in
theorem RC_7 (a b c imm : Int) (ha : 0 ≤ a ∧ a ≤ 255) (hb : 0 ≤ b ∧ b ≤ 255) (hc : 0 ≤ c ∧ c ≤ 255) (hi : 0 ≤ imm ∧ imm ≤ 4294967295) : turnbuckleref06_Check.f 60 7 a b c imm = some (chk ⟨7, a, b, c, imm⟩) := by
  rw [RC_7e]
  simp only [Int.emod_eq_of_lt ha.1 (show a < 4294967296 by omega), Int.emod_eq_of_lt hb.1 (show b < 4294967296 by omega), Int.emod_eq_of_lt hc.1 (show c < 4294967296 by omega), w64 (x := c) (by omega) (by omega)]
  simp only [chk, isOp, bnd, hasW, over, Option.bind_some, bind_ite', decide_eq_true_eq, Bool.or_eq_true, Bool.and_eq_true, beq_iff_eq]
  simp
  repeat' split
  all_goals first | rfl | omega | (simp; omega) | (simp_all; omega) | simp_all

set_option maxRecDepth 100000 in
theorem RC_8e (a b c imm : Int) : turnbuckleref06_Check.f 60 8 a b c imm = (((some (decide (c % 4294967296 ≤ 7))) : Option Bool).bind fun t => if t = true then (((some (decide (a % 4294967296 ≤ 9))) : Option Bool).bind fun t => if t = true then (if b % 4294967296 = 0 then (if imm = 0 then some 0 else some 1) else some 1) else some 4) else some 4) := by kernel_rfl
set_option maxHeartbeats 1000000 in
theorem RC_8 (a b c imm : Int) (ha : 0 ≤ a ∧ a ≤ 255) (hb : 0 ≤ b ∧ b ≤ 255) (hc : 0 ≤ c ∧ c ≤ 255) (hi : 0 ≤ imm ∧ imm ≤ 4294967295) : turnbuckleref06_Check.f 60 8 a b c imm = some (chk ⟨8, a, b, c, imm⟩) := by
  rw [RC_8e]
  simp only [Int.emod_eq_of_lt ha.1 (show a < 4294967296 by omega), Int.emod_eq_of_lt hb.1 (show b < 4294967296 by omega), Int.emod_eq_of_lt hc.1 (show c < 4294967296 by omega), w64 (x := c) (by omega) (by omega)]
  simp only [chk, isOp, bnd, hasW, over, Option.bind_some, bind_ite', decide_eq_true_eq, Bool.or_eq_true, Bool.and_eq_true, beq_iff_eq]
  simp
  repeat' split
  all_goals first | rfl | omega | (simp; omega) | (simp_all; omega) | simp_all

set_option maxRecDepth 100000 in
theorem RC_9e (a b c imm : Int) : turnbuckleref06_Check.f 60 9 a b c imm = (((some (decide (a % 4294967296 ≤ 9))) : Option Bool).bind fun t => if t = true then (((some (decide (c % 4294967296 ≤ 7))) : Option Bool).bind fun t => if t = true then (if b % 4294967296 = 0 then (if imm = 0 then some 0 else some 1) else some 1) else some 4) else some 4) := by kernel_rfl
set_option maxHeartbeats 1000000 in
theorem RC_9 (a b c imm : Int) (ha : 0 ≤ a ∧ a ≤ 255) (hb : 0 ≤ b ∧ b ≤ 255) (hc : 0 ≤ c ∧ c ≤ 255) (hi : 0 ≤ imm ∧ imm ≤ 4294967295) : turnbuckleref06_Check.f 60 9 a b c imm = some (chk ⟨9, a, b, c, imm⟩) := by
  rw [RC_9e]
  simp only [Int.emod_eq_of_lt ha.1 (show a < 4294967296 by omega), Int.emod_eq_of_lt hb.1 (show b < 4294967296 by omega), Int.emod_eq_of_lt hc.1 (show c < 4294967296 by omega), w64 (x := c) (by omega) (by omega)]
  simp only [chk, isOp, bnd, hasW, over, Option.bind_some, bind_ite', decide_eq_true_eq, Bool.or_eq_true, Bool.and_eq_true, beq_iff_eq]
  simp
  repeat' split
  all_goals first | rfl | omega | (simp; omega) | (simp_all; omega) | simp_all

set_option maxRecDepth 100000 in
theorem RC_10e (a b c imm : Int) : turnbuckleref06_Check.f 60 10 a b c imm = (((some (decide (a % 4294967296 ≤ 9))) : Option Bool).bind fun t => if t = true then (((some (decide (b % 4294967296 ≤ 9))) : Option Bool).bind fun t => if t = true then (((some (decide (c % 4294967296 ≤ 11))) : Option Bool).bind fun t => if t = true then (((some true) : Option Bool).bind fun t => if t = true then some 0 else some 4) else some 4) else some 4) else some 4) := by kernel_rfl
set_option maxHeartbeats 1000000 in
theorem RC_10 (a b c imm : Int) (ha : 0 ≤ a ∧ a ≤ 255) (hb : 0 ≤ b ∧ b ≤ 255) (hc : 0 ≤ c ∧ c ≤ 255) (hi : 0 ≤ imm ∧ imm ≤ 4294967295) : turnbuckleref06_Check.f 60 10 a b c imm = some (chk ⟨10, a, b, c, imm⟩) := by
  rw [RC_10e]
  simp only [Int.emod_eq_of_lt ha.1 (show a < 4294967296 by omega), Int.emod_eq_of_lt hb.1 (show b < 4294967296 by omega), Int.emod_eq_of_lt hc.1 (show c < 4294967296 by omega), w64 (x := c) (by omega) (by omega)]
  simp only [chk, isOp, bnd, hasW, over, Option.bind_some, bind_ite', decide_eq_true_eq, Bool.or_eq_true, Bool.and_eq_true, beq_iff_eq]
  simp
  repeat' split
  all_goals first | rfl | omega | (simp; omega) | (simp_all; omega) | simp_all

set_option maxRecDepth 100000 in
theorem RC_11e (a b c imm : Int) : turnbuckleref06_Check.f 60 11 a b c imm = (((some (decide (a % 4294967296 ≤ 9))) : Option Bool).bind fun t => if t = true then (((some (decide (b % 4294967296 ≤ 9))) : Option Bool).bind fun t => if t = true then (((some (decide (c % 4294967296 ≤ 11))) : Option Bool).bind fun t => if t = true then (((some (decide (imm ≤ 9))) : Option Bool).bind fun t => if t = true then some 0 else some 4) else some 4) else some 4) else some 4) := by kernel_rfl
set_option maxHeartbeats 1000000 in
theorem RC_11 (a b c imm : Int) (ha : 0 ≤ a ∧ a ≤ 255) (hb : 0 ≤ b ∧ b ≤ 255) (hc : 0 ≤ c ∧ c ≤ 255) (hi : 0 ≤ imm ∧ imm ≤ 4294967295) : turnbuckleref06_Check.f 60 11 a b c imm = some (chk ⟨11, a, b, c, imm⟩) := by
  rw [RC_11e]
  simp only [Int.emod_eq_of_lt ha.1 (show a < 4294967296 by omega), Int.emod_eq_of_lt hb.1 (show b < 4294967296 by omega), Int.emod_eq_of_lt hc.1 (show c < 4294967296 by omega), w64 (x := c) (by omega) (by omega)]
  simp only [chk, isOp, bnd, hasW, over, Option.bind_some, bind_ite', decide_eq_true_eq, Bool.or_eq_true, Bool.and_eq_true, beq_iff_eq]
  simp
  repeat' split
  all_goals first | rfl | omega | (simp; omega) | (simp_all; omega) | simp_all

set_option maxRecDepth 100000 in
theorem RC_12e (a b c imm : Int) : turnbuckleref06_Check.f 60 12 a b c imm = (((some (decide (b % 4294967296 ≤ 9))) : Option Bool).bind fun t => if t = true then (((some (decide (c % 4294967296 ≤ 11))) : Option Bool).bind fun t => if t = true then (((some true) : Option Bool).bind fun t => if t = true then (((some (decide (a % 4294967296 ≤ 9))) : Option Bool).bind fun t => if t = true then some 0 else some 4) else some 4) else some 4) else some 4) := by kernel_rfl
set_option maxHeartbeats 1000000 in
theorem RC_12 (a b c imm : Int) (ha : 0 ≤ a ∧ a ≤ 255) (hb : 0 ≤ b ∧ b ≤ 255) (hc : 0 ≤ c ∧ c ≤ 255) (hi : 0 ≤ imm ∧ imm ≤ 4294967295) : turnbuckleref06_Check.f 60 12 a b c imm = some (chk ⟨12, a, b, c, imm⟩) := by
  rw [RC_12e]
  simp only [Int.emod_eq_of_lt ha.1 (show a < 4294967296 by omega), Int.emod_eq_of_lt hb.1 (show b < 4294967296 by omega), Int.emod_eq_of_lt hc.1 (show c < 4294967296 by omega), w64 (x := c) (by omega) (by omega)]
  simp only [chk, isOp, bnd, hasW, over, Option.bind_some, bind_ite', decide_eq_true_eq, Bool.or_eq_true, Bool.and_eq_true, beq_iff_eq]
  simp
  repeat' split
  all_goals first | rfl | omega | (simp; omega) | (simp_all; omega) | simp_all

set_option maxRecDepth 100000 in
theorem RC_13e (a b c imm : Int) : turnbuckleref06_Check.f 60 13 a b c imm = (((some (decide (b % 4294967296 ≤ 9))) : Option Bool).bind fun t => if t = true then (((some (decide (c % 4294967296 ≤ 11))) : Option Bool).bind fun t => if t = true then (((some (decide (imm ≤ 9))) : Option Bool).bind fun t => if t = true then (((some (decide (a % 4294967296 ≤ 9))) : Option Bool).bind fun t => if t = true then some 0 else some 4) else some 4) else some 4) else some 4) := by kernel_rfl
set_option maxHeartbeats 1000000 in
theorem RC_13 (a b c imm : Int) (ha : 0 ≤ a ∧ a ≤ 255) (hb : 0 ≤ b ∧ b ≤ 255) (hc : 0 ≤ c ∧ c ≤ 255) (hi : 0 ≤ imm ∧ imm ≤ 4294967295) : turnbuckleref06_Check.f 60 13 a b c imm = some (chk ⟨13, a, b, c, imm⟩) := by
  rw [RC_13e]
  simp only [Int.emod_eq_of_lt ha.1 (show a < 4294967296 by omega), Int.emod_eq_of_lt hb.1 (show b < 4294967296 by omega), Int.emod_eq_of_lt hc.1 (show c < 4294967296 by omega), w64 (x := c) (by omega) (by omega)]
  simp only [chk, isOp, bnd, hasW, over, Option.bind_some, bind_ite', decide_eq_true_eq, Bool.or_eq_true, Bool.and_eq_true, beq_iff_eq]
  simp
  repeat' split
  all_goals first | rfl | omega | (simp; omega) | (simp_all; omega) | simp_all

set_option maxRecDepth 100000 in
theorem RC_14e (a b c imm : Int) : turnbuckleref06_Check.f 60 14 a b c imm = (((if c % 4294967296 ≥ 1 then some (decide (wrap64 (c % 4294967296) ≤ 22)) else some false) : Option Bool).bind fun t => if t = true then (((some true) : Option Bool).bind fun t => if t = true then (if a % 4294967296 = 0 then (if b % 4294967296 = 0 then some 0 else some 1) else some 1) else some 4) else some 4) := by kernel_rfl
set_option maxHeartbeats 1000000 in
theorem RC_14 (a b c imm : Int) (ha : 0 ≤ a ∧ a ≤ 255) (hb : 0 ≤ b ∧ b ≤ 255) (hc : 0 ≤ c ∧ c ≤ 255) (hi : 0 ≤ imm ∧ imm ≤ 4294967295) : turnbuckleref06_Check.f 60 14 a b c imm = some (chk ⟨14, a, b, c, imm⟩) := by
  rw [RC_14e]
  simp only [Int.emod_eq_of_lt ha.1 (show a < 4294967296 by omega), Int.emod_eq_of_lt hb.1 (show b < 4294967296 by omega), Int.emod_eq_of_lt hc.1 (show c < 4294967296 by omega), w64 (x := c) (by omega) (by omega)]
  simp only [chk, isOp, bnd, hasW, over, Option.bind_some, bind_ite', decide_eq_true_eq, Bool.or_eq_true, Bool.and_eq_true, beq_iff_eq]
  simp
  repeat' split
  all_goals first | rfl | omega | (simp; omega) | (simp_all; omega) | simp_all

set_option maxRecDepth 100000 in
theorem RC_15e (a b c imm : Int) : turnbuckleref06_Check.f 60 15 a b c imm = (if a % 4294967296 = 0 then (if b % 4294967296 = 0 then (if c % 4294967296 = 0 then (if imm = 0 then some 0 else some 1) else some 1) else some 1) else some 1) := by kernel_rfl
set_option maxHeartbeats 1000000 in
theorem RC_15 (a b c imm : Int) (ha : 0 ≤ a ∧ a ≤ 255) (hb : 0 ≤ b ∧ b ≤ 255) (hc : 0 ≤ c ∧ c ≤ 255) (hi : 0 ≤ imm ∧ imm ≤ 4294967295) : turnbuckleref06_Check.f 60 15 a b c imm = some (chk ⟨15, a, b, c, imm⟩) := by
  rw [RC_15e]
  simp only [Int.emod_eq_of_lt ha.1 (show a < 4294967296 by omega), Int.emod_eq_of_lt hb.1 (show b < 4294967296 by omega), Int.emod_eq_of_lt hc.1 (show c < 4294967296 by omega), w64 (x := c) (by omega) (by omega)]
  simp only [chk, isOp, bnd, hasW, over, Option.bind_some, bind_ite', decide_eq_true_eq, Bool.or_eq_true, Bool.and_eq_true, beq_iff_eq]
  simp
  repeat' split
  all_goals first | rfl | omega | (simp; omega) | (simp_all; omega) | simp_all
end Go.Proofs.Ytaomlfnffnapmaa.RefC
