/- Plain: a page's word of 32 bits; what a place of a class tells. -/
import Derived.Test.YtbngmkopgoelbaaDoorSlM
import Derived.Test.YtbngmkopgoelbaaDoorSlL
set_option linter.unusedVariables false
set_option linter.unusedSimpArgs false
namespace Go.Proofs.YtbngmkopgoelbaaDoor
open Go.RowKit

theorem u32_or_nat (a b : Nat) (ha : a < 4294967296) (hb : b < 4294967296) : bits .or .u32 (a : Int) (b : Int) = ((a ||| b : Nat) : Int) := by
  have hx : a ||| b < 2 ^ 32 := Nat.or_lt_two_pow (by omega) (by omega)
  show IntKind.u32.wrap ((BitVec.ofInt 32 (a : Int) ||| BitVec.ofInt 32 (b : Int)).toNat : Int) = _
  rw [BitVec.toNat_or, BitVec.ofInt_natCast, BitVec.ofInt_natCast, BitVec.toNat_ofNat, BitVec.toNat_ofNat, Nat.mod_eq_of_lt (show a < 2 ^ 32 by omega), Nat.mod_eq_of_lt (show b < 2 ^ 32 by omega), IntKind.wrap_u32]
  omega
theorem u32_and_nat (a b : Nat) (ha : a < 4294967296) (hb : b < 4294967296) : bits .and .u32 (a : Int) (b : Int) = ((a &&& b : Nat) : Int) := by
  have hx : a &&& b < 2 ^ 32 := Nat.and_lt_two_pow _ (by omega)
  show IntKind.u32.wrap ((BitVec.ofInt 32 (a : Int) &&& BitVec.ofInt 32 (b : Int)).toNat : Int) = _
  rw [BitVec.toNat_and, BitVec.ofInt_natCast, BitVec.ofInt_natCast, BitVec.toNat_ofNat, BitVec.toNat_ofNat, Nat.mod_eq_of_lt (show a < 2 ^ 32 by omega), Nat.mod_eq_of_lt (show b < 2 ^ 32 by omega), IntKind.wrap_u32]
  omega
theorem u32_andNot_nat (a b : Nat) (ha : a < 4294967296) (hb : b < 4294967296) : bits .andNot .u32 (a : Int) (b : Int) = ((a &&& (4294967295 - b) : Nat) : Int) := by
  have hx : a &&& (4294967295 - b) < 2 ^ 32 := Nat.and_lt_two_pow _ (by omega)
  show IntKind.u32.wrap ((BitVec.ofInt 32 (a : Int) &&& ~~~BitVec.ofInt 32 (b : Int)).toNat : Int) = _
  rw [BitVec.toNat_and, BitVec.toNat_not, BitVec.ofInt_natCast, BitVec.ofInt_natCast, BitVec.toNat_ofNat, BitVec.toNat_ofNat, Nat.mod_eq_of_lt (show a < 2 ^ 32 by omega), Nat.mod_eq_of_lt (show b < 2 ^ 32 by omega), IntKind.wrap_u32]
  have e : 2 ^ 32 - 1 - b = 4294967295 - b := by omega
  rw [e]
  omega
theorem wd_lt32 (g : Nat → Bool) : wd g 32 < 4294967296 := wd_lt g 32
theorem p2_lt32 {r : Nat} (h : r < 32) : 2 ^ r < 4294967296 := Nat.pow_lt_pow_right (by omega) h
theorem wd32_or (g : Nat → Bool) (r : Nat) (hr : r < 32) : wd g 32 ||| 2 ^ r = wd (fun i => g i || i == r) 32 := by
  apply Nat.eq_of_testBit_eq
  intro i
  rw [Nat.testBit_or, wd_bit, wd_bit, Nat.testBit_two_pow]
  by_cases h : i = r
  · subst h; simp [hr]
  · have h1 : ¬ r = i := fun e => h e.symm
    have h2 : (i == r) = false := beq_eq_false_iff_ne.2 h
    simp [h1, h2]
theorem wd32_andNot (g : Nat → Bool) (r : Nat) (hr : r < 32) : wd g 32 &&& (4294967295 - 2 ^ r) = wd (fun i => g i && !(i == r)) 32 := by
  apply Nat.eq_of_testBit_eq
  intro i
  have e : 4294967295 - 2 ^ r = 2 ^ 32 - (2 ^ r + 1) := by omega
  have hp : 2 ^ r < 2 ^ 32 := Nat.pow_lt_pow_right (by omega) hr
  rw [Nat.testBit_and, wd_bit, wd_bit, e, Nat.testBit_two_pow_sub_succ hp, Nat.testBit_two_pow]
  by_cases h : i = r
  · subst h; simp
  · have h1 : ¬ r = i := fun e => h e.symm
    have h2 : (i == r) = false := beq_eq_false_iff_ne.2 h
    by_cases hi : i < 32 <;> simp [h1, h2, hi]
theorem wd32_and (g : Nat → Bool) (r : Nat) (hr : r < 32) : wd g 32 &&& 2 ^ r = if g r then 2 ^ r else 0 := by
  apply Nat.eq_of_testBit_eq
  intro i
  rw [Nat.testBit_and, wd_bit, Nat.testBit_two_pow]
  by_cases h : i = r
  · subst h
    cases hg : g i <;> simp [hr]
  · have h1 : ¬ r = i := fun e => h e.symm
    cases hg : g r <;> simp [h1, Nat.testBit_two_pow]
theorem word_or (g : Nat → Bool) (r : Nat) (hr : r < 32) : bits BinOp.or IntKind.u32 ((wd g 32 : Nat) : Int) ((2 ^ r : Nat) : Int) = ((wd (fun i => g i || i == r) 32 : Nat) : Int) := by
  rw [u32_or_nat _ _ (wd_lt32 g) (p2_lt32 hr), wd32_or g r hr]
theorem word_andNot (g : Nat → Bool) (r : Nat) (hr : r < 32) : bits BinOp.andNot IntKind.u32 ((wd g 32 : Nat) : Int) ((2 ^ r : Nat) : Int) = ((wd (fun i => g i && !(i == r)) 32 : Nat) : Int) := by
  rw [u32_andNot_nat _ _ (wd_lt32 g) (p2_lt32 hr), wd32_andNot g r hr]
theorem word_and (g : Nat → Bool) (r : Nat) (hr : r < 32) : bits BinOp.and IntKind.u32 ((wd g 32 : Nat) : Int) ((2 ^ r : Nat) : Int) = if g r then ((2 ^ r : Nat) : Int) else 0 := by
  rw [u32_and_nat _ _ (wd_lt32 g) (p2_lt32 hr), wd32_and g r hr]
  split <;> rfl

/-- The first byte of each of a list is the next's, however the rest turns. -/
theorem linked_tail {bs : List Int} {a : Nat} {l : List Nat} (h : linked bs (a :: l)) : ldA bs (a : Int) 4 = ((l.headD 0 : Nat) : Int) ∧ linked bs l := h

/-- Two blocks of one page, or of two, do not overlap. -/
theorem apart {c a b : Nat} (hc : isC c) (ha : a % c = 0) (hb : b % c = 0) (hne : a ≠ b) : a + c ≤ b ∨ b + c ≤ a := by
  rcases hc with rfl | rfl | rfl | rfl | rfl <;> omega
theorem inpage {c a p : Nat} (hc : isC c) (ha : a % c = 0) (hp : a / 512 = p) : 512 * p ≤ a ∧ a + c ≤ 512 * p + 512 := by
  rcases hc with rfl | rfl | rfl | rfl | rfl <;> omega
end Go.Proofs.YtbngmkopgoelbaaDoor
