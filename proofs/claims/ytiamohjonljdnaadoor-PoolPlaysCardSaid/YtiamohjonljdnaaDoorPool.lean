/- The pool (layer 2): its words' bits counted, its lowest free one; what each function answers. -/
import Derived.Test.YtiamohjonljdnaaDoorProg
import Derived.Test.YtiamohjonljdnaaDoorPoolC
import Derived.Below
import Derived.Deep.Draws
import Derived.Laws.OwnMore
import Derived.Laws.Rows
import Derived.Laws.MakeOwn
import Derived.Laws.Slices
import Derived.OwnWalk
import Derived.WalkKit
import Derived.KernelRfl
import Derived.Deep.LoopGhost
import Derived.Deep.QuietTactic
import Derived.BigQuiet
import Derived.RegionTactic
import Derived.Lib.Hide
import Derived.IntWalk
import Derived.WalkSmall
import Derived.WalkSpells
import Derived.WalkLawsBesides
import Derived.Shelf.Spec.TrailingZeros
set_option linter.unusedVariables false
set_option linter.unusedSimpArgs false
namespace Go.Proofs.YtiamohjonljdnaaDoor
open Go.RowKit

theorem ret_bool {a b : Bool} (h : a = b) : Ending.returned (.bool a) = .returned (.bool b) := by rw [h]
theorem ret2 {a b a' b' : Value} (h : a = a') (h2 : b = b') : Ending.returned (.tuple #[a, b]) = .returned (.tuple #[a', b']) := by rw [h, h2]
theorem ret_int {k : IntKind} {a b : Int} (h : a = b) : Ending.returned (.int k a) = .returned (.int k b) := by rw [h]

/-- The library's table as it is laid. -/
structure Tb (w : World) : Prop where
  at_ : ∀ j, j < 64 → w.cell? ⟨0, j, none⟩ = some (.int .u8 (Lib.deBruijn64tab.getD j 0))
theorem Tb.lt {w : World} (h : Tb w) : 0 < w.heap.size := World.block_lt_of_cell? w ⟨0, 0, none⟩ (h.at_ 0 (by omega))
theorem Tb.below {w w1 : World} (h : Tb w) {B : Nat} (hb : Below B w w1) (hB : 0 < B) : Tb w1 := ⟨fun j hj => (hb.cell (p := ⟨0, j, none⟩) hB).trans (h.at_ j hj)⟩

theorem tz64_core (x k idx : Nat) (w : World) (hx0 : ((x : Int) == 0) = false)
    (key : IntKind.u64.wrap (bits BinOp.and IntKind.u64 (x : Int) (IntKind.u64.wrap (-(x : Int))) * 285870213051353865) / 288230376151711744 = (idx : Int))
    (hi : idx < 64) (hk : k < 64) (hcell : w.cell? ⟨0, idx, none⟩ = some (.int .u8 k)) :
    Calls Tryd.prog 20 #[.int .u64 x] w fun e w' => e = .returned (.int .i64 k) ∧ w = w' := by
  go_enter Tryd.func20, Tryd.ntmps20
  go_wp2_with (simp only [key])
  go_ret
  exact ⟨rfl, rfl⟩

theorem tz64 (x : Nat) (hx : x < 18446744073709551616) (w : World) (T : Tb w) :
    Calls Tryd.prog 20 #[.int .u64 x] w fun e w' => e = .returned (.int .i64 (Lib.ctz 64 x)) ∧ w = w' := by
  by_cases hx0 : x = 0
  · subst hx0
    go_enter Tryd.func20, Tryd.ntmps20
    go_wp2
    go_ret
    exact ⟨rfl, rfl⟩
  · obtain ⟨hlow, hk⟩ := Lib.lowest_bit 64 x hx0 hx
    obtain ⟨hi, htab⟩ := Lib.deBruijn64_at _ hk
    have hcell := T.at_ _ hi
    rw [htab] at hcell
    exact tz64_core x _ _ w (by simp; omega) (tz64_key x _ hx hx0 hlow) hi hk hcell

theorem wu {x : Nat} (h : x < 18446744073709551616) : IntKind.u64.wrap (x : Int) = (x : Int) := by rw [IntKind.wrap_u64]; omega

theorem oc_a (x : Nat) (hx : x < 18446744073709551616) :
    IntKind.u64.wrap (bits BinOp.and IntKind.u64 ((x : Int) / 2) 6148914691236517205 + bits BinOp.and IntKind.u64 (x : Int) 6148914691236517205) = ((s1 8 x : Nat) : Int) := by
  have e : ((x : Int) / 2) = ((x / 2 : Nat) : Int) := by omega
  have m : msk 85 8 = 6148914691236517205 := by decide
  rw [e, show (6148914691236517205 : Int) = ((6148914691236517205 : Nat) : Int) from rfl, u64_and_nat _ _ (by omega) (by decide), u64_and_nat _ _ hx (by decide), ← m]
  have := s1_lt x
  unfold s1 at this ⊢
  rw [← Int.natCast_add]
  exact wu this
theorem oc_b (x : Nat) (hx : x < 18446744073709551616) :
    IntKind.u64.wrap (bits BinOp.and IntKind.u64 ((x : Int) / 4) 3689348814741910323 + bits BinOp.and IntKind.u64 (x : Int) 3689348814741910323) = ((s2 8 x : Nat) : Int) := by
  have e : ((x : Int) / 4) = ((x / 4 : Nat) : Int) := by omega
  have m : msk 51 8 = 3689348814741910323 := by decide
  rw [e, show (3689348814741910323 : Int) = ((3689348814741910323 : Nat) : Int) from rfl, u64_and_nat _ _ (by omega) (by decide), u64_and_nat _ _ hx (by decide), ← m]
  have := s2_lt x
  unfold s2 at this ⊢
  rw [← Int.natCast_add]
  exact wu (by omega)
theorem oc_c (y : Nat) (hy : y + y / 16 < 18446744073709551616) :
    bits BinOp.and IntKind.u64 (IntKind.u64.wrap ((y : Int) / 16 + (y : Int))) 1085102592571150095 = ((s3 8 y : Nat) : Int) := by
  have e : ((y : Int) / 16 + (y : Int)) = ((y / 16 + y : Nat) : Int) := by omega
  have m : msk 15 8 = 1085102592571150095 := by decide
  rw [e, wu (by omega), show (1085102592571150095 : Int) = ((1085102592571150095 : Nat) : Int) from rfl, u64_and_nat _ _ (by omega) (by decide), ← m]
  rfl
theorem i64_127 (a : Nat) (ha : a < 9223372036854775808) : bits .and .i64 (a : Int) 127 = ((a % 128 : Nat) : Int) := by
  have hx : a &&& 127 = a % 128 := by rw [show (127 : Nat) = 2 ^ 7 - 1 from rfl, Nat.and_two_pow_sub_one_eq_mod]
  show IntKind.i64.wrap ((BitVec.ofInt 64 (a : Int) &&& BitVec.ofInt 64 ((127 : Nat) : Int)).toNat : Int) = _
  rw [BitVec.toNat_and, BitVec.ofInt_natCast, BitVec.ofInt_natCast, BitVec.toNat_ofNat, BitVec.toNat_ofNat, Nat.mod_eq_of_lt (show a < 2 ^ 64 by omega), Nat.mod_eq_of_lt (show 127 < 2 ^ 64 by decide), hx, IntKind.wrap_i64]
  omega

theorem oc64 (x : Nat) (hx : x < 18446744073709551616) (w : World) :
    Calls Tryd.prog 23 #[.int .u64 x] w fun e w' => e = .returned (.int .i64 (cnt (fun i => x.testBit i) 64 : Nat)) ∧ w = w' := by
  go_enter Tryd.func23, Tryd.ntmps23
  go_wp2
  go_ret
  refine ⟨ret_int ?_, rfl⟩
  have a1 := s1_lt x
  have a2 := s2_lt (s1 8 x)
  obtain ⟨r, r1, r2, r3, r4⟩ := T8 x hx _ _ _ rfl rfl rfl
  have ht : T 8 x = s3 8 (s2 8 (s1 8 x)) := rfl
  rw [ht] at r r1 r2 r3 r4
  rw [oc_a x hx, oc_b _ a1, oc_c _ a2]
  clear a1 a2 ht
  generalize s3 8 (s2 8 (s1 8 x)) = u at *
  have c1 : ((u : Int) + (u : Int) / 256) = ((u + u / 256 : Nat) : Int) := by omega
  rw [c1, wu (by omega)]
  generalize u + u / 256 = v at *
  have c2 : ((v : Int) + (v : Int) / 65536) = ((v + v / 65536 : Nat) : Int) := by omega
  rw [c2, wu (by omega)]
  generalize v + v / 65536 = p at *
  have c3 : ((p : Int) + (p : Int) / 4294967296) = ((p + p / 4294967296 : Nat) : Int) := by omega
  rw [c3, wu (by omega)]
  generalize p + p / 4294967296 = q at *
  have c4 : wrap64 (q : Int) = (q : Int) := by unfold wrap64; omega
  rw [c4, i64_127 q r4, r]
end Go.Proofs.YtiamohjonljdnaaDoor
