/- The chain's law (layer 10): deeds, column by column; one push among them. -/
import Derived.Test.YtajbfjmbohkphaaChShown
import Derived.Test.YtajbfjmbohkphaaPost
import Derived.Test.YtajbfjmbohkphaaCol
import Derived.StillTailTactics
set_option linter.unusedVariables false
set_option linter.unusedSimpArgs false
namespace Go.Proofs.Ytajbfjmbohkphaa
open Go.RowKit

/-- The deeds, column by column. -/
structure Deeds (w : World) (A : Option Addr) (len : Nat) (fk fh fn : Nat → Int) : Prop where
  k : ColI w A len 3 0 .i64 fk
  h : ColI w A len 3 1 .u8 fh
  n : ColI w A len 3 2 .u8 fn
theorem Deeds.below {w w1 : World} {A : Option Addr} {len : Nat} {fk fh fn : Nat → Int} (h : Deeds w A len fk fh fn) (hb : Below w.heap.size w w1) : Deeds w1 A len fk fh fn := ⟨h.k.below hb, h.h.below hb, h.n.below hb⟩
theorem add_of_add (a : Addr) (i j : Nat) : (a.add i).add j = a.add (i + j) := by
  unfold Addr.add
  by_cases hi : i = 0 <;> by_cases hj : j = 0 <;> simp [hi, hj, Nat.add_assoc]
theorem add_none (a : Addr) : a.add 0 = a := rfl
theorem add_some (a : Addr) (j : Nat) : a.add (j + 1) = ⟨a.block, a.off + (j + 1), none⟩ := rfl
theorem Deeds.at_ {w : World} {A : Option Addr} {len : Nat} {fk fh fn : Nat → Int} (h : Deeds w A len fk fh fn) (i : Nat) (hi : i < len) :
    ∃ ad : Addr, A = some ad ∧ w.cell? (ad.add (i * 3)) = some (.int .i64 (fk i)) ∧ w.cell? ⟨(ad.add (i * 3)).block, (ad.add (i * 3)).off + 1, none⟩ = some (.int .u8 (fh i)) ∧ w.cell? ⟨(ad.add (i * 3)).block, (ad.add (i * 3)).off + 2, none⟩ = some (.int .u8 (fn i)) ∧
      (0 ≤ fh i ∧ fh i ≤ 255) ∧ (0 ≤ fn i ∧ fn i ≤ 255) ∧ (-9223372036854775808 ≤ fk i ∧ fk i ≤ 9223372036854775807) := by
  obtain ⟨ad, rfl, hadl, hck, hwk⟩ := h.k i hi
  obtain ⟨ad', ead, _, hch, hwh⟩ := h.h i hi
  obtain rfl : ad = ad' := by injection ead
  obtain ⟨ad', ead, _, hcn, hwn⟩ := h.n i hi
  obtain rfl : ad = ad' := by injection ead
  rw [← add_of_add] at hck hch hcn
  rw [add_none] at hck
  rw [add_some] at hch hcn
  exact ⟨ad, rfl, hck, hch, hcn, bd_u8 hwh, bd_u8 hwn, bd_i64 hwk⟩
end Go.Proofs.Ytajbfjmbohkphaa
