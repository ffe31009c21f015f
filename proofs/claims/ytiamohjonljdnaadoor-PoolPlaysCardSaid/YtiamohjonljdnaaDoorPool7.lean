/- Two pools of the call's own. -/
import Derived.Test.YtiamohjonljdnaaDoorPOnce
import Derived.Test.YtiamohjonljdnaaDoorPool6
import Derived.Deep.RegionWith
set_option linter.unusedVariables false
set_option linter.unusedSimpArgs false
namespace Go.Proofs.YtiamohjonljdnaaDoor
open Go.RowKit

/-- Two pools of the call's own. -/
structure P2 (w0 w : World) (p q n : Nat) (f g : Nat → Bool) : Prop where
  kept : Kept w0 w
  pp : Po w p n f
  qq : Po w q n g
  newp : w0.heap.size ≤ p
  newq : w0.heap.size ≤ q
  ne : p ≠ q
  tb : Tb w0

section
variable {w0 w w1 : World} {p q n : Nat} {f g : Nat → Bool}
theorem P2.onp {f' : Nat → Bool} (S : P2 w0 w p q n f g) (hp : Po w1 p n f') (hg : w.grownBy w1 (some p)) : P2 w0 w1 p q n f' g :=
  ⟨⟨grown_below S.kept.below hg S.newp S.kept.below.size⟩, hp, ⟨(hg.block q S.qq.lt (fun e => S.ne (by injection e with e; exact e.symm))).trans S.qq.blk, S.qq.len, S.qq.out⟩, S.newp, S.newq, S.ne, S.tb⟩
theorem P2.onq {g' : Nat → Bool} (S : P2 w0 w p q n f g) (hq : Po w1 q n g') (hg : w.grownBy w1 (some q)) : P2 w0 w1 p q n f g' :=
  ⟨⟨grown_below S.kept.below hg S.newq S.kept.below.size⟩, ⟨(hg.block p S.pp.lt (fun e => S.ne (by injection e))).trans S.pp.blk, S.pp.len, S.pp.out⟩, hq, S.newp, S.newq, S.ne, S.tb⟩
theorem P2.drew (S : P2 w0 w p q n f g) : P2 w0 w.drew p q n f g :=
  have hb : Below w.heap.size w w.drew := ⟨rfl, rfl, rfl, Nat.le_refl _, fun _ _ => rfl⟩
  ⟨S.kept.then_ hb, S.pp.below hb, S.qq.below hb, S.newp, S.newq, S.ne, S.tb⟩
theorem P2.as_ {f' g' : Nat → Bool} (S : P2 w0 w p q n f g) (hf : ∀ i, f i = f' i) (hg : ∀ i, g i = g' i) : P2 w0 w p q n f' g' := by
  rw [show f' = f from funext (fun i => (hf i).symm), show g' = g from funext (fun i => (hg i).symm)]
  exact S

theorem TakeP (S : P2 w0 w p q n f g) (a : Nat) (ha : a < n) (hf : f a = false) (hl : ∀ i, i < a → f i = true) :
    Calls Tryd.prog 11 #[.pointer (some ⟨p, 0, none⟩)] w fun e w' => e = .returned (.tuple #[.int .i64 (a : Int), .int .i64 0]) ∧ P2 w0 w' p q n (fun i => f i || i == a) g :=
  (Take_at S.pp (S.kept.tb S.tb) a ha hf hl).mono fun _ _ ⟨h, hp, hg⟩ => ⟨h, S.onp hp hg⟩
theorem TakeP_full (S : P2 w0 w p q n f g) (hl : ∀ i, i < n → f i = true) :
    Calls Tryd.prog 11 #[.pointer (some ⟨p, 0, none⟩)] w fun e w' => e = .returned (.tuple #[.int .i64 0, .int .i64 5]) ∧ P2 w0 w' p q n f g := by
  refine (Take_full S.pp (S.kept.tb S.tb) hl).mono ?_
  rintro e w' ⟨h, rfl⟩
  exact ⟨h, S⟩
theorem RunQ (S : P2 w0 w p q n f g) (a : Nat) (ha : a < n) (hf : g a = false) (hl : ∀ i, i < a → g i = true) :
    Calls Tryd.prog 14 #[.pointer (some ⟨q, 0, none⟩), .int .i64 1] w fun e w' => e = .returned (.tuple #[.int .i64 (a : Int), .int .i64 0]) ∧ P2 w0 w' p q n f (fun i => g i || i == a) :=
  (TakeRun_ok S.qq 1 a (by omega) (by omega) (fun j hj => by obtain rfl : j = 0 := (by omega); exact hf) (fun b hb => ⟨0, by omega, hl b hb⟩)).mono fun _ _ ⟨h, hp, hg⟩ => ⟨h, (S.onq hp hg).as_ (fun _ => rfl) (fun i => by
    show (g i || (decide (a ≤ i) && decide (i < a + 1))) = (g i || i == a)
    congr 1
    rw [Bool.eq_iff_iff]
    simp only [Bool.and_eq_true, decide_eq_true_eq, beq_iff_eq]
    omega)⟩
theorem RunQ_full (S : P2 w0 w p q n f g) (hl : ∀ i, i < n → g i = true) :
    Calls Tryd.prog 14 #[.pointer (some ⟨q, 0, none⟩), .int .i64 1] w fun e w' => e = .returned (.tuple #[.int .i64 0, .int .i64 5]) ∧ P2 w0 w' p q n f g := by
  refine (TakeRun_none S.qq 1 (by omega) (by omega) (fun b hb => ⟨0, by omega, hl _ (by omega)⟩)).mono ?_
  rintro e w' ⟨h, rfl⟩
  exact ⟨h, S⟩

/-- What Give answers, and leaves. -/
def gcode (f : Nat → Bool) (n : Nat) (page : Int) : Int := if page < 0 ∨ n ≤ page then 1 else if f page.toNat then 0 else 6
def giv (f : Nat → Bool) (page : Int) : Nat → Bool := fun i => f i && !(decide ((i : Int) = page))
theorem Give_to (h : Po w p n f) (page : Int) :
    Calls Tryd.prog 12 #[.pointer (some ⟨p, 0, none⟩), .int .i64 page] w fun e w' => e = .returned (.int .i64 (gcode f n page)) ∧ Po w' p n (giv f page) ∧ w.grownBy w' (some p) := by
  unfold gcode
  by_cases h1 : page < 0 ∨ n ≤ page
  · rw [if_pos h1]
    refine (Give_bad h page h1).mono ?_
    rintro e w' ⟨h, rfl⟩
    refine ⟨h, ?_, World.grownBy.refl _ _⟩
    have e : giv f page = f := funext (fun i => by
      show (f i && !(decide ((i : Int) = page))) = f i
      by_cases hi : (i : Int) = page
      · rw [‹Po w p n f›.out i (by omega)]; rfl
      · rw [decide_eq_false hi]; simp)
    rw [e]; assumption
  · rw [if_neg h1]
    obtain ⟨P, rfl⟩ := Int.eq_ofNat_of_zero_le (show 0 ≤ page by omega)
    rw [Int.toNat_natCast]
    have e : giv f (P : Int) = (fun i => f i && !(i == P)) := funext (fun i => by
      show (f i && !(decide ((i : Int) = (P : Int)))) = (f i && !(i == P))
      congr 2
      rw [Bool.eq_iff_iff, decide_eq_true_eq, beq_iff_eq]; omega)
    cases hf : f P
    · refine (Give_none h P (by omega) hf).mono ?_
      rintro e' w' ⟨h2, rfl⟩
      refine ⟨h2, ?_, World.grownBy.refl _ _⟩
      rw [e, show (fun i => f i && !(i == P)) = f from funext (fun i => by
        by_cases hi : i = P
        · subst hi; rw [hf]; rfl
        · rw [beq_eq_false_iff_ne.2 hi]; simp)]
      exact h
    · refine (Give_ok h P (by omega) hf).mono ?_
      rintro e' w' ⟨h2, hp, hg⟩
      rw [e]
      exact ⟨h2, hp, hg⟩
theorem GiveP (S : P2 w0 w p q n f g) (page : Int) :
    Calls Tryd.prog 12 #[.pointer (some ⟨p, 0, none⟩), .int .i64 page] w fun e w' => e = .returned (.int .i64 (gcode f n page)) ∧ P2 w0 w' p q n (giv f page) g :=
  (Give_to S.pp page).mono fun _ _ ⟨h, hp, hg⟩ => ⟨h, S.onp hp hg⟩
theorem GiveQ (S : P2 w0 w p q n f g) (page : Int) :
    Calls Tryd.prog 12 #[.pointer (some ⟨q, 0, none⟩), .int .i64 page] w fun e w' => e = .returned (.int .i64 (gcode g n page)) ∧ P2 w0 w' p q n f (giv g page) :=
  (Give_to S.qq page).mono fun _ _ ⟨h, hp, hg⟩ => ⟨h, S.onq hp hg⟩
end
end Go.Proofs.YtiamohjonljdnaaDoor
