/- One pool of the call's own: each function's step; the document's example. -/
import Derived.Test.YtiamohjonljdnaaDoorPool4
set_option linter.unusedVariables false
set_option linter.unusedSimpArgs false
namespace Go.Proofs.YtiamohjonljdnaaDoor
open Go.RowKit

theorem grown_below {B : Nat} {w w1 w2 : World} (h : Below B w w1) {g : Nat} (hg : w1.grownBy w2 (some g)) (hB : B ≤ g) (hs : B ≤ w1.heap.size) : Below B w w2 :=
  h.grown hg hs (fun k hk => by injection hk with hk; omega)
theorem below_then {B : Nat} {w w1 w2 : World} (h : Below B w w1) (hB : B ≤ w1.heap.size) (k : Below w1.heap.size w1 w2) : Below B w w2 :=
  h.trans ⟨k.os, k.tape, k.output, k.size, fun i hi => k.block i (Nat.lt_of_lt_of_le hi hB)⟩

/-- What lay there when the call began lies as it lay. -/
structure Kept (w0 w : World) : Prop where
  below : Below w0.heap.size w0 w
theorem Kept.refl (w : World) : Kept w w := ⟨Below.refl _ _⟩
theorem Kept.then_ {w0 w w1 : World} (h : Kept w0 w) (k : Below w.heap.size w w1) : Kept w0 w1 := ⟨below_then h.below h.below.size k⟩

/-- A pool that was made since the call began; the library's table. -/
structure Pw (w0 w : World) (p n : Nat) (f : Nat → Bool) : Prop where
  kept : Kept w0 w
  po : Po w p n f
  new : w0.heap.size ≤ p
  tb : Tb w0

section
variable {w0 w : World} {p n : Nat} {f : Nat → Bool}
theorem Kept.tb (K : Kept w0 w) (T : Tb w0) : Tb w := T.below K.below T.lt
theorem Pw.then_ {w1 : World} (S : Pw w0 w p n f) (k : Below w.heap.size w w1) : Pw w0 w1 p n f := ⟨S.kept.then_ k, S.po.below k, S.new, S.tb⟩
theorem Pw.grown {w1 : World} {f' : Nat → Bool} (S : Pw w0 w p n f) (hp : Po w1 p n f') (hg : w.grownBy w1 (some p)) : Pw w0 w1 p n f' := ⟨⟨grown_below S.kept.below hg S.new S.kept.below.size⟩, hp, S.new, S.tb⟩

theorem PNew_st (K : Kept w0 w) (T : Tb w0) (n : Nat) (h1 : n ≤ 128) :
    Calls Tryd.prog 10 #[.int .i64 (n : Int)] w fun e w' => ∃ p : Nat, e = .returned (.tuple #[.pointer (some ⟨p, 0, none⟩), .int .i64 0]) ∧ Pw w0 w' p n (fun _ => false) :=
  (PNew_ok n w h1).mono fun _ _ ⟨h, hp, hb⟩ => ⟨_, h, K.then_ hb, hp, K.below.size, T⟩
theorem Take_st (S : Pw w0 w p n f) (a : Nat) (ha : a < n) (hf : f a = false) (hl : ∀ i, i < a → f i = true) :
    Calls Tryd.prog 11 #[.pointer (some ⟨p, 0, none⟩)] w fun e w' => e = .returned (.tuple #[.int .i64 (a : Int), .int .i64 0]) ∧ Pw w0 w' p n (fun i => f i || i == a) :=
  (Take_at S.po (S.kept.tb S.tb) a ha hf hl).mono fun _ _ ⟨h, hp, hg⟩ => ⟨h, S.grown hp hg⟩
theorem Take_st_full (S : Pw w0 w p n f) (hl : ∀ i, i < n → f i = true) :
    Calls Tryd.prog 11 #[.pointer (some ⟨p, 0, none⟩)] w fun e w' => e = .returned (.tuple #[.int .i64 0, .int .i64 5]) ∧ Pw w0 w' p n f := by
  refine (Take_full S.po (S.kept.tb S.tb) hl).mono ?_
  rintro e w' ⟨h, rfl⟩
  exact ⟨h, S⟩
theorem Give_st (S : Pw w0 w p n f) (P : Nat) (hP : P < n) (hf : f P = true) :
    Calls Tryd.prog 12 #[.pointer (some ⟨p, 0, none⟩), .int .i64 (P : Int)] w fun e w' => e = .returned (.int .i64 0) ∧ Pw w0 w' p n (fun i => f i && !(i == P)) :=
  (Give_ok S.po P hP hf).mono fun _ _ ⟨h, hp, hg⟩ => ⟨h, S.grown hp hg⟩
theorem Give_st_none (S : Pw w0 w p n f) (P : Nat) (hP : P < n) (hf : f P = false) :
    Calls Tryd.prog 12 #[.pointer (some ⟨p, 0, none⟩), .int .i64 (P : Int)] w fun e w' => e = .returned (.int .i64 6) ∧ Pw w0 w' p n f := by
  refine (Give_none S.po P hP hf).mono ?_
  rintro e w' ⟨h, rfl⟩
  exact ⟨h, S⟩
theorem Give_st_bad (S : Pw w0 w p n f) (page : Int) (hp : page < 0 ∨ n ≤ page) :
    Calls Tryd.prog 12 #[.pointer (some ⟨p, 0, none⟩), .int .i64 page] w fun e w' => e = .returned (.int .i64 1) ∧ Pw w0 w' p n f := by
  refine (Give_bad S.po page hp).mono ?_
  rintro e w' ⟨h, rfl⟩
  exact ⟨h, S⟩
theorem Run_st (S : Pw w0 w p n f) (M a : Nat) (hm : 1 ≤ M) (ha : a + M ≤ n) (hfree : ∀ j, j < M → f (a + j) = false) (hno : ∀ b, b < a → ∃ j, j < M ∧ f (b + j) = true) :
    Calls Tryd.prog 14 #[.pointer (some ⟨p, 0, none⟩), .int .i64 (M : Int)] w fun e w' => e = .returned (.tuple #[.int .i64 (a : Int), .int .i64 0]) ∧ Pw w0 w' p n (upto f a (a + M)) :=
  (TakeRun_ok S.po M a hm ha hfree hno).mono fun _ _ ⟨h, hp, hg⟩ => ⟨h, S.grown hp hg⟩
theorem Run_st_none (S : Pw w0 w p n f) (m : Int) (hm : 1 ≤ m) (hm1 : m ≤ 9223372036854775807) (hno : ∀ b : Nat, (b : Int) + m ≤ n → ∃ j : Nat, (j : Int) < m ∧ f (b + j) = true) :
    Calls Tryd.prog 14 #[.pointer (some ⟨p, 0, none⟩), .int .i64 m] w fun e w' => e = .returned (.tuple #[.int .i64 0, .int .i64 5]) ∧ Pw w0 w' p n f := by
  refine (TakeRun_none S.po m hm hm1 hno).mono ?_
  rintro e w' ⟨h, rfl⟩
  exact ⟨h, S⟩
theorem Run_st_bad (S : Pw w0 w p n f) (m : Int) (hm : m < 1) :
    Calls Tryd.prog 14 #[.pointer (some ⟨p, 0, none⟩), .int .i64 m] w fun e w' => e = .returned (.tuple #[.int .i64 0, .int .i64 1]) ∧ Pw w0 w' p n f := by
  refine (TakeRun_bad _ m w hm).mono ?_
  rintro e w' ⟨h, rfl⟩
  exact ⟨h, S⟩
theorem Taken_st (S : Pw w0 w p n f) (page : Int) :
    Calls Tryd.prog 13 #[.pointer (some ⟨p, 0, none⟩), .int .i64 page] w fun e w' => e = .returned (.bool (tak f page)) ∧ Pw w0 w' p n f := by
  refine (Taken_calls S.po page).mono ?_
  rintro e w' ⟨h, rfl⟩
  exact ⟨h, S⟩
theorem PFree_st (S : Pw w0 w p n f) :
    Calls Tryd.prog 17 #[.pointer (some ⟨p, 0, none⟩)] w fun e w' => e = .returned (.int .i64 ((n : Int) - (cnt f n : Nat))) ∧ Pw w0 w' p n f := by
  refine (PFree_calls S.po).mono ?_
  rintro e w' ⟨h, rfl⟩
  exact ⟨h, S⟩
theorem PLen_st (S : Pw w0 w p n f) :
    Calls Tryd.prog 19 #[.pointer (some ⟨p, 0, none⟩)] w fun e w' => e = .returned (.int .i64 (n : Int)) ∧ Pw w0 w' p n f := by
  refine (PLen_calls S.po).mono ?_
  rintro e w' ⟨h, rfl⟩
  exact ⟨h, S⟩
end
theorem Pw.as_ {w0 w : World} {p n : Nat} {f g : Nat → Bool} (S : Pw w0 w p n f) (h : ∀ i, f i = g i) : Pw w0 w p n g := by
  rw [show g = f from funext (fun i => (h i).symm)]
  exact S

/-- The document's example. -/
theorem shown_calls (w : World) (T : Tb w) : Calls Tryd.prog 9 #[] w fun e w' => e = .returned (.bool true) ∧ Kept w w' := by
  go_enter Tryd.func9, Tryd.ntmps9
  go_wp2_with fail
  refine (PNew_st (Kept.refl w) T 4 (by omega)).mono ?_
  rintro e w1 ⟨p, rfl, S1⟩
  go_wp2_with fail
  refine (Take_st S1 0 (by omega) rfl (fun i hi => by omega)).mono ?_
  rintro e w2 ⟨rfl, S2⟩
  go_wp2_with fail
  refine (Take_st S2 1 (by omega) rfl (fun i hi => by simp; omega)).mono ?_
  rintro e w3 ⟨rfl, S3⟩
  go_wp2_with fail
  refine (Give_st S3 0 (by omega) rfl).mono ?_
  rintro e w4 ⟨rfl, S4⟩
  go_wp2_with fail
  refine (Run_st S4 2 2 (by omega) (by omega) (fun j hj => by rcases (show j = 0 ∨ j = 1 by omega) with rfl | rfl <;> rfl) (fun b hb => by rcases (show b = 0 ∨ b = 1 by omega) with rfl | rfl; exact ⟨1, by omega, rfl⟩; exact ⟨0, by omega, rfl⟩)).mono ?_
  rintro e w5 ⟨rfl, S5⟩
  go_wp2_with fail
  refine (Take_st S5 0 (by omega) rfl (fun i hi => by omega)).mono ?_
  rintro e w6 ⟨rfl, S6⟩
  go_wp2_with fail
  refine (Take_st_full S6 (fun i hi => by rcases (show i = 0 ∨ i = 1 ∨ i = 2 ∨ i = 3 by omega) with rfl | rfl | rfl | rfl <;> rfl)).mono ?_
  rintro e w7 ⟨rfl, S7⟩
  go_wp2
  go_ret
  exact ⟨rfl, S7.kept⟩
end Go.Proofs.YtiamohjonljdnaaDoor
