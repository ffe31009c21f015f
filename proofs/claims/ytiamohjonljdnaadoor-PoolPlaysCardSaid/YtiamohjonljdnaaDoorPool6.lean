/- What a pool answers, whatever it holds: the cases. -/
import Derived.Test.YtiamohjonljdnaaDoorPool5
import Derived.Test.YtiamohjonljdnaaDoorPost
import Derived.Test.YtiamohjonljdnaaDoorCol
set_option linter.unusedVariables false
set_option linter.unusedSimpArgs false
namespace Go.Proofs.YtiamohjonljdnaaDoor
open Go.RowKit

theorem least_of (P : Nat → Prop) : ∀ k, (∀ b, b < k → ¬ P b) ∨ ∃ a, a < k ∧ P a ∧ ∀ b, b < a → ¬ P b
  | 0 => .inl (fun b h => absurd h (by omega))
  | k + 1 => by
    rcases least_of P k with h | ⟨a, ha, h1, h2⟩
    · by_cases hp : P k
      · exact .inr ⟨k, by omega, hp, h⟩
      · exact .inl (fun b hb => by
          rcases Nat.lt_or_ge b k with hlt | hge
          · exact h b hlt
          · obtain rfl : b = k := by omega
            exact hp)
    · exact .inr ⟨a, by omega, h1, h2⟩
theorem not_free {f : Nat → Bool} {b M : Nat} (h : ¬ ∀ j, j < M → f (b + j) = false) : ∃ j, j < M ∧ f (b + j) = true := by
  apply Classical.byContradiction
  intro hno
  exact h (fun j hj => by
    cases hf : f (b + j)
    · rfl
    · exact absurd ⟨j, hj, hf⟩ hno)
/-- No run of M is free, or there is a lowest one. -/
theorem run_or (f : Nat → Bool) (n M : Nat) : (∀ b, b + M ≤ n → ∃ j, j < M ∧ f (b + j) = true) ∨ ∃ a, a + M ≤ n ∧ (∀ j, j < M → f (a + j) = false) ∧ ∀ b, b < a → ∃ j, j < M ∧ f (b + j) = true := by
  rcases least_of (fun a => a + M ≤ n ∧ ∀ j, j < M → f (a + j) = false) (n + 1) with h | ⟨a, ha, ⟨h1, h2⟩, h3⟩
  · exact .inl (fun b hb => not_free (fun hh => h b (by omega) ⟨hb, hh⟩))
  · exact .inr ⟨a, h1, h2, fun b hb => not_free (fun hh => h3 b hb ⟨by omega, hh⟩)⟩

section
variable {w0 w : World} {p n : Nat} {f : Nat → Bool}
theorem Take_any (S : Pw w0 w p n f) :
    Calls Tryd.prog 11 #[.pointer (some ⟨p, 0, none⟩)] w fun e w' => ∃ (a m : Int) (g : Nat → Bool), e = .returned (.tuple #[.int .i64 a, .int .i64 m]) ∧ Pw w0 w' p n g := by
  rcases least_or f n with h | ⟨a, ha, h1, h2⟩
  · exact (Take_st_full S h).mono fun _ _ ⟨h, hp⟩ => ⟨_, _, _, h, hp⟩
  · exact (Take_st S a ha h1 h2).mono fun _ _ ⟨h, hp⟩ => ⟨_, _, _, h, hp⟩
theorem Run_any (S : Pw w0 w p n f) (m : Int) (hm : m ≤ 9223372036854775807) :
    Calls Tryd.prog 14 #[.pointer (some ⟨p, 0, none⟩), .int .i64 m] w fun e w' => ∃ (a c : Int) (g : Nat → Bool), e = .returned (.tuple #[.int .i64 a, .int .i64 c]) ∧ Pw w0 w' p n g := by
  by_cases h1 : m < 1
  · exact (Run_st_bad S m h1).mono fun _ _ ⟨h, hp⟩ => ⟨_, _, _, h, hp⟩
  · obtain ⟨M, rfl⟩ := Int.eq_ofNat_of_zero_le (show 0 ≤ m by omega)
    rcases run_or f n M with h | ⟨a, ha, h2, h3⟩
    · exact (Run_st_none S M (by omega) hm (fun b hb => by obtain ⟨j, h4, h5⟩ := h b (by omega); exact ⟨j, by omega, h5⟩)).mono fun _ _ ⟨h, hp⟩ => ⟨_, _, _, h, hp⟩
    · exact (Run_st S M a (by omega) ha h2 h3).mono fun _ _ ⟨h, hp⟩ => ⟨_, _, _, h, hp⟩
theorem Give_any (S : Pw w0 w p n f) (page : Int) :
    Calls Tryd.prog 12 #[.pointer (some ⟨p, 0, none⟩), .int .i64 page] w fun e w' => ∃ (c : Int) (g : Nat → Bool), e = .returned (.int .i64 c) ∧ Pw w0 w' p n g := by
  by_cases h1 : page < 0 ∨ n ≤ page
  · exact (Give_st_bad S page h1).mono fun _ _ ⟨h, hp⟩ => ⟨_, _, h, hp⟩
  · obtain ⟨P, rfl⟩ := Int.eq_ofNat_of_zero_le (show 0 ≤ page by omega)
    cases hf : f P
    · exact (Give_st_none S P (by omega) hf).mono fun _ _ ⟨h, hp⟩ => ⟨_, _, h, hp⟩
    · exact (Give_st S P (by omega) hf).mono fun _ _ ⟨h, hp⟩ => ⟨_, _, h, hp⟩
end

/-- The deeds, column by column. -/
structure Deeds (w : World) (A : Option Addr) (len : Nat) (fk fn : Nat → Int) : Prop where
  k : ColI w A len 2 0 .i64 fk
  n : ColI w A len 2 1 .i64 fn
theorem Deeds.below {w w1 : World} {A : Option Addr} {len : Nat} {fk fn : Nat → Int} (h : Deeds w A len fk fn) (hb : Below w.heap.size w w1) : Deeds w1 A len fk fn := ⟨h.k.below hb, h.n.below hb⟩
theorem add_of_add (a : Addr) (i j : Nat) : (a.add i).add j = a.add (i + j) := by
  unfold Addr.add
  by_cases hi : i = 0 <;> by_cases hj : j = 0 <;> simp [hi, hj, Nat.add_assoc]
theorem add_none (a : Addr) : a.add 0 = a := rfl
theorem add_some (a : Addr) (j : Nat) : a.add (j + 1) = ⟨a.block, a.off + (j + 1), none⟩ := rfl
theorem Deeds.at_ {w : World} {A : Option Addr} {len : Nat} {fk fn : Nat → Int} (h : Deeds w A len fk fn) (i : Nat) (hi : i < len) :
    ∃ ad : Addr, A = some ad ∧ w.cell? (ad.add (i * 2)) = some (.int .i64 (fk i)) ∧ w.cell? ⟨(ad.add (i * 2)).block, (ad.add (i * 2)).off + 1, none⟩ = some (.int .i64 (fn i)) ∧ fn i ≤ 9223372036854775807 := by
  obtain ⟨ad, rfl, hadl, hck, hwk⟩ := h.k i hi
  obtain ⟨ad', ead, _, hcn, hwn⟩ := h.n i hi
  obtain rfl : ad = ad' := by injection ead
  rw [← add_of_add] at hck hcn
  rw [add_none] at hck
  rw [add_some] at hcn
  exact ⟨ad, rfl, hck, hcn, (bd_i64 hwn).2⟩
end Go.Proofs.YtiamohjonljdnaaDoor
