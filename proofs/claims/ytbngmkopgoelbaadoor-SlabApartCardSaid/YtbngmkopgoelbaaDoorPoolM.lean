/- Plain: a word of 64 bits as a set; its lowest free bit; how many bits it has. -/
import Derived.Lib.TrailingZeros
set_option linter.unusedVariables false
set_option linter.unusedSimpArgs false
namespace Go.Proofs.YtbngmkopgoelbaaDoor

/-- The word whose first k bits are g's. -/
def wd (g : Nat → Bool) : Nat → Nat
  | 0 => 0
  | k + 1 => wd g k + (if g k then 2 ^ k else 0)

theorem wd_lt (g : Nat → Bool) : ∀ k, wd g k < 2 ^ k
  | 0 => by simp [wd]
  | k + 1 => by
    have := wd_lt g k
    unfold wd
    rw [Nat.pow_succ]
    split <;> omega
theorem wd_lt64 (g : Nat → Bool) : wd g 64 < 18446744073709551616 := wd_lt g 64

theorem wd_bit (g : Nat → Bool) (i : Nat) : ∀ k, (wd g k).testBit i = (decide (i < k) && g i)
  | 0 => by simp [wd]
  | k + 1 => by
    unfold wd
    have hl := wd_lt g k
    have ih := wd_bit g i k
    by_cases hg : g k
    · rw [if_pos hg, Nat.add_comm]
      by_cases hi : i = k
      · subst hi
        rw [Nat.testBit_two_pow_add_eq, ih]
        simp [hg]
      · by_cases hlt : i < k
        · rw [Nat.testBit_two_pow_add_gt hlt, ih]
          simp [hlt, Nat.lt_succ_of_lt hlt]
        · have hk : k + 1 ≤ i := by omega
          have h2 : 2 ^ k + wd g k < 2 ^ i := by
            have : 2 ^ (k + 1) ≤ 2 ^ i := Nat.pow_le_pow_right (by omega) hk
            rw [Nat.pow_succ] at this
            omega
          rw [Nat.testBit_lt_two_pow h2]
          simp
          omega
    · rw [if_neg hg, Nat.add_zero, ih]
      by_cases hi : i = k
      · subst hi
        simp [hg]
      · have : (i < k + 1) ↔ i < k := by omega
        simp [this]

theorem wd_congr (g h : Nat → Bool) : ∀ k, (∀ i, i < k → g i = h i) → wd g k = wd h k
  | 0, _ => rfl
  | k + 1, e => by
    unfold wd
    rw [wd_congr g h k (fun i hi => e i (by omega)), e k (by omega)]

/-- One bit set. -/
theorem wd_or (g : Nat → Bool) (r : Nat) (hr : r < 64) : wd g 64 ||| 2 ^ r = wd (fun i => g i || i == r) 64 := by
  apply Nat.eq_of_testBit_eq
  intro i
  rw [Nat.testBit_or, wd_bit, wd_bit, Nat.testBit_two_pow]
  by_cases h : i = r
  · subst h; simp [hr]
  · have h1 : ¬ r = i := fun e => h e.symm
    have h2 : (i == r) = false := beq_eq_false_iff_ne.2 h
    simp [h1, h2]
/-- One bit cleared. -/
theorem wd_andNot (g : Nat → Bool) (r : Nat) (hr : r < 64) : wd g 64 &&& (18446744073709551615 - 2 ^ r) = wd (fun i => g i && !(i == r)) 64 := by
  apply Nat.eq_of_testBit_eq
  intro i
  have e : 18446744073709551615 - 2 ^ r = 2 ^ 64 - (2 ^ r + 1) := by omega
  have hp : 2 ^ r < 2 ^ 64 := Nat.pow_lt_pow_right (by omega) hr
  rw [Nat.testBit_and, wd_bit, wd_bit, e, Nat.testBit_two_pow_sub_succ hp, Nat.testBit_two_pow]
  by_cases h : i = r
  · subst h; simp
  · have h1 : ¬ r = i := fun e => h e.symm
    have h2 : (i == r) = false := beq_eq_false_iff_ne.2 h
    by_cases hi : i < 64 <;> simp [h1, h2, hi]
/-- One bit asked. -/
theorem wd_ask (g : Nat → Bool) (r : Nat) (hr : r < 64) : wd g 64 / 2 ^ r % 2 = if g r then 1 else 0 := by
  have := Nat.toNat_testBit (wd g 64) r
  rw [← this, wd_bit]
  simp [hr]
  cases g r <;> rfl

/-- The word turned about. -/
theorem wd_not_bit (g : Nat → Bool) (i : Nat) : (18446744073709551615 - wd g 64).testBit i = (decide (i < 64) && !(g i)) := by
  have e : 18446744073709551615 - wd g 64 = 2 ^ 64 - (wd g 64 + 1) := by omega
  rw [e, Nat.testBit_two_pow_sub_succ (wd_lt g 64), wd_bit]
  by_cases h : i < 64 <;> simp [h]
theorem wd_full (g : Nat → Bool) (h : ∀ i, i < 64 → g i = true) : wd g 64 = 18446744073709551615 := by
  rw [wd_congr g (fun _ => true) 64 h]
  decide
theorem wd_not_ne (g : Nat → Bool) (a : Nat) (ha : a < 64) (h : g a = false) : 18446744073709551615 - wd g 64 ≠ 0 := by
  intro e
  have := wd_not_bit g a
  rw [e, h] at this
  simp [ha] at this
theorem ctz_bit (c m i : Nat) (hi : i < c) : (2 ^ c * (2 * m + 1)).testBit i = false := by
  rw [Nat.testBit_two_pow_mul]
  simp
  omega
theorem ctz_bit_at (c m : Nat) : (2 ^ c * (2 * m + 1)).testBit c = true := by
  rw [Nat.testBit_two_pow_mul]
  simp
/-- Its lowest bit is the lowest free one. -/
theorem wd_ctz (g : Nat → Bool) (a : Nat) (ha : a < 64) (h : g a = false) (hl : ∀ i, i < a → g i = true) : Lib.ctz 64 (18446744073709551615 - wd g 64) = a := by
  have hne := wd_not_ne g a ha h
  have hlt : 18446744073709551615 - wd g 64 < 2 ^ 64 := by omega
  obtain ⟨m, hm, hc⟩ := Lib.ctzFrom_spec 64 _ (Nat.pos_of_ne_zero hne) hlt
  have e : Lib.ctz 64 (18446744073709551615 - wd g 64) = Lib.ctzFrom 64 (18446744073709551615 - wd g 64) := by unfold Lib.ctz; rw [if_neg hne]
  rw [e]
  generalize hcc : Lib.ctzFrom 64 (18446744073709551615 - wd g 64) = c at *
  rcases Nat.lt_trichotomy c a with hlt' | heq | hgt
  · have h1 := wd_not_bit g c
    rw [hm, ctz_bit_at, hl c hlt'] at h1
    simp at h1
  · exact heq
  · have h1 := wd_not_bit g a
    rw [hm, ctz_bit c m a hgt, h] at h1
    simp [ha] at h1

/-- How many of the first k are. -/
def cnt (f : Nat → Bool) : Nat → Nat
  | 0 => 0
  | k + 1 => cnt f k + (if f k then 1 else 0)
theorem cnt_le (f : Nat → Bool) : ∀ k, cnt f k ≤ k
  | 0 => Nat.le_refl _
  | k + 1 => by have := cnt_le f k; unfold cnt; split <;> omega
theorem cnt_congr (f g : Nat → Bool) : ∀ k, (∀ i, i < k → f i = g i) → cnt f k = cnt g k
  | 0, _ => rfl
  | k + 1, h => by unfold cnt; rw [cnt_congr f g k (fun i hi => h i (by omega)), h k (by omega)]
theorem cnt_add (f : Nat → Bool) (a : Nat) : ∀ b, cnt f (a + b) = cnt f a + cnt (fun i => f (a + i)) b
  | 0 => rfl
  | b + 1 => by
    show cnt f (a + b) + (if f (a + b) then 1 else 0) = cnt f a + (cnt (fun i => f (a + i)) b + (if f (a + b) then 1 else 0))
    rw [cnt_add f a b]
    omega
theorem cnt_beyond (f : Nat → Bool) (n : Nat) (h : ∀ i, n ≤ i → f i = false) (m : Nat) (hm : n ≤ m) : cnt f m = cnt f n := by
  obtain ⟨d, rfl⟩ := Nat.le.dest hm
  rw [cnt_add]
  have : ∀ d, cnt (fun i => f (n + i)) d = 0 := by
    intro d
    induction d with
    | zero => rfl
    | succ d ih => unfold cnt; rw [ih, h _ (by omega)]; rfl
  rw [this]
  rfl
theorem cnt_all (f : Nat → Bool) (n : Nat) (h : ∀ i, i < n → f i = true) : cnt f n = n := by
  rw [cnt_congr f (fun _ => true) n h]
  induction n with
  | zero => rfl
  | succ n ih => unfold cnt; rw [ih (fun i hi => h i (by omega))]; rfl
theorem cnt_set (f : Nat → Bool) (a : Nat) (h : f a = false) : ∀ n, a < n → cnt (fun i => f i || i == a) n = cnt f n + 1
  | 0, ha => absurd ha (by omega)
  | n + 1, ha => by
    unfold cnt
    by_cases e : a = n
    · subst e
      rw [cnt_congr (fun i => f i || i == a) f a (fun i hi => by have : (i == a) = false := beq_eq_false_iff_ne.2 (by omega); simp [this]), h]
      simp
    · have : (n == a) = false := beq_eq_false_iff_ne.2 (by omega)
      rw [cnt_set f a h n (by omega), this, Bool.or_false]
      omega
theorem cnt_clear (f : Nat → Bool) (a : Nat) (h : f a = true) : ∀ n, a < n → cnt (fun i => f i && !(i == a)) n + 1 = cnt f n
  | 0, ha => absurd ha (by omega)
  | n + 1, ha => by
    unfold cnt
    by_cases e : a = n
    · subst e
      rw [cnt_congr (fun i => f i && !(i == a)) f a (fun i hi => by have : (i == a) = false := beq_eq_false_iff_ne.2 (by omega); simp [this]), h]
      simp
    · have : (n == a) = false := beq_eq_false_iff_ne.2 (by omega)
      have ih := cnt_clear f a h n (by omega)
      rw [this, Bool.not_false, Bool.and_true]
      omega

/-- The least one that isn't, or all are. -/
theorem least_or (f : Nat → Bool) : ∀ n, (∀ i, i < n → f i = true) ∨ ∃ a, a < n ∧ f a = false ∧ ∀ i, i < a → f i = true
  | 0 => .inl (fun i hi => absurd hi (by omega))
  | n + 1 => by
    rcases least_or f n with h | ⟨a, ha, h1, h2⟩
    · cases hf : f n
      · exact .inr ⟨n, by omega, hf, h⟩
      · refine .inl (fun i hi => ?_)
        by_cases e : i = n
        · rw [e, hf]
        · exact h i (by omega)
    · exact .inr ⟨a, by omega, h1, h2⟩
end Go.Proofs.YtbngmkopgoelbaaDoor
