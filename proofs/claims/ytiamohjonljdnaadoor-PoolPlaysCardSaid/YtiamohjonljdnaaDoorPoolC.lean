/- Plain: the bits of a word of 64, counted by halves. -/
import Derived.Test.YtiamohjonljdnaaDoorPoolM
set_option linter.unusedVariables false
set_option linter.unusedSimpArgs false
namespace Go.Proofs.YtiamohjonljdnaaDoor

/-- A mask: n bytes, each m. -/
def msk (m : Nat) : Nat → Nat
  | 0 => 0
  | n + 1 => 256 * msk m n + m

theorem and_low (x m q : Nat) (hm : m < 256) : x &&& (256 * q + m) = 256 * (x / 256 &&& q) + (x % 256 &&& m) := by
  have h1 : (x &&& (256 * q + m)) % 2 ^ 8 = (x % 2 ^ 8) &&& ((256 * q + m) % 2 ^ 8) := Nat.and_mod_two_pow
  have h2 : (x &&& (256 * q + m)) / 2 ^ 8 = (x / 2 ^ 8) &&& ((256 * q + m) / 2 ^ 8) := Nat.and_div_two_pow
  have e1 : (256 * q + m) % 2 ^ 8 = m := by omega
  have e2 : (256 * q + m) / 2 ^ 8 = q := by omega
  rw [e1] at h1
  rw [e2] at h2
  have h3 := Nat.div_add_mod (x &&& (256 * q + m)) (2 ^ 8)
  rw [h1, h2] at h3
  exact h3.symm

/-- The first two steps, and the third one, on a number of n bytes. -/
def s1 (n x : Nat) : Nat := (x / 2 &&& msk 85 n) + (x &&& msk 85 n)
def s2 (n x : Nat) : Nat := (x / 4 &&& msk 51 n) + (x &&& msk 51 n)
def s3 (n x : Nat) : Nat := (x / 16 + x) &&& msk 15 n

theorem byte1 : ∀ a, a < 256 → ∀ c, c < 2 → (a / 2 + 128 * c) &&& 85 = a / 2 &&& 85 := by decide +kernel
theorem byte2 : ∀ a, a < 256 → ∀ c, c < 4 → (a / 4 + 64 * c) &&& 51 = a / 4 &&& 51 := by decide +kernel
theorem byte3 : ∀ a, a < 69 → ∀ c, c < 5 → (a / 16 + 16 * c + a) &&& 15 = (a / 16 + a) &&& 15 := by decide +kernel

theorem s1_step (n x : Nat) : s1 (n + 1) x = 256 * s1 n (x / 256) + s1 1 (x % 256) := by
  unfold s1
  show (x / 2 &&& (256 * msk 85 n + 85)) + (x &&& (256 * msk 85 n + 85)) = _
  have e0 : msk 85 1 = 85 := rfl
  rw [and_low _ _ _ (by omega), and_low x _ _ (by omega), e0]
  have h1 : x / 2 / 256 = x / 256 / 2 := by omega
  have h2 : x / 2 % 256 = x % 256 / 2 + 128 * (x / 256 % 2) := by omega
  rw [h1, h2, byte1 _ (by omega) _ (by omega)]
  omega
theorem s2_step (n x : Nat) : s2 (n + 1) x = 256 * s2 n (x / 256) + s2 1 (x % 256) := by
  unfold s2
  show (x / 4 &&& (256 * msk 51 n + 51)) + (x &&& (256 * msk 51 n + 51)) = _
  have e0 : msk 51 1 = 51 := rfl
  rw [and_low _ _ _ (by omega), and_low x _ _ (by omega), e0]
  have h1 : x / 4 / 256 = x / 256 / 4 := by omega
  have h2 : x / 4 % 256 = x % 256 / 4 + 64 * (x / 256 % 4) := by omega
  rw [h1, h2, byte2 _ (by omega) _ (by omega)]
  omega
/-- No byte runs over: each half byte is at most 4 behind the second step. -/
theorem s3_step (n x : Nat) (h : x % 256 < 69) (h2 : x / 256 % 16 < 5) : s3 (n + 1) x = 256 * s3 n (x / 256) + s3 1 (x % 256) := by
  unfold s3
  show (x / 16 + x) &&& (256 * msk 15 n + 15) = _
  have e0 : msk 15 1 = 15 := rfl
  rw [and_low _ _ _ (by omega), e0]
  have e1 : (x / 16 + x) / 256 = x / 256 / 16 + x / 256 := by omega
  have e2 : (x / 16 + x) % 256 = x % 256 / 16 + 16 * (x / 256 % 16) + x % 256 := by omega
  rw [e1, e2, byte3 _ h _ h2]

/-- The three steps. -/
def T (n x : Nat) : Nat := s3 n (s2 n (s1 n x))
theorem b1 : ∀ a, a < 256 → s1 1 a < 256 := by decide +kernel
theorem b2 : ∀ a, a < 256 → s2 1 (s1 1 a) < 69 ∧ s2 1 (s1 1 a) % 16 < 5 := by decide +kernel
theorem b3 : ∀ a, a < 256 → T 1 a = cnt (fun i => a.testBit i) 8 := by decide +kernel
theorem b4 : ∀ a, a < 256 → T 1 a ≤ 8 := by decide +kernel

theorem T_step (n x : Nat) : T (n + 1) x = 256 * T n (x / 256) + T 1 (x % 256) := by
  unfold T
  have hx : x % 256 < 256 := by omega
  have y1 := b1 _ hx
  have z1 := b2 _ hx
  rw [s1_step]
  generalize hy : s1 1 (x % 256) = a at *
  have e1 : (256 * s1 n (x / 256) + a) / 256 = s1 n (x / 256) := by omega
  have e2 : (256 * s1 n (x / 256) + a) % 256 = a := by omega
  rw [s2_step, e1, e2]
  generalize hz : s2 1 a = b at *
  have f1 : (256 * s2 n (s1 n (x / 256)) + b) / 256 = s2 n (s1 n (x / 256)) := by omega
  have f2 : (256 * s2 n (s1 n (x / 256)) + b) % 256 = b := by omega
  have hn : s2 n (s1 n (x / 256)) % 16 < 5 := by
    cases n with
    | zero => unfold s2 msk; simp
    | succ n =>
      have hx' : x / 256 % 256 < 256 := by omega
      have z2 := b2 _ hx'
      have y2 := b1 _ hx'
      rw [s1_step]
      generalize s1 1 (x / 256 % 256) = a' at *
      have g1 : (256 * s1 n (x / 256 / 256) + a') / 256 = s1 n (x / 256 / 256) := by omega
      have g2 : (256 * s1 n (x / 256 / 256) + a') % 256 = a' := by omega
      rw [s2_step, g1, g2]
      omega
  rw [s3_step _ _ (by omega) (by rw [f1]; exact hn), f1, f2]

theorem s1_bd (x : Nat) : ∀ n, 255 * s1 n x + 170 ≤ 170 * 256 ^ n
  | 0 => by simp [s1, msk]
  | n + 1 => by
    have h := s1_bd (x / 256) n
    have hb : ∀ a, a < 256 → s1 1 a ≤ 170 := by decide +kernel
    have := hb (x % 256) (by omega)
    rw [s1_step, Nat.pow_succ]
    omega
theorem s2_bd (x : Nat) : ∀ n, 255 * s2 n x + 102 ≤ 102 * 256 ^ n
  | 0 => by simp [s2, msk]
  | n + 1 => by
    have h := s2_bd (x / 256) n
    have hb : ∀ a, a < 256 → s2 1 a ≤ 102 := by decide +kernel
    have := hb (x % 256) (by omega)
    rw [s2_step, Nat.pow_succ]
    omega
theorem s1_lt (x : Nat) : s1 8 x < 18446744073709551616 := by have := s1_bd x 8; omega
theorem s2_lt (x : Nat) : s2 8 x + s2 8 x / 16 < 18446744073709551616 := by have := s2_bd x 8; omega

theorem cnt_bytes (x : Nat) (n : Nat) : cnt (fun i => x.testBit i) (8 + 8 * n) = T 1 (x % 256) + cnt (fun i => (x / 256).testBit i) (8 * n) := by
  rw [cnt_add, b3 _ (by omega)]
  congr 1
  · apply cnt_congr
    intro i hi
    have := Nat.testBit_mod_two_pow x 8 i
    rw [show (2 : Nat) ^ 8 = 256 from rfl] at this
    rw [this]
    simp [hi]
  · apply cnt_congr
    intro i hi
    have := Nat.testBit_div_two_pow (n := 8) x i
    rw [show (2 : Nat) ^ 8 = 256 from rfl] at this
    rw [this, Nat.add_comm]

theorem div_low (b x y : Nat) (h : x < b) : (x + b * y) / b = y := by rw [Nat.add_mul_div_left _ _ (by omega), Nat.div_eq_of_lt h, Nat.zero_add]
theorem mod_low (b x y : Nat) (h : x < b) : (x + b * y) % b = x := by rw [Nat.add_mul_mod_self_left, Nat.mod_eq_of_lt h]

theorem lin_u (t0 t1 t2 t3 t4 t5 t6 t7 : Nat) : 256 * (256 * (256 * (256 * (256 * (256 * (256 * (256 * 0 + t7) + t6) + t5) + t4) + t3) + t2) + t1) + t0 = t0 + 256 * (t1 + 256 * t2 + 65536 * t3 + 16777216 * t4 + 4294967296 * t5 + 1099511627776 * t6 + 281474976710656 * t7) := by omega
theorem lin_v (t0 t1 t2 t3 t4 t5 t6 t7 : Nat) : t0 + 256 * (t1 + 256 * t2 + 65536 * t3 + 16777216 * t4 + 4294967296 * t5 + 1099511627776 * t6 + 281474976710656 * t7) + (t1 + 256 * t2 + 65536 * t3 + 16777216 * t4 + 4294967296 * t5 + 1099511627776 * t6 + 281474976710656 * t7) = ((t0 + t1) + 256 * (t1 + t2)) + 65536 * ((t2 + t3) + 256 * (t3 + t4) + 65536 * (t4 + t5) + 16777216 * (t5 + t6) + 4294967296 * (t6 + t7) + 1099511627776 * t7) := by omega
theorem lin_p (t0 t1 t2 t3 t4 t5 t6 t7 : Nat) : ((t0 + t1) + 256 * (t1 + t2)) + 65536 * ((t2 + t3) + 256 * (t3 + t4) + 65536 * (t4 + t5) + 16777216 * (t5 + t6) + 4294967296 * (t6 + t7) + 1099511627776 * t7) + ((t2 + t3) + 256 * (t3 + t4) + 65536 * (t4 + t5) + 16777216 * (t5 + t6) + 4294967296 * (t6 + t7) + 1099511627776 * t7) = ((t0 + t1 + t2 + t3) + 256 * (t1 + t2 + t3 + t4) + 65536 * (t2 + t3 + t4 + t5) + 16777216 * (t3 + t4 + t5 + t6)) + 4294967296 * ((t4 + t5 + t6 + t7) + 256 * (t5 + t6 + t7) + 65536 * (t6 + t7) + 16777216 * t7) := by omega
theorem lin_q (t0 t1 t2 t3 t4 t5 t6 t7 : Nat) : ((t0 + t1 + t2 + t3) + 256 * (t1 + t2 + t3 + t4) + 65536 * (t2 + t3 + t4 + t5) + 16777216 * (t3 + t4 + t5 + t6)) + 4294967296 * ((t4 + t5 + t6 + t7) + 256 * (t5 + t6 + t7) + 65536 * (t6 + t7) + 16777216 * t7) + ((t4 + t5 + t6 + t7) + 256 * (t5 + t6 + t7) + 65536 * (t6 + t7) + 16777216 * t7) = (t0 + t1 + t2 + t3 + t4 + t5 + t6 + t7) + 128 * (2 * ((t1 + t2 + t3 + t4 + t5 + t6 + t7) + 256 * (t2 + t3 + t4 + t5 + t6 + t7) + 65536 * (t3 + t4 + t5 + t6 + t7) + 16777216 * (t4 + t5 + t6 + t7) + 4294967296 * (t5 + t6 + t7) + 1099511627776 * (t6 + t7) + 281474976710656 * t7)) := by omega
theorem bd_q (t0 t1 t2 t3 t4 t5 t6 t7 : Nat) (h0 : t0 ≤ 8) (h1 : t1 ≤ 8) (h2 : t2 ≤ 8) (h3 : t3 ≤ 8) (h4 : t4 ≤ 8) (h5 : t5 ≤ 8) (h6 : t6 ≤ 8) (h7 : t7 ≤ 8) : (t0 + t1 + t2 + t3 + t4 + t5 + t6 + t7) + 128 * (2 * ((t1 + t2 + t3 + t4 + t5 + t6 + t7) + 256 * (t2 + t3 + t4 + t5 + t6 + t7) + 65536 * (t3 + t4 + t5 + t6 + t7) + 16777216 * (t4 + t5 + t6 + t7) + 4294967296 * (t5 + t6 + t7) + 1099511627776 * (t6 + t7) + 281474976710656 * t7)) < 9223372036854775808 := by omega
theorem lt_low (x y : Nat) (h : x + y < 9223372036854775808) : x < 9223372036854775808 := by omega

theorem fold8 (t0 t1 t2 t3 t4 t5 t6 t7 : Nat) (h0 : t0 ≤ 8) (h1 : t1 ≤ 8) (h2 : t2 ≤ 8) (h3 : t3 ≤ 8) (h4 : t4 ≤ 8) (h5 : t5 ≤ 8) (h6 : t6 ≤ 8) (h7 : t7 ≤ 8) (u v p q : Nat)
    (hu : u = 256 * (256 * (256 * (256 * (256 * (256 * (256 * (256 * 0 + t7) + t6) + t5) + t4) + t3) + t2) + t1) + t0) (hv : v = u + u / 256) (hp : p = v + v / 65536) (hq : q = p + p / 4294967296) :
    q % 128 = t0 + t1 + t2 + t3 + t4 + t5 + t6 + t7 ∧ u < 9223372036854775808 ∧ v < 9223372036854775808 ∧ p < 9223372036854775808 ∧ q < 9223372036854775808 := by
  have b1 : t0 < 256 := Nat.lt_of_le_of_lt h0 (by decide)
  have b2 : (t0 + t1) + 256 * (t1 + t2) < 65536 := by clear hu hv hp hq; omega
  have b3 : (t0 + t1 + t2 + t3) + 256 * (t1 + t2 + t3 + t4) + 65536 * (t2 + t3 + t4 + t5) + 16777216 * (t3 + t4 + t5 + t6) < 4294967296 := by clear hu hv hp hq; omega
  have b4 : t0 + t1 + t2 + t3 + t4 + t5 + t6 + t7 < 128 := by clear hu hv hp hq; omega
  have bq := bd_q t0 t1 t2 t3 t4 t5 t6 t7 h0 h1 h2 h3 h4 h5 h6 h7
  rw [lin_u] at hu
  have hv' := hv
  have hp' := hp
  have hq' := hq
  rw [hu, div_low 256 _ _ b1, lin_v] at hv
  rw [hv, div_low 65536 _ _ b2, lin_p] at hp
  rw [hp, div_low 4294967296 _ _ b3, lin_q] at hq
  refine ⟨?_, ?_⟩
  · rw [hq]
    exact mod_low 128 _ _ b4
  · rw [← hq] at bq
    clear hu hv hp hq b1 b2 b3 b4 h0 h1 h2 h3 h4 h5 h6 h7
    have q1 : p < 9223372036854775808 := lt_low p _ (by rw [← hq']; exact bq)
    have q2 : v < 9223372036854775808 := lt_low v _ (by rw [← hp']; exact q1)
    have q3 : u < 9223372036854775808 := lt_low u _ (by rw [← hv']; exact q2)
    exact ⟨q3, q2, q1, bq⟩

theorem T8 (x : Nat) (hx : x < 18446744073709551616) (v p q : Nat) (hv : v = T 8 x + T 8 x / 256) (hp : p = v + v / 65536) (hq : q = p + p / 4294967296) :
    q % 128 = cnt (fun i => x.testBit i) 64 ∧ T 8 x < 9223372036854775808 ∧ v < 9223372036854775808 ∧ p < 9223372036854775808 ∧ q < 9223372036854775808 := by
  have hz : T 0 (x / 256 / 256 / 256 / 256 / 256 / 256 / 256 / 256) = 0 := by simp [T, s3, msk]
  have hT : T 8 x = 256 * (256 * (256 * (256 * (256 * (256 * (256 * (256 * 0 + T 1 (x / 256 / 256 / 256 / 256 / 256 / 256 / 256 % 256)) + T 1 (x / 256 / 256 / 256 / 256 / 256 / 256 % 256)) + T 1 (x / 256 / 256 / 256 / 256 / 256 % 256)) + T 1 (x / 256 / 256 / 256 / 256 % 256)) + T 1 (x / 256 / 256 / 256 % 256)) + T 1 (x / 256 / 256 % 256)) + T 1 (x / 256 % 256)) + T 1 (x % 256) := by
    rw [T_step, T_step, T_step, T_step, T_step, T_step, T_step, T_step, hz]
  have hc : cnt (fun i => x.testBit i) 64 = T 1 (x % 256) + (T 1 (x / 256 % 256) + (T 1 (x / 256 / 256 % 256) + (T 1 (x / 256 / 256 / 256 % 256) + (T 1 (x / 256 / 256 / 256 / 256 % 256) + (T 1 (x / 256 / 256 / 256 / 256 / 256 % 256) + (T 1 (x / 256 / 256 / 256 / 256 / 256 / 256 % 256) + (T 1 (x / 256 / 256 / 256 / 256 / 256 / 256 / 256 % 256) + 0))))))) := by
    have k7 := cnt_bytes x 7
    have k6 := cnt_bytes (x / 256) 6
    have k5 := cnt_bytes (x / 256 / 256) 5
    have k4 := cnt_bytes (x / 256 / 256 / 256) 4
    have k3 := cnt_bytes (x / 256 / 256 / 256 / 256) 3
    have k2 := cnt_bytes (x / 256 / 256 / 256 / 256 / 256) 2
    have k1 := cnt_bytes (x / 256 / 256 / 256 / 256 / 256 / 256) 1
    have k0 := cnt_bytes (x / 256 / 256 / 256 / 256 / 256 / 256 / 256) 0
    have z : cnt (fun i => (x / 256 / 256 / 256 / 256 / 256 / 256 / 256 / 256).testBit i) (8 * 0) = 0 := rfl
    rw [z] at k0
    rw [show (64 : Nat) = 8 + 8 * 7 from rfl, k7, show 8 * 7 = 8 + 8 * 6 from rfl, k6, show 8 * 6 = 8 + 8 * 5 from rfl, k5, show 8 * 5 = 8 + 8 * 4 from rfl, k4, show 8 * 4 = 8 + 8 * 3 from rfl, k3, show 8 * 3 = 8 + 8 * 2 from rfl, k2, show 8 * 2 = 8 + 8 * 1 from rfl, k1, show 8 * 1 = 8 + 8 * 0 from rfl, k0]
  have := fold8 _ _ _ _ _ _ _ _ (b4 (x % 256) (by omega)) (b4 (x / 256 % 256) (by omega)) (b4 (x / 256 / 256 % 256) (by omega)) (b4 (x / 256 / 256 / 256 % 256) (by omega)) (b4 (x / 256 / 256 / 256 / 256 % 256) (by omega)) (b4 (x / 256 / 256 / 256 / 256 / 256 % 256) (by omega)) (b4 (x / 256 / 256 / 256 / 256 / 256 / 256 % 256) (by omega)) (b4 (x / 256 / 256 / 256 / 256 / 256 / 256 / 256 % 256) (by omega)) (T 8 x) v p q hT hv hp hq
  rw [hc]
  refine ⟨?_, this.2⟩
  have h1 := this.1
  omega
end Go.Proofs.YtiamohjonljdnaaDoor
