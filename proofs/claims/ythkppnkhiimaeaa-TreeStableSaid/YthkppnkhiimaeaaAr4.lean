/- The arena (layer 1): each function's answer at whatever is asked; plain lemmas on bytes. -/
import Derived.Test.YthkppnkhiimaeaaAr3
set_option linter.unusedVariables false
set_option linter.unusedSimpArgs false
namespace Go.Proofs.Ythkppnkhiimaeaa
open Go.RowKit

/-- The error of a number of so many bytes at a place. -/
def nErr (n at_ wd : Int) : Int := if WOk wd then (if at_ < 0 ∨ n - wd < at_ then 4 else 0) else 1
/-- The error of so many bytes at a place. -/
def rErr (n at_ m : Int) : Int := if m < 0 then 1 else if at_ < 0 ∨ n - m < at_ then 4 else 0
def ldA (bs : List Int) (at_ wd : Int) : Int := if nErr bs.length at_ wd = 0 then ldv bs at_.toNat wd.toNat else 0
def stA (bs : List Int) (at_ wd v : Int) : List Int := if nErr bs.length at_ wd = 0 then stv bs at_.toNat v wd.toNat else bs
def fillA (bs : List Int) (at_ m c : Int) : List Int := if rErr bs.length at_ m = 0 then put bs at_.toNat (fun _ => c) m.toNat else bs
def cutA (bs : List Int) (at_ m : Int) : List Int := if rErr bs.length at_ m = 0 then cutb bs at_.toNat m.toNat else []

theorem nErr_bad {n at_ wd : Int} (h : ¬ WOk wd) : nErr n at_ wd = 1 := by simp [nErr, h]
theorem nErr_far {n at_ wd : Int} (h : WOk wd) (h1 : at_ < 0 ∨ n - wd < at_) : nErr n at_ wd = 4 := by simp [nErr, h, h1]
theorem nErr_ok {n at_ wd : Int} (h : WOk wd) (h1 : 0 ≤ at_) (h2 : at_ ≤ n - wd) : nErr n at_ wd = 0 := by simp only [nErr, h, if_true]; rw [if_neg (by omega)]
theorem nErr_zero {n at_ wd : Int} (h : nErr n at_ wd = 0) : WOk wd ∧ 0 ≤ at_ ∧ at_ ≤ n - wd := by
  unfold nErr at h
  split at h
  · rename_i hw
    split at h
    · omega
    · exact ⟨hw, by omega, by omega⟩
  · omega
theorem nErr_cases (n at_ wd : Int) : nErr n at_ wd = 0 ∨ nErr n at_ wd = 4 ∨ nErr n at_ wd = 1 := by unfold nErr; split <;> (try split) <;> simp
theorem rErr_zero {n at_ m : Int} (h : rErr n at_ m = 0) : 0 ≤ m ∧ 0 ≤ at_ ∧ at_ ≤ n - m := by
  unfold rErr at h
  split at h
  · omega
  · split at h
    · omega
    · omega
theorem rErr_ok {n at_ m : Int} (h : 0 ≤ m) (h1 : 0 ≤ at_) (h2 : at_ ≤ n - m) : rErr n at_ m = 0 := by unfold rErr; rw [if_neg (by omega), if_neg (by omega)]
theorem rErr_cases (n at_ m : Int) : rErr n at_ m = 0 ∨ rErr n at_ m = 4 ∨ rErr n at_ m = 1 := by unfold rErr; split <;> (try split) <;> simp

theorem Load_any {p d : Nat} {bs : List Int} (at_ wd : Int) (w : World) (h : Ar w p d bs) :
    Calls Try.prog 20 #[.pointer (some ⟨p, 0, none⟩), .int .i64 at_, .int .i64 wd] w fun e w' =>
      e = .returned (.tuple #[.int .u64 (ldA bs at_ wd), .int .i64 (nErr bs.length at_ wd)]) ∧ Below w.heap.size w w' := by
  have hlen := h.len
  by_cases hw : WOk wd
  · by_cases hf : at_ < 0 ∨ (bs.length : Int) - wd < at_
    · have e := nErr_far (n := bs.length) hw hf
      rw [show ldA bs at_ wd = 0 from by unfold ldA; rw [if_neg (by omega)], e]
      exact Load_far _ bs.length at_ wd w hw (by omega) (by omega) h.tells hf
    · have e := nErr_ok (n := bs.length) hw (show 0 ≤ at_ by omega) (by omega)
      rw [show ldA bs at_ wd = ldv bs at_.toNat wd.toNat from by unfold ldA; rw [if_pos e], e]
      exact Load_ok at_ wd w h hw (by omega) (by omega)
  · have e := nErr_bad (n := bs.length) (at_ := at_) hw
    rw [show ldA bs at_ wd = 0 from by unfold ldA; rw [if_neg (by omega)], e]
    exact Load_bad _ at_ wd w hw

theorem Store_any {p d : Nat} {bs : List Int} (at_ wd v : Int) (w : World) (h : Ar w p d bs) (hv : 0 ≤ v) :
    Calls Try.prog 28 #[.pointer (some ⟨p, 0, none⟩), .int .i64 at_, .int .i64 wd, .int .u64 v] w fun e w' =>
      e = .returned (.int .i64 (nErr bs.length at_ wd)) ∧ Ar w' p d (stA bs at_ wd v) ∧ w.grownBy w' (some d) := by
  have hlen := h.len
  by_cases hw : WOk wd
  · by_cases hf : at_ < 0 ∨ (bs.length : Int) - wd < at_
    · have e := nErr_far (n := bs.length) hw hf
      rw [show stA bs at_ wd v = bs from by unfold stA; rw [if_neg (by omega)], e]
      exact (Store_far _ bs.length at_ wd v w hw (by omega) (by omega) h.tells hf).mono fun _ _ ⟨h1, h2⟩ => ⟨h1, h.below h2, only_of_below h2 _⟩
    · have e := nErr_ok (n := bs.length) hw (show 0 ≤ at_ by omega) (by omega)
      rw [show stA bs at_ wd v = stv bs at_.toNat v wd.toNat from by unfold stA; rw [if_pos e], e]
      exact Store_ok at_ wd v w h hw (by omega) (by omega) hv
  · have e := nErr_bad (n := bs.length) (at_ := at_) hw
    rw [show stA bs at_ wd v = bs from by unfold stA; rw [if_neg (by omega)], e]
    exact (Store_bad _ at_ wd v w hw).mono fun _ _ ⟨h1, h2⟩ => ⟨h1, h.below h2, only_of_below h2 _⟩

theorem Fill_any {p d : Nat} {bs : List Int} (at_ m c : Int) (w : World) (h : Ar w p d bs) (hm : m ≤ 9223372036854775807) (hc0 : 0 ≤ c) (hc1 : c ≤ 255) :
    Calls Try.prog 37 #[.pointer (some ⟨p, 0, none⟩), .int .i64 at_, .int .i64 m, .int .u8 c] w fun e w' =>
      e = .returned (.int .i64 (rErr bs.length at_ m)) ∧ Ar w' p d (fillA bs at_ m c) ∧ w.grownBy w' (some d) := by
  have hlen := h.len
  unfold fillA rErr
  by_cases hn : m < 0
  · rw [if_pos hn, if_neg (by omega)]
    refine (Fill_bad _ at_ m c w hn).mono ?_
    rintro e w' ⟨h1, rfl⟩
    exact ⟨h1, h, World.grownBy.refl _ _⟩
  · rw [if_neg hn]
    by_cases hf : at_ < 0 ∨ (bs.length : Int) - m < at_
    · rw [if_pos hf, if_neg (by omega)]
      refine (Fill_far _ bs.length at_ m c w (by omega) (by omega) h.tells (by omega) hm hf).mono ?_
      rintro e w' ⟨h1, rfl⟩
      exact ⟨h1, h, World.grownBy.refl _ _⟩
    · rw [if_neg hf, if_pos rfl]
      by_cases h0 : m = 0
      · subst h0
        refine (Fill_none _ bs.length at_ c w (by omega) h.tells (by omega) (by omega)).mono ?_
        rintro e w' ⟨h1, rfl⟩
        exact ⟨h1, h, World.grownBy.refl _ _⟩
      · exact Fill_ok at_ m c w h (by omega) (by omega) (by omega) hc0 hc1

theorem Bytes_any {p d : Nat} {bs : List Int} (at_ m : Int) (w : World) (h : Ar w p d bs) (hm : m ≤ 9223372036854775807) :
    Calls Try.prog 29 #[.pointer (some ⟨p, 0, none⟩), .int .i64 at_, .int .i64 m] w fun e w' =>
      ∃ g, e = .returned (.tuple #[.slice (some ⟨g, 0, none⟩) (cutA bs at_ m).length (cutA bs at_ m).length, .int .i64 (rErr bs.length at_ m)]) ∧ Bk w' g (cutA bs at_ m) ∧ w.heap.size ≤ g ∧ Below w.heap.size w w' := by
  have hlen := h.len
  unfold cutA rErr
  by_cases hn : m < 0
  · rw [if_pos hn, if_neg (by omega)]
    exact Bytes_bad _ at_ m w hn
  · rw [if_neg hn]
    by_cases hf : at_ < 0 ∨ (bs.length : Int) - m < at_
    · rw [if_pos hf, if_neg (by omega)]
      exact Bytes_far _ bs.length at_ m w (by omega) (by omega) h.tells (by omega) hm hf
    · rw [if_neg hf, if_pos rfl, cutb_length _ _ _ (by omega)]
      exact Bytes_ok at_ m w h (by omega) (by omega) (by omega)

/-! ### Plain lemmas -/
theorem gb_set (bs : List Int) (i j : Nat) (x : Int) : gb (bs.set i x) j = if i = j ∧ j < bs.length then x else gb bs j := by
  unfold gb
  rw [List.getD_eq_getElem?_getD, List.getD_eq_getElem?_getD, List.getElem?_set]
  by_cases h : i = j
  · subst h
    by_cases hl : i < bs.length <;> simp [hl]
  · simp [h]

theorem gb_put (bs : List Int) (at_ : Nat) (f : Nat → Int) (j : Nat) : ∀ k, gb (put bs at_ f k) j = if at_ ≤ j ∧ j < at_ + k ∧ j < bs.length then f (j - at_) else gb bs j
  | 0 => by rw [if_neg (by omega)]; rfl
  | k + 1 => by
    show gb ((put bs at_ f k).set (at_ + k) (f k)) j = _
    rw [gb_set, gb_put bs at_ f j k, put_length]
    by_cases h1 : at_ + k = j ∧ j < bs.length
    · rw [if_pos h1, if_pos (by omega)]
      congr 1
      omega
    · rw [if_neg h1]
      by_cases h2 : at_ ≤ j ∧ j < at_ + k ∧ j < bs.length
      · rw [if_pos h2, if_pos (by omega)]
      · rw [if_neg h2, if_neg (by omega)]

theorem gb_ext {xs ys : List Int} (hl : xs.length = ys.length) (h : ∀ j, j < xs.length → gb xs j = gb ys j) : xs = ys := by
  apply List.ext_getElem hl
  intro j h1 h2
  have := h j h1
  unfold gb at this
  rw [List.getD_eq_getElem?_getD, List.getD_eq_getElem?_getD, List.getElem?_eq_getElem h1, List.getElem?_eq_getElem h2] at this
  exact this

theorem ldv_congr (xs ys : List Int) (a b : Nat) : ∀ k, (∀ j, j < k → gb xs (a + j) = gb ys (b + j)) → ldv xs a k = ldv ys b k
  | 0, _ => rfl
  | k + 1, h => by
    show ldv xs a k + gb xs (a + k) * 256 ^ k = ldv ys b k + gb ys (b + k) * 256 ^ k
    rw [ldv_congr xs ys a b k (fun j hj => h j (by omega)), h k (by omega)]

/-- The lowest bytes, put together again. -/
theorem ldv_bytes (xs : List Int) (a : Nat) (v : Int) : ∀ k, (∀ j, j < k → gb xs (a + j) = byteOf v j) → ldv xs a k = v % 256 ^ k
  | 0, _ => by simp [ldv]
  | k + 1, h => by
    show ldv xs a k + gb xs (a + k) * 256 ^ k = _
    rw [ldv_bytes xs a v k (fun j hj => h j (by omega)), h k (by omega)]
    unfold byteOf
    have e : v % 256 ^ (k + 1) = v % 256 ^ k + (v / 256 ^ k % 256) * 256 ^ k := by
      have hp : (0 : Int) < 256 ^ k := Int.pow_pos (by omega)
      have h1 := Int.mul_ediv_add_emod v (256 ^ (k + 1))
      have h2 := Int.mul_ediv_add_emod v (256 ^ k)
      have h3 := Int.mul_ediv_add_emod (v / 256 ^ k) 256
      have h4 : v / 256 ^ (k + 1) = v / 256 ^ k / 256 := by rw [Int.pow_succ, Int.ediv_ediv_of_nonneg (by omega)]
      rw [h4] at h1
      rw [Int.pow_succ] at h1 ⊢
      generalize v / 256 ^ k / 256 = q at *
      generalize v / 256 ^ k % 256 = r at *
      generalize v / 256 ^ k = u at *
      generalize (256 : Int) ^ k = P at *
      have : P * u = P * (256 * q + r) := by rw [h3]
      rw [Int.mul_add] at this
      have e1 : P * (256 * q) = P * 256 * q := by rw [Int.mul_assoc]
      have e2 : r * P = P * r := Int.mul_comm _ _
      omega
    rw [e]

theorem ldv_stv (bs : List Int) (at_ : Nat) (v : Int) (k : Nat) (h : at_ + k ≤ bs.length) : ldv (stv bs at_ v k) at_ k = v % 256 ^ k := by
  apply ldv_bytes
  intro j hj
  unfold stv
  rw [gb_put, if_pos (by omega)]
  congr 1
  omega

theorem ldv_stv_other (bs : List Int) (at_ to k m : Nat) (v : Int) (h : at_ + k ≤ to ∨ to + m ≤ at_) : ldv (stv bs at_ v k) to m = ldv bs to m := by
  apply ldv_congr
  intro j hj
  unfold stv
  rw [gb_put, if_neg (by omega)]

theorem nErr_length (xs ys : List Int) (h : xs.length = ys.length) (at_ wd : Int) : nErr xs.length at_ wd = nErr ys.length at_ wd := by rw [h]
theorem stA_length (bs : List Int) (at_ wd v : Int) : (stA bs at_ wd v).length = bs.length := by unfold stA; split; exact stv_length _ _ _ _; rfl
theorem fillA_length (bs : List Int) (at_ m c : Int) : (fillA bs at_ m c).length = bs.length := by unfold fillA; split; exact put_length _ _ _ _; rfl
end Go.Proofs.Ythkppnkhiimaeaa
