/- The chain's law (layer 10): the list of one head; nodes in a row; when all is 0. -/
import Derived.Test.YtajbfjmbohkphaaChRange
set_option linter.unusedVariables false
set_option linter.unusedSimpArgs false
namespace Go.Proofs.Ytajbfjmbohkphaa
open Go.RowKit

/-- The head 8 has this list, the others none. -/
def one (L : List Int) : Int → List Int := updL (fun _ => []) 8 L
theorem one_at (L : List Int) : one L 8 = L := updL_eq rfl
theorem one_other {L : List Int} {x : Int} (h : x ≠ 8) : one L x = [] := updL_ne h
theorem ownr_one (L : List Int) (x : Int) : ownr (one L) x = if x ∈ L then 8 else 0 := by
  unfold ownr
  rw [one_at, one_other (by omega), one_other (by omega)]
  simp
theorem push_one (L : List Int) (x : Int) (front : Bool) (h : x ∉ L) (y : Int) : pushLs (one L) 8 x front y = one (if front then x :: L else L ++ [x]) y := by
  unfold pushLs
  rw [ownr_one, if_neg h, if_pos rfl, one_at]
  by_cases e : y = 8
  · rw [updL_eq e, e, one_at]
  · rw [updL_ne e, one_other e, one_other e]
theorem rem_one (L : List Int) (x y : Int) : remLs (one L) 8 x y = one (L.erase x) y := by
  unfold remLs
  rw [one_at]
  by_cases e : y = 8
  · rw [updL_eq e, e, one_at]
  · rw [updL_ne e, one_other e, one_other e]

/-- The nodes from a on, n of them. -/
def run (a n : Nat) : List Int := (List.range' a n).map (fun k : Nat => 32 + 16 * (k : Int))
theorem run_cons (a n : Nat) : run a (n + 1) = (32 + 16 * (a : Int)) :: run (a + 1) n := by simp [run, List.range'_succ]
theorem run_snoc (a n : Nat) : run a (n + 1) = run a n ++ [32 + 16 * ((a + n : Nat) : Int)] := by simp [run, List.range'_concat]
theorem run_mem (a n k : Nat) : 32 + 16 * (k : Int) ∈ run a n ↔ a ≤ k ∧ k < a + n := by
  unfold run
  rw [List.mem_map]
  constructor
  · rintro ⟨j, hj, e⟩
    obtain rfl : j = k := by omega
    exact List.mem_range'_1.1 hj
  · intro h
    exact ⟨k, List.mem_range'_1.2 h, rfl⟩
theorem nA_nat (k : Nat) (h : k < 14) : nA (k : Int) = 32 + 16 * (k : Int) := by unfold nA; omega

theorem erase_last {X : List Int} {x : Int} (h : x ∉ X) : (X ++ [x]).erase x = X := by rw [List.erase_append_right _ h]; simp

/-! ### When all is 0 -/
theorem ldv_zero {bs : List Int} (hr : ∀ x ∈ bs, 0 ≤ x ∧ x ≤ 255) (a : Nat) : ∀ k, ldv bs a k = 0 → ∀ j, j < k → gb bs (a + j) = 0
  | 0, _, j, h => by omega
  | k + 1, h, j, hj => by
    have h1 : ldv bs a k + gb bs (a + k) * 256 ^ k = 0 := h
    have h2 := ldv_range bs hr a k
    have hg : 0 ≤ gb bs (a + k) ∧ gb bs (a + k) ≤ 255 := by
      unfold gb
      rw [List.getD_eq_getElem?_getD]
      cases hh : bs[a + k]? with
      | none => simp
      | some x => exact hr x (List.mem_of_getElem? hh)
    have hp : (0 : Int) < 256 ^ k := Int.pow_pos (by omega)
    have h3 : 0 ≤ gb bs (a + k) * 256 ^ k := Int.mul_nonneg hg.1 (by omega)
    have h4 : gb bs (a + k) * 256 ^ k = 0 := by omega
    have h5 : gb bs (a + k) = 0 := by
      rcases Int.mul_eq_zero.1 h4 with h | h
      · exact h
      · omega
    rcases Nat.lt_or_ge j k with hlt | hge
    · exact ldv_zero hr a k (by omega) j hlt
    · obtain rfl : j = k := by omega
      exact h5
theorem rep_zero {G : Int → Int} {ls : Int → List Int} (R : Rep 0 4 G ls) (h : ∀ h, isH h → ls h = []) (a : Int) (ha : al a) : G a = 0 := by
  by_cases h1 : 8 ≤ a ∧ a < 32
  · have ha' := ha.2.2
    rcases (show a = 8 ∨ a = 12 ∨ a = 16 ∨ a = 20 ∨ a = 24 ∨ a = 28 by omega) with rfl | rfl | rfl | rfl | rfl | rfl
    · rw [R.first isH8, h 8 isH8]; rfl
    · rw [show (12 : Int) = 8 + 4 from rfl, R.tl 8 isH8, h 8 isH8]; rfl
    · rw [R.first isH16, h 16 isH16]; rfl
    · rw [show (20 : Int) = 16 + 4 from rfl, R.tl 16 isH16, h 16 isH16]; rfl
    · rw [R.first isH24, h 24 isH24]; rfl
    · rw [show (28 : Int) = 24 + 4 from rfl, R.tl 24 isH24, h 24 isH24]; rfl
  · by_cases h2 : 32 ≤ a ∧ a < 256 ∧ a % 16 ≠ 12
    · have ha' := ha.2.2
      have hn : isN (a - a % 16) := by unfold isN; omega
      obtain ⟨f1, f2, f3⟩ := R.fr _ hn (fun h' hh => by rw [h h' hh]; exact fun hm => by cases hm)
      rcases (show a % 16 = 0 ∨ a % 16 = 4 ∨ a % 16 = 8 by omega) with e | e | e
      · rw [e] at f1; rwa [show a - 0 + 0 = a by omega] at f1
      · rw [e] at f2; rwa [show a - 4 + 4 = a by omega] at f2
      · rw [e] at f3; rwa [show a - 8 + 8 = a by omega] at f3
    · exact R.zz a ha h1 h2
theorem zero_of {bs : List Int} {G : Int → Int} {ls : Int → List Int} (hr : ∀ x ∈ bs, 0 ≤ x ∧ x ≤ 255) (A : Ag bs G) (R : Rep 0 4 G ls) (h : ∀ h, isH h → ls h = []) : Zero bs := by
  refine ⟨A.1, fun i => ?_⟩
  rcases Nat.lt_or_ge i 512 with hi | hi
  · have ha : al ((4 * (i / 4) : Nat) : Int) := by unfold al; omega
    have h0 := A.2 _ ha
    rw [rep_zero R h _ ha] at h0
    unfold gt ldA at h0
    rw [if_pos (nErr4 A.1 ha)] at h0
    have := ldv_zero hr _ _ h0 (i % 4) (by show i % 4 < 4; omega)
    rw [Int.toNat_natCast] at this
    rwa [show 4 * (i / 4) + i % 4 = i by omega] at this
  · unfold gb
    rw [List.getD_eq_getElem?_getD, List.getElem?_eq_none (by rw [A.1]; exact hi)]
    rfl
theorem Cs.zero {w0 w : World} {p d : Nat} {ls : Int → List Int} (S : Cs w0 w p d ls) (h : ∀ h, isH h → ls h = []) : ∃ bs, One w0 w p d bs ∧ Zero bs := by
  obtain ⟨bs, G, O, A, R⟩ := S.ex
  exact ⟨bs, O, zero_of O.ar.rng A R h⟩
end Go.Proofs.Ytajbfjmbohkphaa
