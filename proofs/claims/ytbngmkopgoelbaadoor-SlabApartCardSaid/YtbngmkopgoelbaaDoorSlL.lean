/- Plain: the free blocks of a page are linked by their first bytes. -/
import Derived.Test.YtbngmkopgoelbaaDoorSlM
import Derived.Test.YtbngmkopgoelbaaDoorAr5
set_option linter.unusedVariables false
set_option linter.unusedSimpArgs false
namespace Go.Proofs.YtbngmkopgoelbaaDoor
open Go.RowKit

def linked (bs : List Int) : List Nat → Prop
  | [] => True
  | a :: l => ldA bs (a : Int) 4 = ((l.headD 0 : Nat) : Int) ∧ linked bs l

theorem ldA_congr {bs bs' : List Int} (hl : bs'.length = bs.length) (a : Nat) (h : ∀ j, a ≤ j → j < a + 4 → gb bs' j = gb bs j) : ldA bs' (a : Int) 4 = ldA bs (a : Int) 4 := by
  unfold ldA
  rw [hl]
  split
  · apply ldv_congr
    intro j hj
    rw [Int.toNat_natCast]
    have : (4 : Int).toNat = 4 := rfl
    exact h _ (by omega) (by omega)
  · rfl
theorem linked_congr {bs bs' : List Int} (hl : bs'.length = bs.length) : ∀ {l : List Nat}, (∀ a ∈ l, ∀ j, a ≤ j → j < a + 4 → gb bs' j = gb bs j) → linked bs l → linked bs' l
  | [], _, _ => trivial
  | a :: l, h, ⟨h1, h2⟩ => ⟨(ldA_congr hl a (h a (List.mem_cons_self ..))).trans h1, linked_congr hl (fun b hb => h b (List.mem_cons_of_mem _ hb)) h2⟩

theorem gb_stA (bs : List Int) (a : Nat) (v : Int) (j : Nat) (h : j < a ∨ a + 4 ≤ j) : gb (stA bs (a : Int) 4 v) j = gb bs j := by
  unfold stA
  split
  · unfold stv
    rw [gb_put, if_neg]
    rw [Int.toNat_natCast]
    have : (4 : Int).toNat = 4 := rfl
    omega
  · rfl
theorem gb_fillA (bs : List Int) (a m : Nat) (v : Int) (j : Nat) (h : j < a ∨ a + m ≤ j) : gb (fillA bs (a : Int) (m : Int) v) j = gb bs j := by
  unfold fillA
  split
  · rw [gb_put, if_neg]
    rw [Int.toNat_natCast, Int.toNat_natCast]
    omega
  · rfl
theorem gb_fillA_in (bs : List Int) (a m : Nat) (v : Int) (j : Nat) (h : a ≤ j ∧ j < a + m) (hl : a + m ≤ bs.length) : gb (fillA bs (a : Int) (m : Int) v) j = v := by
  unfold fillA
  rw [rErr_ok (by omega) (by omega) (by omega), if_pos rfl, gb_put, if_pos]
  rw [Int.toNat_natCast, Int.toNat_natCast]
  omega
theorem linked_store {bs : List Int} {l : List Nat} {a v : Nat} (hl : a + 4 ≤ bs.length) (hd : ∀ b ∈ l, b + 4 ≤ a ∨ a + 4 ≤ b) (hv : v < 65536) (e : v = l.headD 0) (h : linked bs l) : linked (stA bs (a : Int) 4 (v : Int)) (a :: l) := by
  refine ⟨?_, linked_congr (stA_length _ _ _ _) (fun b hb j h1 h2 => gb_stA _ _ _ _ (by rcases hd b hb with h3 | h3 <;> omega)) h⟩
  rw [ldA_stA (nErr_ok (.inr (.inr (.inl rfl))) (by omega) (by omega)), ← e]
  have : (256 : Int) ^ (4 : Int).toNat = 4294967296 := by decide
  rw [this]
  omega

/-- The last k blocks of a page. -/
def lastk (p c : Nat) : Nat → List Nat
  | 0 => []
  | k + 1 => (512 * p + 512 - c * (k + 1)) :: lastk p c k
theorem lastk_mem (p c : Nat) : ∀ {k a}, a ∈ lastk p c k → ∃ j, j < k ∧ a = 512 * p + 512 - c * (j + 1)
  | 0, a, h => by cases h
  | k + 1, a, h => by
    rcases List.mem_cons.1 h with h | h
    · exact ⟨k, by omega, h⟩
    · obtain ⟨j, hj, e⟩ := lastk_mem p c h
      exact ⟨j, by omega, e⟩
theorem lastk_eq (p c : Nat) : ∀ k, c * k ≤ 512 → lastk p c k = (List.range k).map (fun i => 512 * p + (512 - c * k) + c * i)
  | 0, _ => rfl
  | k + 1, h => by
    rw [Nat.mul_succ] at h
    rw [List.range_succ_eq_map, List.map_cons, List.map_map]
    show (512 * p + 512 - c * (k + 1)) :: lastk p c k = _
    rw [lastk_eq p c k (by omega), Nat.mul_succ]
    congr 1
    · simp; omega
    · apply List.map_congr_left
      intro i hi
      show 512 * p + (512 - c * k) + c * i = 512 * p + (512 - (c * k + c)) + c * (i + 1)
      rw [Nat.mul_succ]
      omega
theorem lastk_all {p c : Nat} (hc : isC c) : lastk p c (512 / c) = blks p c := by
  have := hc.div
  rw [lastk_eq p c _ (by omega), this.1]
  unfold blks
  simp
end Go.Proofs.YtbngmkopgoelbaaDoor
