/- The flow's plain law: programs that are well. -/
import Derived.Test.YtaomlfnffnapmaaFlL
set_option linter.unusedVariables false
set_option linter.unusedSimpArgs false
namespace Go.Proofs.Ytaomlfnffnapmaa

/-- What stands behind, one by one. -/
theorem beh_cases {L : List Ins} (k : Nat) (hk : k < L.length) :
    ((L.getD k z0).op = 15 ∧ beh L (k : Int) = []) ∨ ((L.getD k z0).op = 5 ∧ beh L (k : Int) = [(k : Int) + (L.getD k z0).imm]) ∨
    (((L.getD k z0).op = 6 ∨ (L.getD k z0).op = 7) ∧ (L.getD k z0).imm = 1 ∧ beh L (k : Int) = [(k : Int) + 1]) ∨
    (((L.getD k z0).op = 6 ∨ (L.getD k z0).op = 7) ∧ (L.getD k z0).imm ≠ 1 ∧ beh L (k : Int) = [(k : Int) + 1, (k : Int) + (L.getD k z0).imm]) ∨
    (((L.getD k z0).op ≠ 15 ∧ (L.getD k z0).op ≠ 5 ∧ (L.getD k z0).op ≠ 6 ∧ (L.getD k z0).op ≠ 7) ∧ beh L (k : Int) = [(k : Int) + 1]) := by
  unfold beh
  rw [if_neg (by omega), Int.toNat_natCast]
  generalize L.getD k z0 = y
  by_cases e15 : y.op = 15
  · exact .inl ⟨e15, if_pos e15⟩
  rw [if_neg e15]
  by_cases e5 : y.op = 5
  · exact .inr (.inl ⟨e5, if_pos e5⟩)
  rw [if_neg e5]
  by_cases e67 : y.op = 6 ∨ y.op = 7
  · rw [if_pos e67]
    by_cases e1 : y.imm = 1
    · exact .inr (.inr (.inl ⟨e67, e1, if_pos e1⟩))
    · exact .inr (.inr (.inr (.inl ⟨e67, e1, if_neg e1⟩)))
  · rw [if_neg e67]
    exact .inr (.inr (.inr (.inr ⟨⟨e15, e5, fun e => e67 (.inl e), fun e => e67 (.inr e)⟩, rfl⟩)))
/-- In a program that is well: at most two, rising, within, further on. -/
theorem well_two {L : List Ins} (h : (fchk L).2 = 0) {k : Nat} (hk : k < L.length) :
    ((L.getD k z0).op = 15 ∧ beh L (k : Int) = []) ∨ (∃ x : Nat, beh L (k : Int) = [(x : Int)] ∧ k < x ∧ x < L.length) ∨ (∃ x y : Nat, beh L (k : Int) = [(x : Int), (y : Int)] ∧ k < x ∧ x < y ∧ y < L.length) := by
  have hb : ∀ x, x ∈ beh L (k : Int) → (k : Int) < x ∧ x < (L.length : Int) := fun x hx => well_beh h hk hx
  rcases beh_cases k hk with ⟨e, h1⟩ | ⟨e, h1⟩ | ⟨e, e1, h1⟩ | ⟨e, e1, h1⟩ | ⟨e, h1⟩
  · exact .inl ⟨e, h1⟩
  · have := hb _ (by rw [h1]; exact List.mem_singleton.2 rfl)
    exact .inr (.inl ⟨((k : Int) + (L.getD k z0).imm).toNat, by rw [h1, Int.toNat_of_nonneg (by omega)], by omega, by omega⟩)
  · have := hb _ (by rw [h1]; exact List.mem_singleton.2 rfl)
    exact .inr (.inl ⟨k + 1, by rw [h1]; rfl, by omega, by omega⟩)
  · have a1 := hb ((k : Int) + 1) (by rw [h1]; simp)
    have a2 := hb ((k : Int) + (L.getD k z0).imm) (by rw [h1]; simp)
    exact .inr (.inr ⟨k + 1, ((k : Int) + (L.getD k z0).imm).toNat, by rw [h1, Int.toNat_of_nonneg (by omega)]; rfl, by omega, by omega, by omega⟩)
  · have := hb _ (by rw [h1]; exact List.mem_singleton.2 rfl)
    exact .inr (.inl ⟨k + 1, by rw [h1]; rfl, by omega, by omega⟩)
theorem inP_all {L : List Ins} {xs : List Int} (h : ∀ x ∈ xs, x < (L.length : Int)) : inP L xs = xs := by
  unfold inP
  rw [List.filter_eq_self]
  intro x hx
  exact decide_eq_true (h x hx)
theorem nx_well {L : List Ins} (h : (fchk L).2 = 0) {k : Nat} (hk : k < L.length) : nx L (k : Int) = beh L (k : Int) := by
  unfold nx
  rw [inP_all (fun x hx => (well_beh h hk hx).2)]
  rcases well_two h hk with ⟨_, h1⟩ | ⟨x, h1, _⟩ | ⟨x, y, h1, _, h2, _⟩
  · rw [h1]; rfl
  · rw [h1]; rfl
  · rw [h1]; unfold two; exact if_neg (by omega)
/-- The steps are settled from the end on. -/
theorem lgd_stable (L : List Ins) (i d : Nat) : ∀ e : Nat, d + e ≤ L.length → L.length ≤ i + d → lgd L (d + e) i = lgd L d i
  | 0, _, _ => rfl
  | e + 1, hle, h => by
    show (if i = L.length - 1 - (d + e) then mxl (lgd L (d + e)) (beh L ((L.length - 1 - (d + e) : Nat) : Int)) + 1 else lgd L (d + e) i) = _
    rw [if_neg (by omega)]
    exact lgd_stable L i d e (by omega) h
theorem mxl_congr {f g : Nat → Int} : ∀ {xs : List Int}, (∀ x ∈ xs, f x.toNat = g x.toNat) → mxl f xs = mxl g xs := by
  have key : ∀ (xs : List Int) (m : Int), (∀ x ∈ xs, f x.toNat = g x.toNat) → xs.foldl (fun m on => max m (f on.toNat)) m = xs.foldl (fun m on => max m (g on.toNat)) m := by
    intro xs
    induction xs with
    | nil => exact fun _ _ => rfl
    | cons x t ih =>
      intro m h
      show t.foldl _ (max m (f x.toNat)) = t.foldl _ (max m (g x.toNat))
      rw [h x (List.mem_cons_self ..)]
      exact ih _ (fun y hy => h y (List.mem_cons_of_mem _ hy))
  exact fun {xs} h => key xs 0 h
theorem mxl_ge {f : Nat → Int} {xs : List Int} {x : Int} (hx : x ∈ xs) : f x.toNat ≤ mxl f xs := by
  have key : ∀ (xs : List Int) (m : Int), m ≤ xs.foldl (fun m on => max m (f on.toNat)) m ∧ ∀ x ∈ xs, f x.toNat ≤ xs.foldl (fun m on => max m (f on.toNat)) m := by
    intro xs
    induction xs with
    | nil => exact fun m => ⟨Int.le_refl _, fun _ h => by cases h⟩
    | cons y t ih =>
      intro m
      obtain ⟨h1, h2⟩ := ih (max m (f y.toNat))
      refine ⟨Int.le_trans (Int.le_max_left ..) h1, fun x hx => ?_⟩
      rcases List.mem_cons.1 hx with rfl | hx
      · exact Int.le_trans (Int.le_max_right ..) h1
      · exact h2 x hx
  exact (key xs 0).2 x hx
/-- The most steps from each instruction on. -/
def lgN (L : List Ins) : Nat → Int := lgd L L.length
theorem lgN_eq {L : List Ins} (h : (fchk L).2 = 0) {k : Nat} (hk : k < L.length) : lgN L k = mxl (lgN L) (beh L (k : Int)) + 1 := by
  unfold lgN
  have h1 := lgd_stable L k (L.length - k) k (by omega) (by omega)
  rw [show L.length - k + k = L.length from by omega] at h1
  rw [h1]
  obtain ⟨d, hd⟩ : ∃ d, L.length - k = d + 1 := ⟨L.length - k - 1, by omega⟩
  rw [hd]
  show (if k = L.length - 1 - d then mxl (lgd L d) (beh L ((L.length - 1 - d : Nat) : Int)) + 1 else lgd L d k) = _
  rw [if_pos (by omega), show L.length - 1 - d = k from by omega]
  rw [mxl_congr (f := lgd L d) (g := lgd L L.length)]
  intro x hx
  have := well_beh h hk hx
  have h2 := lgd_stable L x.toNat d (L.length - d) (by omega) (by omega)
  rw [show d + (L.length - d) = L.length from by omega] at h2
  exact h2.symm
theorem lgN_bd (L : List Ins) (k : Nat) : 0 ≤ lgN L k ∧ lgN L k ≤ L.length := lgd_bd L L.length k
theorem lgN_pos {L : List Ins} (h : (fchk L).2 = 0) {k : Nat} (hk : k < L.length) : 1 ≤ lgN L k := by
  rw [lgN_eq h hk]
  have := mxl_le (f := lgN L) (B := L.length) (by omega) (beh L (k : Int)) (fun x _ => (lgN_bd L x.toNat).2)
  omega
theorem lgN_next {L : List Ins} (h : (fchk L).2 = 0) {k : Nat} (hk : k < L.length) {x : Nat} (hx : (x : Int) ∈ beh L (k : Int)) : lgN L x + 1 ≤ lgN L k := by
  rw [lgN_eq h hk]
  have := mxl_ge (f := lgN L) hx
  rw [Int.toNat_natCast] at this
  omega
theorem well_last {L : List Ins} (h : (fchk L).2 = 0) : (L.getD (L.length - 1) z0).op = 15 := by
  have hl := well_len h
  rcases well_two h (k := L.length - 1) (by omega) with ⟨e, _⟩ | ⟨x, _, h1, h2⟩ | ⟨x, y, _, h1, h2, h3⟩
  · exact e
  · omega
  · omega
theorem lng_bad {L : List Ins} (h : (fchk L).2 ≠ 0) : lng L = (0, (fchk L).2) := by unfold lng; rw [if_pos h]
theorem lng_well {L : List Ins} (h : (fchk L).2 = 0) : lng L = (lgN L 0, 0) := by unfold lng; rw [if_neg (by rw [h]; simp)]; rfl
end Go.Proofs.Ytaomlfnffnapmaa
