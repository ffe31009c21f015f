import Derived.OrdersIn
import Derived.OwnWalkIn
import Derived.WalkKit
/- A region that draws its order, its reads determined whatever the order, one operation last that leans on all of them, through others: within a round. -/
set_option linter.unusedVariables false
set_option linter.unusedSimpArgs false
namespace Go.Proofs.YtbngmkopgoelbaaDoor
open Go.RowKit

/-- How many of the first k are not carried out yet. -/
def unl (l : Array Bool) : Nat → Nat
  | 0 => 0
  | k + 1 => unl l k + if l.getD k false = true then 0 else 1
theorem getD_set' (l : Array Bool) (i j : Nat) (hi : i < l.size) : (l.setIfInBounds i true).getD j false = if i = j then true else l.getD j false := by
  rw [Array.getD_eq_getD_getElem?, Array.getD_eq_getD_getElem?, Array.getElem?_setIfInBounds]
  by_cases h : i = j
  · subst h; rw [if_pos rfl, if_pos rfl, if_pos hi]; rfl
  · rw [if_neg h, if_neg h]
theorem unl_set (l : Array Bool) (i : Nat) (hi : i < l.size) (hf : l.getD i false = false) : ∀ k, unl (l.setIfInBounds i true) k + (if i < k then 1 else 0) = unl l k
  | 0 => by simp [unl]
  | k + 1 => by
    have ih := unl_set l i hi hf k
    unfold unl
    rw [getD_set' l i k hi]
    by_cases h : i = k
    · subst h
      rw [if_pos rfl, if_pos rfl, hf, if_pos (by omega)]
      rw [if_neg (by omega)] at ih
      simp
      omega
    · rw [if_neg h]
      by_cases h2 : i < k
      · have e1 : (if i < k + 1 then 1 else 0) = 1 := if_pos (by omega)
        rw [if_pos h2] at ih; rw [e1]; omega
      · have e1 : (if i < k + 1 then 1 else 0) = 0 := if_neg (by omega)
        rw [if_neg h2] at ih; rw [e1]; omega
theorem unl_pos (l : Array Bool) (i : Nat) (hf : l.getD i false = false) : ∀ k, i < k → 0 < unl l k
  | k + 1, h => by
    unfold unl
    by_cases e : i = k
    · subst e; rw [hf]; simp
    · have := unl_pos l i hf k (by omega); omega
theorem mem_ready {ops : Array Oper} {listed : Array Bool} {i : Nat} (h : i ∈ Region.ready .any ops listed) : i < ops.size ∧ listed.getD i true = false ∧ ∀ o, ops[i]? = some o → ∀ e ∈ o.after, Region.binds .any e = true → listed.getD e.on false = true := by
  unfold Region.ready at h
  rw [List.mem_filter, List.mem_range, Bool.and_eq_true] at h
  obtain ⟨h1, h2, h3⟩ := h
  refine ⟨h1, by simpa using h2, fun o ho e he hb => ?_⟩
  rw [ho] at h3
  simp only [Option.map_some, Option.getD_some, Array.all_eq_true_iff_forall_mem] at h3
  have := h3 e he
  rw [hb] at this
  simpa using this

theorem least_false (p : Nat → Bool) : ∀ m, p m = false → ∃ i, i ≤ m ∧ p i = false ∧ ∀ j, j < i → p j = true := by
  intro m
  induction m using Nat.strongRecOn with
  | _ m ih =>
    intro h
    by_cases hc : ∃ j, j < m ∧ p j = false
    · obtain ⟨j, hj, hp⟩ := hc
      obtain ⟨i, h1, h2, h3⟩ := ih j hj hp
      exact ⟨i, by omega, h2, h3⟩
    · exact ⟨m, Nat.le_refl _, h, fun j hj => by
        cases hp : p j
        · exact absurd ⟨j, hj, hp⟩ hc
        · rfl⟩
section
variable {F : Fence} {n : Nat} {P : Program} {ops : Array Oper} {Q : Exit → Act → World → Prop}
/-- Whatever the order: each read comes to its value; then the last one. -/
theorem any_of_reads {W : World} (m : Nat) (hs : ops.size = m + 1) (d : Nat → Nat) (val : Nat → Value) (Base : Act → Prop)
    (hdst : ∀ i o, i < m → ops[i]? = some o → o.dst = some (d i) ∧ o.guard = none ∧ ∀ e ∈ o.after, e.on < i)
    (hput : ∀ a i, i < m → Base a → Base (a.put (some (d i)) (val i)) ∧ (a.put (some (d i)) (val i)).tmps.getD (d i) undef = val i ∧ ∀ j, j < m → j ≠ i → (a.put (some (d i)) (val i)).tmps.getD (d j) undef = a.tmps.getD (d j) undef)
    (hstep : ∀ i o a (K : Act → World → Prop), i < m → ops[i]? = some o → Base a → (∀ e ∈ o.after, Region.binds .any e = true → a.tmps.getD (d e.on) undef = val e.on) → K (a.put (some (d i)) (val i)) W → o.wpIn F n P a W K Q)
    (hlast : ∀ o a (K : Act → World → Prop), ops[m]? = some o → Base a → (∀ i, i < m → a.tmps.getD (d i) undef = val i) → (∀ a' w', Q .normal a' w' → K a' w') → o.wpIn F n P a W K Q)
    (hgl : ∀ o, ops[m]? = some o → o.guard = none ∧ ∀ e ∈ o.after, e.on < m)
    (hcl : ∀ p : Nat → Bool, (∀ i o, ops[i]? = some o → p i = true → ∀ e ∈ o.after, Region.binds .any e = true → p e.on = true) → (∀ o, ops[m]? = some o → ∀ e ∈ o.after, Region.binds .any e = true → p e.on = true) → ∀ j, j < m → p j = true) :
    ∀ (fuel : Nat) (listed : Array Bool) (a : Act), listed.size = m + 1 → Base a → (∀ i, i < m → listed.getD i false = true → a.tmps.getD (d i) undef = val i) → listed.getD m false = false → (∀ i o, ops[i]? = some o → listed.getD i false = true → ∀ e ∈ o.after, Region.binds .any e = true → listed.getD e.on false = true) → unl listed (m + 1) ≤ fuel →
      wpAnyIn F n P .any ops Q fuel listed a W
  | 0, listed, a, hl, hb, hv, hm, hdc, hu => by
    have := unl_pos listed m hm (m + 1) (by omega)
    omega
  | fuel + 1, listed, a, hl, hb, hv, hm, hdc, hu => by
    have hgd : ∀ i, i < m + 1 → listed.getD i true = listed.getD i false := fun i hi => by
      rw [Array.getD_eq_getD_getElem?, Array.getD_eq_getD_getElem?, Array.getElem?_eq_getElem (by omega)]; rfl
    refine ⟨fun hr => ?_, fun i hi => ?_⟩
    · -- something is ready
      exfalso
      obtain ⟨i, h1, h2, h3⟩ := least_false (fun i => listed.getD i false) m hm
      have : i ∈ Region.ready .any ops listed := by
        unfold Region.ready
        rw [List.mem_filter, List.mem_range, hs]
        refine ⟨by omega, ?_⟩
        obtain ⟨o, ho⟩ : ∃ o, ops[i]? = some o := ⟨ops[i]'(by omega), Array.getElem?_eq_getElem (by omega)⟩
        rw [ho, hgd i (by omega)]
        simp only [h2, Option.map_some, Option.getD_some, Bool.not_false, Bool.true_and, Array.all_eq_true_iff_forall_mem]
        intro e he
        have hlt : e.on < i := by
          by_cases him : i < m
          · exact (hdst i o him ho).2.2 e he
          · obtain rfl : i = m := by omega
            exact (hgl o ho).2 e he
        rw [h3 e.on hlt, Bool.or_true]
      rw [hr] at this
      cases this
    · obtain ⟨h1, h2, h3⟩ := mem_ready hi
      rw [hs] at h1
      rw [hgd i h1] at h2
      obtain ⟨o, ho⟩ : ∃ o, ops[i]? = some o := ⟨ops[i]'(by omega), Array.getElem?_eq_getElem (by omega)⟩
      have hlt : unl (listed.setIfInBounds i true) (m + 1) ≤ fuel := by have := unl_set listed i (by omega) h2 (m + 1); rw [if_pos h1] at this; omega
      unfold wpOpIn
      rw [ho]
      by_cases him : i < m
      · obtain ⟨g1, g2, g3⟩ := hdst i o him ho
        have hw : Region.wanted o (yielded ops a.tmps) = true := by unfold Region.wanted; rw [g2]
        simp only [hw, if_true]
        obtain ⟨p1, p2, p3⟩ := hput a i him hb
        refine hstep i o a _ him ho hb (fun e he hb' => hv _ (by have := g3 e he; omega) (h3 o ho e he hb')) ?_
        refine any_of_reads m hs d val Base hdst hput hstep hlast hgl hcl fuel _ _ (by simpa using hl) p1 (fun j hj hlj => ?_) ?_ (fun j o' ho' hj e' he' hb' => ?_) hlt
        · by_cases e : i = j
          · subst e; exact p2
          · rw [getD_set' _ _ _ (by omega), if_neg e] at hlj
            rw [p3 j hj (fun e2 => e e2.symm)]
            exact hv j hj hlj
        · rw [getD_set' _ _ _ (by omega), if_neg (by omega)]; exact hm
        · rw [getD_set' _ _ _ (by omega)] at hj ⊢
          have key : listed.getD e'.on false = true := by
            by_cases e3 : i = j
            · subst e3; exact h3 o' ho' e' he' hb'
            · rw [if_neg e3] at hj; exact hdc j o' ho' hj e' he' hb'
          rw [key]; simp
      · obtain rfl : i = m := by omega
        obtain ⟨g1, g0⟩ := hgl o ho
        have hw : Region.wanted o (yielded ops a.tmps) = true := by unfold Region.wanted; rw [g1]
        simp only [hw, if_true]
        have hall : ∀ j, j < i → listed.getD j false = true := hcl (fun j => listed.getD j false) hdc (fun o' ho' e he hb' => h3 o' ho' e he hb')
        refine hlast o a _ ho hb (fun j hj => hv j hj (hall j hj)) (fun a' w' hq => wpAnyIn_done ?_ hq _)
        rw [List.eq_nil_iff_forall_not_mem]
        intro j hj
        obtain ⟨q1, q2, q3⟩ := mem_ready hj
        rw [hs] at q1
        have : (listed.setIfInBounds i true).getD j true = (listed.setIfInBounds i true).getD j false := by
          rw [Array.getD_eq_getD_getElem?, Array.getD_eq_getD_getElem?, Array.getElem?_eq_getElem (by simp; omega)]; rfl
        rw [this, getD_set' _ _ _ (by omega)] at q2
        by_cases e : i = j
        · rw [if_pos e] at q2; cases q2
        · rw [if_neg e, hall j (by omega)] at q2; cases q2
/-- The region itself. -/
theorem region_reads {id : Nat} {a : Act} {w : World} (hmx : P.follows .mixedOrders = true) (m : Nat) (hs : ops.size = m + 1) (d : Nat → Nat) (val : Nat → Value) (Base : Act → Prop)
    (hdst : ∀ i o, i < m → ops[i]? = some o → o.dst = some (d i) ∧ o.guard = none ∧ ∀ e ∈ o.after, e.on < i)
    (hput : ∀ a i, i < m → Base a → Base (a.put (some (d i)) (val i)) ∧ (a.put (some (d i)) (val i)).tmps.getD (d i) undef = val i ∧ ∀ j, j < m → j ≠ i → (a.put (some (d i)) (val i)).tmps.getD (d j) undef = a.tmps.getD (d j) undef)
    (hstep : ∀ i o a (K : Act → World → Prop), i < m → ops[i]? = some o → Base a → (∀ e ∈ o.after, Region.binds .any e = true → a.tmps.getD (d e.on) undef = val e.on) → K (a.put (some (d i)) (val i)) w.drew → o.wpIn F n P a w.drew K Q)
    (hlast : ∀ o a (K : Act → World → Prop), ops[m]? = some o → Base a → (∀ i, i < m → a.tmps.getD (d i) undef = val i) → (∀ a' w', Q .normal a' w' → K a' w') → o.wpIn F n P a w.drew K Q)
    (hgl : ∀ o, ops[m]? = some o → o.guard = none ∧ ∀ e ∈ o.after, e.on < m)
    (hcl : ∀ p : Nat → Bool, (∀ i o, ops[i]? = some o → p i = true → ∀ e ∈ o.after, Region.binds .any e = true → p e.on = true) → (∀ o, ops[m]? = some o → ∀ e ∈ o.after, Region.binds .any e = true → p e.on = true) → ∀ j, j < m → p j = true)
    (hb : Base a) : (Code.region id ops true).wpIn F n P Q a w := by
  refine wpIn_region_any hmx ?_
  have hz : ∀ i, (Array.replicate ops.size false).getD i false = false := fun i => by
    rw [Array.getD_eq_getD_getElem?, Array.getElem?_replicate]
    split <;> rfl
  refine any_of_reads (W := w.drew) m hs d val Base hdst hput hstep hlast hgl hcl _ _ a (by simp [hs]) hb (fun i _ h => by rw [hz] at h; cases h) (hz m) (fun i o _ h => by rw [hz] at h; cases h) ?_
  have : ∀ k, unl (Array.replicate ops.size false) k ≤ k := fun k => by
    induction k with
    | zero => exact Nat.le_refl _
    | succ k ih => unfold unl; split <;> omega
  have := this (m + 1)
  omega
end
end Go.Proofs.YtbngmkopgoelbaaDoor
