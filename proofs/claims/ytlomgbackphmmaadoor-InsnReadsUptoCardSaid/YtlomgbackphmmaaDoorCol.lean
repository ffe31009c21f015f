/- An argument that is a slice, read column by column. -/
import Derived.Below
import Derived.WalkKit
import Derived.Deep.Slices
import Derived.Deep.Fields
import Derived.ChangeSame
import Derived.Lib.SmallJoins
set_option linter.unusedVariables false
namespace Go.Proofs.YtlomgbackphmmaaDoor
open Go.RowKit Go.ChangeShapes Go.WideShapes Go.Deep

/-- Of each element of a slice, m cells wide, the cell j is a whole number. -/
def ColI (w : World) (A : Option Addr) (len m j : Nat) (k : IntKind) (f : Nat → Int) : Prop :=
  ∀ i, i < len → ∃ ad : Addr, A = some ad ∧ ad.block < w.heap.size ∧ w.cell? (ad.add (i * m + j)) = some (.int k (f i)) ∧ (Lit.int k (f i)).wf = true
/-- .. a bool. -/
def ColB (w : World) (A : Option Addr) (len m j : Nat) (f : Nat → Bool) : Prop :=
  ∀ i, i < len → ∃ ad : Addr, A = some ad ∧ ad.block < w.heap.size ∧ w.cell? (ad.add (i * m + j)) = some (.bool (f i))

theorem block_add (a : Addr) (n : Nat) : (a.add n).block = a.block := by unfold Addr.add; split <;> rfl

theorem ColI.below {w w1 : World} {A : Option Addr} {len m j : Nat} {k : IntKind} {f : Nat → Int} (h : ColI w A len m j k f) (hb : Below w.heap.size w w1) : ColI w1 A len m j k f := fun i hi => by
  obtain ⟨ad, e, hl, hc, hw⟩ := h i hi
  exact ⟨ad, e, Nat.lt_of_lt_of_le hl hb.size, (hb.cell (by rw [block_add]; exact hl)).trans hc, hw⟩
theorem ColB.below {w w1 : World} {A : Option Addr} {len m j : Nat} {f : Nat → Bool} (h : ColB w A len m j f) (hb : Below w.heap.size w w1) : ColB w1 A len m j f := fun i hi => by
  obtain ⟨ad, e, hl, hc⟩ := h i hi
  exact ⟨ad, e, Nat.lt_of_lt_of_le hl hb.size, (hb.cell (by rw [block_add]; exact hl)).trans hc⟩

section
variable {H : Type} {enc : TypeId × Value → H} {P : Program} {w : World} {base : Nat} {spare : Nat → Bool} {held : Bool}

/-- What a slice of structs of one-cell fields holds, cell by cell. -/
theorem cells_of_structs {t e : TypeId} {fs : Array Field} {fuel len cap : Nat} {A : Option Addr} {x : DataW H × List MemPlace} (ht : P.underlying t = some (.slice e)) (he : P.underlying e = some (.struct fs))
    (hone : oneCellFields P fs = true) (hC : P.cellsOf e = fs.size) (h : DataW.trod enc P w base spare held fuel t [.slice A len cap] = some x) :
    len ≤ maxLen ∧ ∀ (j : Nat) (f : Field), fs[j]? = some f → ∀ i, i < len →
      ∃ (ad : Addr) (v : Value) (n : Nat) (y : DataW H × List MemPlace), A = some ad ∧ w.cell? (ad.add (i * fs.size + j)) = some v ∧ DataW.trod enc P w base spare held n f.type [v] = some y := by
  rcases open_slice ht h with ⟨h0, _⟩ | ⟨a, len', cap', m, n, D, Pl, hcs, hb, hl, hm, hmm, hx, hi⟩
  · simp at h0
    obtain ⟨rfl, rfl, rfl⟩ := h0
    exact ⟨by simp [maxLen], fun _ _ _ _ h => absurd h (by omega)⟩
  · simp at hcs
    obtain ⟨rfl, rfl, rfl⟩ := hcs
    have hlm : len ≤ m := by
      rw [hmm]
      split
      · exact hl
      · exact Nat.le_refl _
    refine ⟨Nat.le_trans hl hm, fun j f hj i hil => ?_⟩
    obtain ⟨cs', hc, ht'⟩ := hi i (by omega)
    rw [hC] at hc
    obtain ⟨ys, n', hn', hy, hlen, hyl, hf⟩ := DataW.trod_struct he ht'
    obtain ⟨_, hcl, hat⟩ := World.cells?_some hc
    obtain ⟨ho, hk⟩ := hone_of hone j f hj
    have hjl : j < fs.size := (Array.getElem?_eq_some_iff.1 hj).1
    have hcell := hat j hjl
    have hv : cs'[j]? = some (cs'[j]'(by omega)) := List.getElem?_eq_getElem (by omega)
    have h1 := hf j f hj
    rw [ho, hk] at h1
    have hone' : (cs'.drop j).take 1 = [cs'[j]'(by omega)] := by
      rw [List.drop_eq_getElem_cons (by omega)]
      rfl
    rw [hone'] at h1
    have hys : ys[j]? = some (ys[j]'(by omega)) := List.getElem?_eq_getElem (by omega)
    refine ⟨a, _, _, _, rfl, ?_, h1.trans hys⟩
    rw [← Go.Deep.add_add, hcell, hv]

/-- .. of a slice whose elements are one cell. -/
theorem cells_of_ones {t e : TypeId} {fuel len cap : Nat} {A : Option Addr} {x : DataW H × List MemPlace} (ht : P.underlying t = some (.slice e))
    (hC : P.cellsOf e = 1) (h : DataW.trod enc P w base spare held fuel t [.slice A len cap] = some x) :
    len ≤ maxLen ∧ ∀ i, i < len →
      ∃ (ad : Addr) (v : Value) (n : Nat) (y : DataW H × List MemPlace), A = some ad ∧ w.cell? (ad.add (i * 1 + 0)) = some v ∧ DataW.trod enc P w base spare held n e [v] = some y := by
  rcases open_slice ht h with ⟨h0, _⟩ | ⟨a, len', cap', m, n, D, Pl, hcs, hb, hl, hm, hmm, hx, hi⟩
  · simp at h0
    obtain ⟨rfl, rfl, rfl⟩ := h0
    exact ⟨by simp [maxLen], fun _ h => absurd h (by omega)⟩
  · simp at hcs
    obtain ⟨rfl, rfl, rfl⟩ := hcs
    have hlm : len ≤ m := by
      rw [hmm]
      split
      · exact hl
      · exact Nat.le_refl _
    refine ⟨Nat.le_trans hl hm, fun i hil => ?_⟩
    obtain ⟨cs', hc, ht'⟩ := hi i (by omega)
    rw [hC] at hc
    obtain ⟨_, hcl, hat⟩ := World.cells?_some hc
    have hcell := hat 0 (by omega)
    have hcs' : cs' = [cs'[0]'(by omega)] := by
      apply List.ext_getElem
      · simp [hcl]
      · intro k h1 h2
        simp at h2
        subst h2
        rfl
    rw [hcs'] at ht'
    refine ⟨a, cs'[0]'(by omega), _, _, rfl, ?_, ht'⟩
    rw [← Go.Deep.add_add, hcell, List.getElem?_eq_getElem (by omega)]

theorem colI_of {len m j : Nat} {A : Option Addr} {e : TypeId} {k : IntKind} (hu : P.underlying e = some (.int k))
    (h : ∀ i, i < len → ∃ (ad : Addr) (v : Value) (n : Nat) (y : DataW H × List MemPlace), A = some ad ∧ w.cell? (ad.add (i * m + j)) = some v ∧ DataW.trod enc P w base spare held n e [v] = some y) :
    ∃ f : Nat → Int, ColI w A len m j k f := by
  have h' : ∀ i, ∃ a : Int, i < len → ∃ ad : Addr, A = some ad ∧ ad.block < w.heap.size ∧ w.cell? (ad.add (i * m + j)) = some (.int k a) ∧ (Lit.int k a).wf = true := by
    intro i
    by_cases hi : i < len
    · obtain ⟨ad, v, n, y, hA, hc, ht⟩ := h i hi
      obtain ⟨a, hv, _, hw⟩ := DataW.trod_int hu ht
      simp at hv
      subst hv
      exact ⟨a, fun _ => ⟨ad, hA, by have := World.block_lt_of_cell? w _ hc; rwa [block_add] at this, hc, hw⟩⟩
    · exact ⟨0, fun hh => absurd hh hi⟩
  obtain ⟨f, hf⟩ := Classical.axiomOfChoice h'
  exact ⟨f, hf⟩

theorem colB_of {len m j : Nat} {A : Option Addr} {e : TypeId} (hu : P.underlying e = some .bool)
    (h : ∀ i, i < len → ∃ (ad : Addr) (v : Value) (n : Nat) (y : DataW H × List MemPlace), A = some ad ∧ w.cell? (ad.add (i * m + j)) = some v ∧ DataW.trod enc P w base spare held n e [v] = some y) :
    ∃ f : Nat → Bool, ColB w A len m j f := by
  have h' : ∀ i, ∃ a : Bool, i < len → ∃ ad : Addr, A = some ad ∧ ad.block < w.heap.size ∧ w.cell? (ad.add (i * m + j)) = some (.bool a) := by
    intro i
    by_cases hi : i < len
    · obtain ⟨ad, v, n, y, hA, hc, ht⟩ := h i hi
      obtain ⟨a, hv, _⟩ := DataW.trod_bool hu ht
      simp at hv
      subst hv
      exact ⟨a, fun _ => ⟨ad, hA, by have := World.block_lt_of_cell? w _ hc; rwa [block_add] at this, hc⟩⟩
    · exact ⟨false, fun hh => absurd hh hi⟩
  obtain ⟨f, hf⟩ := Classical.axiomOfChoice h'
  exact ⟨f, hf⟩
end
end Go.Proofs.YtlomgbackphmmaaDoor
