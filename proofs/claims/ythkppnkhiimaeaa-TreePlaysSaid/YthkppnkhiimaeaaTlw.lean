/- Lemmas of the claim TreePlays. -/
import Derived.Test.YthkppnkhiimaeaaTsh
/- The tree's laws (layer 11): rows of whole numbers; leaves added in their order. -/
set_option linter.unusedVariables false
set_option linter.unusedSimpArgs false
namespace Go.Proofs.Ythkppnkhiimaeaa
open Go.RowKit
structure Ri (w : World) (base : Nat) (A : Option Addr) (L : List Int) : Prop where
  at_ : ∀ i, i < L.length → ∃ g, A = some ⟨g, 0, none⟩ ∧ base ≤ g ∧ w.cell? ⟨g, i, none⟩ = some (.int .i64 (L.getD i 0))
theorem Ri.of_row {w : World} {base n : Nat} {v : Value} {L : List Int} (h : w.ownsRow base 3 1 v n (nums L)) (hn : n = L.length) : ∃ A c, v = .slice A n c ∧ Ri w base A L := by
  rcases h.2 with ⟨rfl, h0⟩ | ⟨g, cap, cur, rfl, hb, _⟩
  · exact ⟨none, 0, by rw [h0], ⟨fun i hi => by omega⟩⟩
  · refine ⟨_, cap, rfl, ⟨fun i hi => ⟨g, rfl, hb, ?_⟩⟩⟩
    have := h.cells rfl i (.int .i64 (L.getD i 0)) (by unfold nums; rw [List.getElem?_map, List.getElem?_eq_getElem hi, List.getD_eq_getElem?_getD, List.getElem?_eq_getElem hi]; rfl)
    unfold Addr.add at this
    split at this
    · rename_i h0; subst h0; exact this
    · rw [Nat.zero_add] at this; exact this
theorem Ri.grown {w w1 : World} {base : Nat} {A : Option Addr} {L : List Int} (h : Ri w base A L) {d : Nat} (hg : w.grownBy w1 (some d)) (hd : d < base) : Ri w1 base A L := ⟨fun i hi => by
  obtain ⟨g, e, hb, hc⟩ := h.at_ i hi
  exact ⟨g, e, hb, hg.cell hc (fun e => by injection e with e; simp at e; omega)⟩⟩
theorem Ri.below {w w1 : World} {base : Nat} {A : Option Addr} {L : List Int} (h : Ri w base A L) (hb : Below w.heap.size w w1) : Ri w1 base A L := ⟨fun i hi => by
  obtain ⟨g, e, hb', hc⟩ := h.at_ i hi
  exact ⟨g, e, hb', (hb.cell (World.block_lt_of_cell? w _ hc)).trans hc⟩⟩
structure Fst (t : Bt) (k : Nat) : Prop where
  mem : ∀ x, x ∈ t.ids ↔ x ∈ lfs k
  len : t.ids.length = k
theorem Fst.nil : Fst .nil 0 := ⟨fun x => by simp [Bt.ids, lfs], rfl⟩
theorem Fst.add {t t' : Bt} {key : Int → Int} {k : Nat} (F : Fst t k) (h : t'.ids = ins key (lf k) t.ids) : Fst t' (k + 1) := by
  refine ⟨fun x => ?_, by rw [h, ins_len, F.len]⟩
  rw [h, mem_ins_iff, F.mem]
  unfold lfs
  rw [List.range_succ, List.map_append, List.mem_append]
  constructor
  · rintro (h | h)
    · exact .inr (by simp [h])
    · exact .inl h
  · rintro (h | h)
    · exact .inr h
    · simp at h; exact .inl h
theorem Fst.not {t : Bt} {k : Nat} (F : Fst t k) : lf k ∉ t.ids := fun h => by have := mem_lfs.1 ((F.mem _).1 h); omega
end Go.Proofs.Ythkppnkhiimaeaa
