import Derived.Test.YtbngmkopgoelbaaDoorSlClasses
/- The slab (layer 3): rows of places that the call owns beside a slab. -/
set_option linter.unusedVariables false
set_option linter.unusedSimpArgs false
namespace Go.Proofs.YtbngmkopgoelbaaDoor
open Go.RowKit

theorem int_info : (Tryd.prog.info? 3).map (fun i => (i.zero, i.size, i.bytes)) = some (some (.int .i64 0), 1, 8) := by kernel_rfl
/-- Places, as values. -/
def vn (L : List Nat) : List Value := L.map (fun a : Nat => Value.int .i64 (a : Int))
theorem vn_length (L : List Nat) : (vn L).length = L.length := by simp [vn]
theorem vn_snoc (L : List Nat) (a : Nat) : vn L ++ [Value.int .i64 (a : Int)] = vn (L ++ [a]) := by simp [vn]
theorem len_snoc (L : List Nat) (a : Nat) : L.length + 1 = (L ++ [a]).length := by simp

section
variable {w0 w w1 : World} {s pa pd pp n B : Nat} {A : Nat → Ap} {bs : List Int}
/-- A row above the slab was turned. -/
theorem St.row (S : St w0 w s pa pd pp n A bs) {r : Option Nat} (hg : w.grownBy w1 r) (hs : s < B ∧ pa < B ∧ pd < B ∧ pp < B) (hB : w0.heap.size ≤ B) (hr : ∀ k, r = some k → B ≤ k) : St w0 w1 s pa pd pp n A bs := by
  obtain ⟨f, P, h1, h2⟩ := S.ex
  have hne : ∀ i, i < B → r ≠ some i := fun i hi e => by have := hr i e; omega
  refine ⟨⟨S.kept.below.grown hg S.kept.below.size (fun k hk => by have := hr k hk; omega)⟩, ⟨f, P, ⟨h1.sb.other hg (hne _ hs.1), ⟨(hg.block pa h1.ar.lt.1 (fun e => hne _ hs.2.1 e.symm)).trans h1.ar.hdr, (hg.block pd h1.ar.lt.2 (fun e => hne _ hs.2.2.1 e.symm)).trans h1.ar.row, h1.ar.ne, h1.ar.len, h1.ar.rng⟩, ⟨(hg.block pp h1.po.lt (fun e => hne _ hs.2.2.2 e.symm)).trans h1.po.blk, h1.po.len, h1.po.out⟩⟩, h2⟩, S.new, S.tb⟩
/-- The row lies as it lay where the slab alone was turned. -/
theorem row_fr {e : TypeId} {size k : Nat} {v : Value} {xs : List Value} (h : w.ownsRow B e size v k xs) (hF : Fr (S3 s pd pp) w w1) (hs : s < B ∧ pa < B ∧ pd < B ∧ pp < B) : w1.ownsRow B e size v k xs := by
  refine ⟨h.1, ?_⟩
  rcases h.2 with hn | ⟨g, cap, cur, rfl, hb, hgg, rest⟩
  · exact .inl hn
  · refine .inr ⟨g, cap, cur, rfl, hb, ?_, rest⟩
    rw [hF.block g (Array.getElem?_eq_some_iff.1 hgg).1 (by rintro (h | h | h) <;> omega)]
    exact hgg
theorem row_below {e : TypeId} {size k : Nat} {v : Value} {xs : List Value} (h : w.ownsRow B e size v k xs) (hF : Below w.heap.size w w1) : w1.ownsRow B e size v k xs := by
  refine ⟨h.1, ?_⟩
  rcases h.2 with hn | ⟨g, cap, cur, rfl, hb, hgg, rest⟩
  · exact .inl hn
  · refine .inr ⟨g, cap, cur, rfl, hb, ?_, rest⟩
    rw [hF.block g (Array.getElem?_eq_some_iff.1 hgg).1]
    exact hgg
theorem row_cells {v : Value} {L : List Nat} (h : w.ownsRow B 3 1 v L.length (vn L)) : ∃ A c, v = .slice A L.length c ∧ ∀ i, i < L.length → ∃ g, A = some ⟨g, 0, none⟩ ∧ w.cell? ⟨g, i, none⟩ = some (.int .i64 ((L.getD i 0 : Nat) : Int)) := by
  rcases h.2 with ⟨rfl, h0⟩ | ⟨g, cap, cur, rfl, hb, hgg, rest⟩
  · exact ⟨none, 0, by rw [h0], fun i hi => by omega⟩
  · refine ⟨_, cap, rfl, fun i hi => ⟨g, rfl, ?_⟩⟩
    rw [cell_of_row w g i _ _ _ hgg]
    have h2 := rest.2.2.2
    rw [Nat.mul_one] at h2
    have : (vn L)[i]? = some (.int .i64 ((L.getD i 0 : Nat) : Int)) := by
      unfold vn
      rw [List.getElem?_map, List.getD_eq_getElem?_getD, List.getElem?_eq_getElem hi]; rfl
    rw [← h2, List.getElem?_take_of_lt hi] at this
    rw [← Array.getElem?_toList]; exact this
end
end Go.Proofs.YtbngmkopgoelbaaDoor
