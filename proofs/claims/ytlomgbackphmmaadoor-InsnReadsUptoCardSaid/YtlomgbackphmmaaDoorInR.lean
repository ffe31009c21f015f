/- insn.Read: its closures. -/
import Derived.Test.YtlomgbackphmmaaDoorInO2
import Derived.Test.YtlomgbackphmmaaDoorInT2
import Derived.Laws.EntriesVeiled
set_option linter.unusedVariables false
set_option linter.unusedSimpArgs false
namespace Go.Proofs.YtlomgbackphmmaaDoor
open Go.RowKit Go.Lib

/-- The k-th part of a text; behind the last one: the empty one. -/
def ptAt (L : List ByteArray) (k : Nat) : ByteArray := L.getD k ⟨#[]⟩
/-- What Read has in memory. -/
structure Rw (w : World) (g4 g6 B : Nat) (L : List ByteArray) : Prop where
  c4 : w.heap[g4]? = some (.cells #[.slice (some ⟨B, 0, none⟩) L.length L.length] 51)
  c6 : w.heap[g6]? = some (.cells #[.func (.func 34) #[] #[.pointer (some ⟨g4, 0, none⟩)]] 69)
  row : w.heap[B]? = some (.cells ((L.map Value.string).toArray) 9)
  len : L.length ≤ 4294967295
  sz : ∀ p ∈ L, p.size ≤ 4294967295
section
variable {w w1 : World} {g4 g6 B : Nat} {L : List ByteArray}
theorem blk_lt' {w : World} {g : Nat} {o : Obj} (h : w.heap[g]? = some o) : g < w.heap.size := (Array.getElem?_eq_some_iff.1 h).1
theorem Rw.then_ (h : Rw w g4 g6 B L) (hb : Below w.heap.size w w1) : Rw w1 g4 g6 B L :=
  ⟨(hb.block g4 (blk_lt' h.c4)).trans h.c4, (hb.block g6 (blk_lt' h.c6)).trans h.c6, (hb.block B (blk_lt' h.row)).trans h.row, h.len, h.sz⟩
theorem Rw.k4 (h : Rw w g4 g6 B L) : w.cell? ⟨g4, 0, none⟩ = some (.slice (some ⟨B, 0, none⟩) L.length L.length) := by rw [cell_of_row w g4 0 _ _ _ h.c4]; rfl
theorem Rw.k6 (h : Rw w g4 g6 B L) : w.cell? ⟨g6, 0, none⟩ = some (.func (.func 34) #[] #[.pointer (some ⟨g4, 0, none⟩)]) := by rw [cell_of_row w g6 0 _ _ _ h.c6]; rfl
theorem Rw.kr (h : Rw w g4 g6 B L) (k : Nat) (hk : k < L.length) : w.cell? ⟨B, k, none⟩ = some (.string (ptAt L k)) := by
  rw [cell_of_row w B k _ _ _ h.row, List.getElem?_toArray, List.getElem?_map]
  unfold ptAt
  rw [List.getD_eq_getElem?_getD, List.getElem?_eq_getElem hk]
  rfl
theorem at_any (h : Rw w g4 g6 B L) (k : Nat) (hk : k ≤ 100) : Calls Tryd.prog 34 #[.int .i64 k, .pointer (some ⟨g4, 0, none⟩)] w fun e w' => e = .returned (.string (ptAt L k)) ∧ w = w' := by
  have k4 := h.k4
  have hl := h.len
  by_cases hlt : k < L.length
  · have kr := h.kr k hlt
    have hd : decide ((k : Int) < (L.length : Int)) = true := decide_eq_true (by omega)
    have hk2 : (k : Int) < (L.length : Int) := by omega
    clear h
    generalize L.length = n at *
    go_enter Tryd.func34, Tryd.ntmps34
    go_wp2
    go_ret
    exact ⟨rfl, rfl⟩
  · have hv : ptAt L k = ⟨#[]⟩ := by
      unfold ptAt
      rw [List.getD_eq_getElem?_getD, List.getElem?_eq_none (by omega)]
      rfl
    have hd : decide ((k : Int) < (L.length : Int)) = false := decide_eq_false (by omega)
    rw [hv]
    clear h hv
    generalize L.length = n at *
    go_enter Tryd.func34, Tryd.ntmps34
    go_wp2
    go_ret
    exact ⟨rfl, rfl⟩
theorem small_any (h : Rw w g4 g6 B L) (k : Nat) (hk : k ≤ 100) (s : ByteArray) : Calls Tryd.prog 35 #[.int .i64 k, .string s, .pointer (some ⟨g6, 0, none⟩)] w fun e w' => e = .returned (.int .u8 (numV (ptAt L k).data.toList s.data.toList % 256)) ∧ Below w.heap.size w w' := by
  have HR := Lib.hid h
  have k6 := h.k6
  have hr := numV_range (ptAt L k).data.toList s.data.toList
  have hN := number_any (ptAt L k) s 255
  obtain ⟨v, hv⟩ : ∃ v, numV (ptAt L k).data.toList s.data.toList = v := ⟨_, rfl⟩
  rw [hv] at hr hN ⊢
  obtain ⟨hr0, hr1⟩ := hr
  have HN := Lib.hid hN
  clear h hv hN
  go_enter Tryd.func35, Tryd.ntmps35
  go_wp2_with fail
  refine (at_any HR.out k hk).mono ?_
  rintro e w2 ⟨rfl, rfl⟩
  go_wp2_with fail
  refine (HN.out _).mono ?_
  rintro e w3 ⟨b, rfl, hB⟩
  have HB := Lib.hid hB
  clear hB
  go_wp2
  go_ret
  exact ⟨rfl, HB.out⟩
theorem wide_any (h : Rw w g4 g6 B L) (k : Nat) (hk : k ≤ 100) (s : ByteArray) : Calls Tryd.prog 37 #[.int .i64 k, .string s, .pointer (some ⟨g6, 0, none⟩)] w fun e w' => e = .returned (.int .u32 (numV (ptAt L k).data.toList s.data.toList)) ∧ Below w.heap.size w w' := by
  have HR := Lib.hid h
  have k6 := h.k6
  have hN := number_any (ptAt L k) s 4294967295
  obtain ⟨v, hv⟩ : ∃ v, numV (ptAt L k).data.toList s.data.toList = v := ⟨_, rfl⟩
  rw [hv] at hN ⊢
  have HN := Lib.hid hN
  clear h hv hN
  go_enter Tryd.func37, Tryd.ntmps37
  go_wp2_with fail
  refine (at_any HR.out k hk).mono ?_
  rintro e w2 ⟨rfl, rfl⟩
  go_wp2_with fail
  refine (HN.out _).mono ?_
  rintro e w3 ⟨b, rfl, hB⟩
  have HB := Lib.hid hB
  clear hB
  go_wp2
  go_ret
  exact ⟨rfl, HB.out⟩
end
end Go.Proofs.YtlomgbackphmmaaDoor
