/- insn.Text, plain: how long a text is at most. -/
import Derived.Test.YtlomgbackphmmaaDoorInT
set_option linter.unusedVariables false
set_option linter.unusedSimpArgs false
namespace Go.Proofs.YtlomgbackphmmaaDoor
open Go.RowKit Go.Lib

theorem data_add (a b : ByteArray) : (a ++ b).data.toList = a.data.toList ++ b.data.toList := by simp
theorem join_len : ∀ (xs : List (List UInt8)), (∀ x ∈ xs, x.length ≤ 20) → (join xs [32]).length ≤ 21 * xs.length
  | [], _ => by simp [join_nil]
  | x :: xs, h => by
    rw [join_cons, List.length_append]
    have h1 := h x (List.mem_cons_self ..)
    have h2 : ∀ r : List (List UInt8), (∀ x ∈ r, x.length ≤ 20) → (joinTail [32] r).length ≤ 21 * r.length := by
      intro r
      induction r with
      | nil => intro _; simp [joinTail]
      | cons y r ih =>
        intro hr
        have e1 := hr y (List.mem_cons_self ..)
        have e2 := ih (fun z hz => hr z (List.mem_cons_of_mem _ hz))
        unfold joinTail at e2 ⊢
        simp only [List.map_cons, List.flatten_cons, List.length_append, List.length_cons, List.length_nil] at e2 ⊢
        omega
    have h3 := h2 xs (fun z hz => h z (List.mem_cons_of_mem _ hz))
    rw [List.length_cons]
    omega
theorem mkN_len (s : ByteArray) (hs : s.size ≤ 1) (n : Int) (h0 : 0 ≤ n) (h1 : n ≤ 4294967295) : (mkN s n).data.toList.length ≤ 20 := by
  unfold mkN
  rw [data_add, List.length_append]
  have h2 := dig_size n.toNat (by omega)
  have e : ∀ b : ByteArray, b.data.toList.length = b.size := fun b => rfl
  rw [e, e]
  show s.size + (dig n.toNat).size ≤ 20
  unfold dig at *
  omega
theorem wrd_len (op c : Int) : (wrd op c).data.toList.length ≤ 9 := by
  have key : ∀ (L : List ByteArray) (k : Nat), (∀ b ∈ L, b.data.toList.length ≤ 9) → (L.getD k ⟨#[]⟩).data.toList.length ≤ 9 := by
    intro L k hL
    rw [List.getD_eq_getElem?_getD]
    cases h : L[k]? with
    | none => simp
    | some b => exact hL b (List.mem_of_getElem? h)
  unfold wrd wl
  apply key
  split
  · decide
  · split
    · decide
    · split
      · decide
      · intro b hb; cases hb
theorem l105 : (⟨#[105]⟩ : ByteArray).data.toList.length = 1 := rfl
theorem l106 : (⟨#[106]⟩ : ByteArray).data.toList.length = 1 := rfl
theorem parts_len (x : Ins) (hx : x.Ok) : ∀ p ∈ (parts x).map (·.data.toList), p.length ≤ 20 := by
  obtain ⟨ho, ⟨a0, a1⟩, ⟨b0, b1⟩, ⟨c0, c1⟩, ⟨i0, i1⟩⟩ := hx
  have r1 := mkN_len sR (by decide) x.a a0 (by omega)
  have r2 := mkN_len sR (by decide) x.b b0 (by omega)
  have r3 := mkN_len sE (by decide) x.b b0 (by omega)
  have r4 := mkN_len sE (by decide) x.imm i0 i1
  have r5 := mkN_len sP (by decide) x.imm i0 i1
  have r6 := mkN_len sR (by decide) x.imm i0 i1
  have r7 := mkN_len sS (by decide) x.c c0 (by omega)
  have r8 := mkN_len sF (by decide) x.c c0 (by omega)
  have r9 := wrd_len x.op x.c
  intro p hp
  obtain ⟨b, hb, rfl⟩ := List.mem_map.1 hp
  clear hp
  unfold parts at hb
  by_cases e1 : x.op = 1
  · rw [if_pos e1] at hb
    (simp only [List.mem_cons, List.not_mem_nil, or_false] at hb; rcases hb with rfl | rfl | rfl <;> first | assumption | decide | (rw [data_add, List.length_append, data_add, List.length_append, l105, l106]; omega) | (rw [data_add, List.length_append, l105]; omega) | (rw [data_add, List.length_append, l106]; omega) | omega)
  rw [if_neg e1] at hb
  by_cases e2 : x.op = 2
  · rw [if_pos e2] at hb
    (simp only [List.mem_cons, List.not_mem_nil, or_false] at hb; rcases hb with rfl | rfl | rfl <;> first | assumption | decide | (rw [data_add, List.length_append, data_add, List.length_append, l105, l106]; omega) | (rw [data_add, List.length_append, l105]; omega) | (rw [data_add, List.length_append, l106]; omega) | omega)
  rw [if_neg e2] at hb
  by_cases e3 : x.op = 3
  · rw [if_pos e3] at hb
    (simp only [List.mem_cons, List.not_mem_nil, or_false] at hb; rcases hb with rfl | rfl | rfl <;> first | assumption | decide | (rw [data_add, List.length_append, data_add, List.length_append, l105, l106]; omega) | (rw [data_add, List.length_append, l105]; omega) | (rw [data_add, List.length_append, l106]; omega) | omega)
  rw [if_neg e3] at hb
  by_cases e4 : x.op = 4
  · rw [if_pos e4] at hb
    (simp only [List.mem_cons, List.not_mem_nil, or_false] at hb; rcases hb with rfl | rfl | rfl <;> first | assumption | decide | (rw [data_add, List.length_append, data_add, List.length_append, l105, l106]; omega) | (rw [data_add, List.length_append, l105]; omega) | (rw [data_add, List.length_append, l106]; omega) | omega)
  rw [if_neg e4] at hb
  by_cases e5 : x.op = 5
  · rw [if_pos e5] at hb
    (simp only [List.mem_cons, List.not_mem_nil, or_false] at hb; rcases hb with rfl | rfl <;> first | assumption | decide | (rw [data_add, List.length_append, data_add, List.length_append, l105, l106]; omega) | (rw [data_add, List.length_append, l105]; omega) | (rw [data_add, List.length_append, l106]; omega) | omega)
  rw [if_neg e5] at hb
  by_cases e6 : x.op = 6
  · rw [if_pos e6] at hb
    (simp only [List.mem_cons, List.not_mem_nil, or_false] at hb; rcases hb with rfl | rfl | rfl | rfl <;> first | assumption | decide | (rw [data_add, List.length_append, data_add, List.length_append, l105, l106]; omega) | (rw [data_add, List.length_append, l105]; omega) | (rw [data_add, List.length_append, l106]; omega) | omega)
  rw [if_neg e6] at hb
  by_cases e7 : x.op = 7
  · rw [if_pos e7] at hb
    (simp only [List.mem_cons, List.not_mem_nil, or_false] at hb; rcases hb with rfl | rfl | rfl | rfl <;> first | assumption | decide | (rw [data_add, List.length_append, data_add, List.length_append, l105, l106]; omega) | (rw [data_add, List.length_append, l105]; omega) | (rw [data_add, List.length_append, l106]; omega) | omega)
  rw [if_neg e7] at hb
  by_cases e8 : x.op = 8
  · rw [if_pos e8] at hb
    (simp only [List.mem_cons, List.not_mem_nil, or_false] at hb; rcases hb with rfl | rfl | rfl <;> first | assumption | decide | (rw [data_add, List.length_append, data_add, List.length_append, l105, l106]; omega) | (rw [data_add, List.length_append, l105]; omega) | (rw [data_add, List.length_append, l106]; omega) | omega)
  rw [if_neg e8] at hb
  by_cases e9 : x.op = 9
  · rw [if_pos e9] at hb
    (simp only [List.mem_cons, List.not_mem_nil, or_false] at hb; rcases hb with rfl | rfl | rfl <;> first | assumption | decide | (rw [data_add, List.length_append, data_add, List.length_append, l105, l106]; omega) | (rw [data_add, List.length_append, l105]; omega) | (rw [data_add, List.length_append, l106]; omega) | omega)
  rw [if_neg e9] at hb
  by_cases e10 : x.op = 10
  · rw [if_pos e10] at hb
    (simp only [List.mem_cons, List.not_mem_nil, or_false] at hb; rcases hb with rfl | rfl | rfl | rfl | rfl <;> first | assumption | decide | (rw [data_add, List.length_append, data_add, List.length_append, l105, l106]; omega) | (rw [data_add, List.length_append, l105]; omega) | (rw [data_add, List.length_append, l106]; omega) | omega)
  rw [if_neg e10] at hb
  by_cases e11 : x.op = 11
  · rw [if_pos e11] at hb
    (simp only [List.mem_cons, List.not_mem_nil, or_false] at hb; rcases hb with rfl | rfl | rfl | rfl | rfl <;> first | assumption | decide | (rw [data_add, List.length_append, data_add, List.length_append, l105, l106]; omega) | (rw [data_add, List.length_append, l105]; omega) | (rw [data_add, List.length_append, l106]; omega) | omega)
  rw [if_neg e11] at hb
  by_cases e12 : x.op = 12
  · rw [if_pos e12] at hb
    (simp only [List.mem_cons, List.not_mem_nil, or_false] at hb; rcases hb with rfl | rfl | rfl | rfl | rfl <;> first | assumption | decide | (rw [data_add, List.length_append, data_add, List.length_append, l105, l106]; omega) | (rw [data_add, List.length_append, l105]; omega) | (rw [data_add, List.length_append, l106]; omega) | omega)
  rw [if_neg e12] at hb
  by_cases e13 : x.op = 13
  · rw [if_pos e13] at hb
    (simp only [List.mem_cons, List.not_mem_nil, or_false] at hb; rcases hb with rfl | rfl | rfl | rfl | rfl <;> first | assumption | decide | (rw [data_add, List.length_append, data_add, List.length_append, l105, l106]; omega) | (rw [data_add, List.length_append, l105]; omega) | (rw [data_add, List.length_append, l106]; omega) | omega)
  rw [if_neg e13] at hb
  by_cases e14 : x.op = 14
  · rw [if_pos e14] at hb
    (simp only [List.mem_cons, List.not_mem_nil, or_false] at hb; rcases hb with rfl | rfl | rfl <;> first | assumption | decide | (rw [data_add, List.length_append, data_add, List.length_append, l105, l106]; omega) | (rw [data_add, List.length_append, l105]; omega) | (rw [data_add, List.length_append, l106]; omega) | omega)
  rw [if_neg e14] at hb
  (simp only [List.mem_cons, List.not_mem_nil, or_false] at hb; rcases hb with rfl <;> first | assumption | decide | (rw [data_add, List.length_append, data_add, List.length_append, l105, l106]; omega) | (rw [data_add, List.length_append, l105]; omega) | (rw [data_add, List.length_append, l106]; omega) | omega)
theorem parts_length (x : Ins) : (parts x).length ≤ 5 := by
  unfold parts
  by_cases e1 : x.op = 1
  · rw [if_pos e1]; simp
  rw [if_neg e1]
  by_cases e2 : x.op = 2
  · rw [if_pos e2]; simp
  rw [if_neg e2]
  by_cases e3 : x.op = 3
  · rw [if_pos e3]; simp
  rw [if_neg e3]
  by_cases e4 : x.op = 4
  · rw [if_pos e4]; simp
  rw [if_neg e4]
  by_cases e5 : x.op = 5
  · rw [if_pos e5]; simp
  rw [if_neg e5]
  by_cases e6 : x.op = 6
  · rw [if_pos e6]; simp
  rw [if_neg e6]
  by_cases e7 : x.op = 7
  · rw [if_pos e7]; simp
  rw [if_neg e7]
  by_cases e8 : x.op = 8
  · rw [if_pos e8]; simp
  rw [if_neg e8]
  by_cases e9 : x.op = 9
  · rw [if_pos e9]; simp
  rw [if_neg e9]
  by_cases e10 : x.op = 10
  · rw [if_pos e10]; simp
  rw [if_neg e10]
  by_cases e11 : x.op = 11
  · rw [if_pos e11]; simp
  rw [if_neg e11]
  by_cases e12 : x.op = 12
  · rw [if_pos e12]; simp
  rw [if_neg e12]
  by_cases e13 : x.op = 13
  · rw [if_pos e13]; simp
  rw [if_neg e13]
  by_cases e14 : x.op = 14
  · rw [if_pos e14]; simp
  rw [if_neg e14]
  simp
theorem txt_len (x : Ins) (hx : x.Ok) : (join ((parts x).map (·.data.toList)) [32]).length ≤ 105 := by
  have h1 := join_len _ (parts_len x hx)
  have h2 := parts_length x
  rw [List.length_map] at h1
  omega
theorem txt_size (x : Ins) (hx : x.Ok) : (txt x).size ≤ 105 := by
  show ((join ((parts x).map (·.data.toList)) [32]).toArray).size ≤ 105
  rw [List.size_toArray]
  exact txt_len x hx
theorem chk_op {x : Ins} (h : chk x = 0) : 1 ≤ x.op ∧ x.op ≤ 15 := by
  unfold chk at h
  split at h
  · rename_i hh
    unfold isOp at hh
    rw [Bool.and_eq_true, decide_eq_true_eq, decide_eq_true_eq] at hh
    exact hh
  · omega
theorem chk_word {x : Ins} (h : chk x = 0) (hc : 0 ≤ x.c) (hw : hasW x.op = true) : 1 ≤ x.c ∧ x.c < ((wl x.op).length : Int) := by
  obtain ⟨h1, h2⟩ := chk_op h
  have h3 : x.op = 3 ∨ x.op = 4 ∨ x.op = 6 ∨ x.op = 7 ∨ x.op = 14 := by
    unfold hasW at hw
    simp at hw
    omega
  obtain ⟨op, a, b, c, imm⟩ := x
  dsimp only at *
  rcases h3 with rfl | rfl | rfl | rfl | rfl
  all_goals
    simp [chk, isOp, hasW, over, bnd] at h
    simp [wl, wAlu, wCond, wCall]
    omega
end Go.Proofs.YtlomgbackphmmaaDoor
