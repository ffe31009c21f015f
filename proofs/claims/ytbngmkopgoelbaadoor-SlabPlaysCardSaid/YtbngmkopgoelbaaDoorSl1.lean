import Derived.Test.YtbngmkopgoelbaaDoorSlMgB
import Derived.Test.YtbngmkopgoelbaaDoorCol
/- The slab (layer 3): how it lies in memory; Arena, Used, class, bit, find. -/
set_option linter.unusedVariables false
set_option linter.unusedSimpArgs false
namespace Go.Proofs.YtbngmkopgoelbaaDoor
open Go.RowKit

/-- A page's numbers. -/
structure Pg where
  c : Int
  t : Int
  m : Int
  f : Int

/-- A slab in memory. -/
structure Sb (w : World) (s pa pp : Nat) (P : Nat → Pg) (u : Int) : Prop where
  ex : ∃ cs : Array Value, w.heap[s]? = some (.cells cs 67 (0, 0)) ∧ cs.size = 515 ∧ cs[0]? = some (.pointer (some ⟨pa, 0, none⟩)) ∧ cs[1]? = some (.pointer (some ⟨pp, 0, none⟩)) ∧
    (∀ i, i < 128 → cs[2 + i * 4]? = some (.int .i64 (P i).c) ∧ cs[2 + i * 4 + 1]? = some (.int .u32 (P i).t) ∧ cs[2 + i * 4 + 2]? = some (.int .i64 (P i).m) ∧ cs[2 + i * 4 + 3]? = some (.int .i64 (P i).f)) ∧ cs[514]? = some (.int .i64 u)

section
variable {w w1 : World} {s pa pp : Nat} {P : Nat → Pg} {u : Int}
theorem Sb.lt (h : Sb w s pa pp P u) : s < w.heap.size := by
  obtain ⟨cs, hp, _⟩ := h.ex
  exact (Array.getElem?_eq_some_iff.1 hp).1
theorem Sb.turn {w1 : World} (h : Sb w s pa pp P u) (e : w1.heap[s]? = w.heap[s]?) : Sb w1 s pa pp P u := by
  obtain ⟨cs, hp, h2⟩ := h.ex
  exact ⟨cs, e.trans hp, h2⟩
theorem Sb.below (h : Sb w s pa pp P u) (hb : Below w.heap.size w w1) : Sb w1 s pa pp P u := h.turn (hb.block s h.lt)
theorem Sb.other (h : Sb w s pa pp P u) {r : Option Nat} (hg : w.grownBy w1 r) (hr : r ≠ some s) : Sb w1 s pa pp P u := h.turn (hg.block s h.lt (fun e => hr e.symm))
theorem Sb.c0 (h : Sb w s pa pp P u) : w.cell? ⟨s, 0, none⟩ = some (.pointer (some ⟨pa, 0, none⟩)) := by
  obtain ⟨cs, hp, hs, h0, h1, hP, hu⟩ := h.ex
  rw [cell_of_row w s 0 _ _ _ hp, h0]
theorem Sb.c1 (h : Sb w s pa pp P u) : w.cell? ⟨s, 1, none⟩ = some (.pointer (some ⟨pp, 0, none⟩)) := by
  obtain ⟨cs, hp, hs, h0, h1, hP, hu⟩ := h.ex
  rw [cell_of_row w s 1 _ _ _ hp, h1]
theorem Sb.cu (h : Sb w s pa pp P u) : w.cell? ⟨s, 514, none⟩ = some (.int .i64 u) := by
  obtain ⟨cs, hp, hs, h0, h1, hP, hu⟩ := h.ex
  rw [cell_of_row w s 514 _ _ _ hp, hu]
theorem Sb.pg (h : Sb w s pa pp P u) (i : Nat) (hi : i < 128) : w.cell? ⟨s, 2 + i * 4, none⟩ = some (.int .i64 (P i).c) ∧ w.cell? ⟨s, 2 + i * 4 + 1, none⟩ = some (.int .u32 (P i).t) ∧ w.cell? ⟨s, 2 + i * 4 + 2, none⟩ = some (.int .i64 (P i).m) ∧ w.cell? ⟨s, 2 + i * 4 + 3, none⟩ = some (.int .i64 (P i).f) := by
  obtain ⟨cs, hp, hs, h0, h1, hP, hu⟩ := h.ex
  have := hP i hi
  refine ⟨?_, ?_, ?_, ?_⟩
  · rw [cell_of_row w s _ _ _ _ hp, this.1]
  · rw [cell_of_row w s _ _ _ _ hp, this.2.1]
  · rw [cell_of_row w s _ _ _ _ hp, this.2.2.1]
  · rw [cell_of_row w s _ _ _ _ hp, this.2.2.2]
theorem Sb.frozen (h : Sb w s pa pp P u) (i : Nat) : w.frozen? ⟨s, i, none⟩ = false := by
  obtain ⟨cs, hp, _⟩ := h.ex
  simp [World.frozen?, hp]
/-- A store into the slab: the row behind it. -/
theorem set_row {cs : Array Value} {T : TypeId} (hp : w.heap[s]? = some (.cells cs T (0, 0))) (o : Nat) (v : Value) : (w.setCell ⟨s, o, none⟩ v).heap[s]? = some (.cells (cs.setIfInBounds o v) T (0, 0)) := by
  show (w.setCell ⟨s, o, none⟩ v).heap[s]? = _
  simp [World.setCell, Array.getElem?_modify, hp]
def updP (P : Nat → Pg) (p : Nat) (x : Pg) : Nat → Pg := fun i => if i = p then x else P i
theorem Sb.setU (h : Sb w s pa pp P u) (v : Int) : Sb (w.setCell ⟨s, 514, none⟩ (.int .i64 v)) s pa pp P v := by
  obtain ⟨cs, hp, hs, h0, h1, hP, hu⟩ := h.ex
  refine ⟨_, set_row hp 514 _, by simp [hs], ?_, ?_, ?_, ?_⟩
  · rw [Array.getElem?_setIfInBounds]; simpa using h0
  · rw [Array.getElem?_setIfInBounds]; simpa using h1
  · intro i hi
    simp only [Array.getElem?_setIfInBounds]
    rw [if_neg (by omega), if_neg (by omega), if_neg (by omega), if_neg (by omega)]
    exact hP i hi
  · rw [Array.getElem?_setIfInBounds, if_pos rfl, hs]; simp
theorem Sb.setP (h : Sb w s pa pp P u) (p : Nat) (hp' : p < 128) (k : Nat) (hk : k < 4) (v : Value) (x : Pg)
    (e0 : if k = 0 then v = .int .i64 x.c else x.c = (P p).c) (e1 : if k = 1 then v = .int .u32 x.t else x.t = (P p).t) (e2 : if k = 2 then v = .int .i64 x.m else x.m = (P p).m) (e3 : if k = 3 then v = .int .i64 x.f else x.f = (P p).f) :
    Sb (w.setCell ⟨s, 2 + p * 4 + k, none⟩ v) s pa pp (updP P p x) u := by
  obtain ⟨cs, hp, hs, h0, h1, hP, hu⟩ := h.ex
  refine ⟨_, set_row hp _ _, by simp [hs], ?_, ?_, ?_, ?_⟩
  · rw [Array.getElem?_setIfInBounds, if_neg (by omega)]; exact h0
  · rw [Array.getElem?_setIfInBounds, if_neg (by omega)]; exact h1
  · intro i hi
    simp only [Array.getElem?_setIfInBounds, hs]
    unfold updP
    by_cases e : i = p
    · subst e
      have := hP i hi
      rw [if_pos rfl]
      refine ⟨?_, ?_, ?_, ?_⟩
      · by_cases hk0 : k = 0
        · rw [if_pos hk0] at e0; rw [if_pos (by omega), if_pos (by omega), e0]
        · rw [if_neg hk0] at e0; rw [if_neg (by omega), e0]; exact this.1
      · by_cases hk0 : k = 1
        · rw [if_pos hk0] at e1; rw [if_pos (by omega), if_pos (by omega), e1]
        · rw [if_neg hk0] at e1; rw [if_neg (by omega), e1]; exact this.2.1
      · by_cases hk0 : k = 2
        · rw [if_pos hk0] at e2; rw [if_pos (by omega), if_pos (by omega), e2]
        · rw [if_neg hk0] at e2; rw [if_neg (by omega), e2]; exact this.2.2.1
      · by_cases hk0 : k = 3
        · rw [if_pos hk0] at e3; rw [if_pos (by omega), if_pos (by omega), e3]
        · rw [if_neg hk0] at e3; rw [if_neg (by omega), e3]; exact this.2.2.2
    · rw [if_neg e, if_neg (by omega), if_neg (by omega), if_neg (by omega), if_neg (by omega)]
      exact hP i hi
  · rw [Array.getElem?_setIfInBounds, if_neg (by omega)]; exact hu
end

theorem SArena_calls {w : World} {s pa pp : Nat} {P : Nat → Pg} {u : Int} (h : Sb w s pa pp P u) :
    Calls Tryd.prog 14 #[.pointer (some ⟨s, 0, none⟩)] w fun e w' => e = .returned (.pointer (some ⟨pa, 0, none⟩)) ∧ w = w' := by
  have c0 := h.c0
  clear h
  go_enter Tryd.func14, Tryd.ntmps14
  go_wp2
  go_ret
  exact ⟨rfl, rfl⟩
theorem SArena_nil (w : World) :
    Calls Tryd.prog 14 #[.pointer none] w fun e w' => e = .returned (.pointer none) ∧ w = w' := by
  go_enter Tryd.func14, Tryd.ntmps14
  go_wp2
  go_ret
  exact ⟨rfl, rfl⟩
theorem Used_calls {w : World} {s pa pp : Nat} {P : Nat → Pg} {u : Int} (h : Sb w s pa pp P u) :
    Calls Tryd.prog 18 #[.pointer (some ⟨s, 0, none⟩)] w fun e w' => e = .returned (.int .i64 u) ∧ w = w' := by
  have cu := h.cu
  clear h
  go_enter Tryd.func18, Tryd.ntmps18
  go_wp2
  go_ret
  exact ⟨rfl, rfl⟩
theorem Used_nil (w : World) :
    Calls Tryd.prog 18 #[.pointer none] w fun e w' => e = .returned (.int .i64 0) ∧ w = w' := by
  go_enter Tryd.func18, Tryd.ntmps18
  go_wp2
  go_ret
  exact ⟨rfl, rfl⟩
theorem Pages_nil (w : World) :
    Calls Tryd.prog 19 #[.pointer none] w fun e w' => e = .returned (.int .i64 0) ∧ w = w' := by
  go_enter Tryd.func19, Tryd.ntmps19
  go_wp2
  go_ret
  exact ⟨rfl, rfl⟩

theorem class_calls (m : Nat) (w : World) (h0 : 1 ≤ m) (h1 : m ≤ 256) :
    Calls Tryd.prog 30 #[.int .i64 (m : Int)] w fun e w' => e = .returned (.int .i64 ((cls m : Nat) : Int)) ∧ w = w' := by
  by_cases a1 : m ≤ 16
  · have e : cls m = 16 := by unfold cls; rw [if_pos a1]
    rw [e]
    go_enter Tryd.func30, Tryd.ntmps30
    go_wp2_with fail
    refine wp_loop_rounds 1 ?_
    rw [rounds_succ]
    go_wp2
    go_ret
    exact ⟨rfl, rfl⟩
  by_cases a2 : m ≤ 32
  · have e : cls m = 32 := by unfold cls; rw [if_neg a1, if_pos a2]
    rw [e]
    go_enter Tryd.func30, Tryd.ntmps30
    go_wp2_with fail
    refine wp_loop_rounds 2 ?_
    rw [rounds_succ]
    go_wp2_with fail
    rw [rounds_succ]
    go_wp2
    go_ret
    exact ⟨rfl, rfl⟩
  by_cases a3 : m ≤ 64
  · have e : cls m = 64 := by unfold cls; rw [if_neg a1, if_neg a2, if_pos a3]
    rw [e]
    go_enter Tryd.func30, Tryd.ntmps30
    go_wp2_with fail
    refine wp_loop_rounds 3 ?_
    rw [rounds_succ]
    go_wp2_with fail
    rw [rounds_succ]
    go_wp2_with fail
    rw [rounds_succ]
    go_wp2
    go_ret
    exact ⟨rfl, rfl⟩
  by_cases a4 : m ≤ 128
  · have e : cls m = 128 := by unfold cls; rw [if_neg a1, if_neg a2, if_neg a3, if_pos a4]
    rw [e]
    go_enter Tryd.func30, Tryd.ntmps30
    go_wp2_with fail
    refine wp_loop_rounds 4 ?_
    rw [rounds_succ]
    go_wp2_with fail
    rw [rounds_succ]
    go_wp2_with fail
    rw [rounds_succ]
    go_wp2_with fail
    rw [rounds_succ]
    go_wp2
    go_ret
    exact ⟨rfl, rfl⟩
  · have e : cls m = 256 := by unfold cls; rw [if_neg a1, if_neg a2, if_neg a3, if_neg a4]
    rw [e]
    go_enter Tryd.func30, Tryd.ntmps30
    go_wp2_with fail
    refine wp_loop_rounds 5 ?_
    rw [rounds_succ]
    go_wp2_with fail
    rw [rounds_succ]
    go_wp2_with fail
    rw [rounds_succ]
    go_wp2_with fail
    rw [rounds_succ]
    go_wp2_with fail
    rw [rounds_succ]
    go_wp2
    go_ret
    exact ⟨rfl, rfl⟩

theorem bit_core (a c : Int) (r : Nat) (w : World) (hr : r < 32) (h0 : 0 ≤ a) (h1 : a < 65536) (hc : 16 ≤ c) (e : a % 512 / c = (r : Int)) (e3 : IntKind.u32.wrap ((2 : Int) ^ r) = ((2 ^ r : Nat) : Int)) :
    Calls Tryd.prog 34 #[.int .i64 a, .int .i64 c] w fun e w' => e = .returned (.int .u32 (((2 ^ r : Nat) : Int))) ∧ w = w' := by
  have hcz : (c == 0) = false := beq_eq_false_iff_ne.2 (by omega)
  have E3 := Lib.hid e3
  clear e3
  go_enter Tryd.func34, Tryd.ntmps34
  go_wp2_with (simp only [e])
  go_ret
  refine ⟨ret_int ?_, rfl⟩
  exact E3.out
/-- The bit of a block in its page's word. -/
theorem bit_calls (a c : Nat) (w : World) (hc : isC c) (ha : a < 65536) :
    Calls Tryd.prog 34 #[.int .i64 (a : Int), .int .i64 (c : Int)] w fun e w' => e = .returned (.int .u32 (((2 ^ (a % 512 / c) : Nat) : Int))) ∧ w = w' := by
  have hr := r_lt (a := a) hc
  have hpos := hc.pos
  have hp : 2 ^ (a % 512 / c) < 2 ^ 32 := Nat.pow_lt_pow_right (by omega) hr
  refine bit_core _ _ _ w hr (by omega) (by omega) (by omega) ?_ ?_
  · rcases hc with rfl | rfl | rfl | rfl | rfl <;> omega
  · rw [show ((2 : Int) ^ (a % 512 / c)) = ((2 ^ (a % 512 / c) : Nat) : Int) from by simp, IntKind.wrap_u32]
    generalize 2 ^ (a % 512 / c) = y at *
    omega
end Go.Proofs.YtbngmkopgoelbaaDoor
