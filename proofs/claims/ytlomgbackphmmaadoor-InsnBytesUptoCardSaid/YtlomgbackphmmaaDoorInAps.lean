/- append's law where the source is any slice, nil or not. -/
import Derived.Test.YtlomgbackphmmaaDoorInPa0
import Derived.Laws.AppendOwnNone
set_option linter.unusedVariables false
set_option linter.unusedSimpArgs false
namespace Go.Proofs.YtlomgbackphmmaaDoor
open Go.RowKit Go.Lib

/-- A slice whose cells are these. -/
structure Src (w : World) (A : Option Addr) (m size : Nat) (news : List Value) : Prop where
  len : news.length = m * size
  cells : ∀ ad, A = some ad → ∀ j u, news[j]? = some u → w.cell? (ad.add j) = some u
  zero : A = none → m = 0
  one : ∀ u ∈ news, u.oneCell' = true
theorem Src.of_pr {w : World} {A : Option Addr} {L : List Ins} (h : Pr w A L) : Src w A L.length 5 (flat L) :=
  ⟨flat_length L, fun ad e => by subst e; exact flat_cells h, fun e => by
    by_cases h0 : L.length = 0
    · exact h0
    · obtain ⟨ad, e', _⟩ := h.at' 0 (by omega)
      rw [e] at e'
      exact absurd e' (by simp), flat_one L⟩
theorem u8s_one (l : List Int) : ∀ u ∈ u8s l, u.oneCell' = true := by
  intro u hu
  unfold u8s at hu
  obtain ⟨x, _, rfl⟩ := List.mem_map.1 hu
  rfl
theorem Src.of_by {w : World} {A : Option Addr} {l : List Int} (h : By w A l) : Src w A l.length 1 (u8s l) :=
  ⟨by rw [Nat.mul_one]; exact List.length_map _, fun ad e j u hu => by
    have hj : j < l.length := by have := (List.getElem?_eq_some_iff.1 hu).1; unfold u8s at this; rwa [List.length_map] at this
    obtain ⟨ad', e', _, hc⟩ := h.at' j hj
    obtain rfl : ad = ad' := by rw [e] at e'; injection e'
    rw [hc, ← hu, u8s_at l j hj], fun e => by
    by_cases h0 : l.length = 0
    · exact h0
    · obtain ⟨ad, e', _⟩ := h.at' 0 (by omega)
      rw [e] at e'
      exact absurd e' (by simp), u8s_one l⟩

theorem grownBy_refl (w : World) (row : Option Nat) : w.grownBy w row := ⟨rfl, rfl, rfl, Nat.le_refl _, fun _ _ _ => rfl⟩
theorem run_append_none {P : Program} {w : World} (base : Nat) (t ty e : TypeId) (i : TypeInfo) (size : Nat) (ht : P.underlying t = some (.slice e)) (hi : P.info? e = some i)
    (v : Value) (n c : Nat) (xs : List Value) (hown : w.ownsRow base e size v n xs) :
    (Builtin.append_ #[t, t] ty #[v, .slice none 0 c]).run P w = .ok v w := by
  rcases hown.2 with ⟨rfl, rfl⟩ | ⟨g, cap, cur, rfl, _, _, hnc, _⟩
  · simp [Builtin.append_, run_underlying ht, sizeOf, typeInfo, hi, Builtin.lenOf, Builtin.firstCells]
  · simp [Builtin.append_, run_underlying ht, sizeOf, typeInfo, hi, Builtin.lenOf, Builtin.firstCells, hnc, storeCells]
theorem wp_append_src {P : Program} {w : World} {o : Oper} {a : Act} {K : Act → World → Prop} {Q : Exit → Act → World → Prop} (s x : Operand) (t : TypeId)
    (ho : o.op = .call { callee := .builtin .append, args := #[s, x], argTypes := #[t, t] })
    (base : Nat) (e : TypeId) (i : TypeInfo) (z : Value) (size bytes : Nat) (ht : P.underlying t = some (.slice e)) (hi : P.info? e = some i) (hz : i.zero = some z)
    (hsize : i.size = size) (hby : i.bytes = bytes) (hzs : z.cells.size = size) (hsz : 0 < size)
    (v : Value) (n : Nat) (xs : List Value) (hs : a.eval s = v) (hown : w.ownsRow base e size v n xs)
    (A : Option Addr) (m c : Nat) (news : List Value) (hx : a.eval x = .slice A m c) (S : Src w A m size news)
    (h63 : n + m ≤ maxLen) (hbytes : (n + m) * bytes ≤ 140737488355328) (hbase : base ≤ w.heap.size)
    (h : ∀ v' w', w'.ownsRow base e size v' (n + m) (xs ++ news) → w.grownBy w' v.ownBlock → K (a.put o.dst v') w') : o.wp P a w K Q := by
  cases A with
  | some ad => exact wp_append_own w s x t ho base e i z size bytes ht hi hz hsize hby hzs hsz v n xs hs hown ad m c news hx S.len (S.cells ad rfl) S.one h63 hbytes hbase fun v' w' h1 h2 _ => h v' w' h1 h2
  | none =>
    obtain rfl := S.zero rfl
    obtain rfl : news = [] := List.eq_nil_of_length_eq_zero (by rw [S.len]; omega)
    have hh := h v w (by rw [List.append_nil]; exact hown) (grownBy_refl w _)
    have hrun := run_append_none (P := P) (w := w) base t o.type e i size ht hi v n c xs hown
    unfold Oper.wp
    simp [execOp, ho, resolve, invoke, builtin, hs, hx, hrun, Result.andThen]
    exact hh
theorem wpList_append_src {P : Program} {w : World} {ops : Array Oper} {rest : List Oper} {o : Oper} {a : Act} {Q : Exit → Act → World → Prop} (hgd : o.guard = none) (s x : Operand) (t : TypeId)
    (ho : o.op = .call { callee := .builtin .append, args := #[s, x], argTypes := #[t, t] })
    (base : Nat) (e : TypeId) (i : TypeInfo) (z : Value) (size bytes : Nat) (ht : P.underlying t = some (.slice e)) (hi : P.info? e = some i) (hz : i.zero = some z)
    (hsize : i.size = size) (hby : i.bytes = bytes) (hzs : z.cells.size = size) (hsz : 0 < size)
    (v : Value) (n : Nat) (xs : List Value) (hs : a.eval s = v) (hown : w.ownsRow base e size v n xs)
    (A : Option Addr) (m c : Nat) (news : List Value) (hx : a.eval x = .slice A m c) (S : Src w A m size news)
    (h63 : n + m ≤ maxLen) (hbytes : (n + m) * bytes ≤ 140737488355328) (hbase : base ≤ w.heap.size)
    (h : ∀ v' w', w'.ownsRow base e size v' (n + m) (xs ++ news) → w.grownBy w' v.ownBlock → wpList P ops Q rest (a.put o.dst v') w') : wpList P ops Q (o :: rest) a w :=
  wpList_plain hgd fun _ hK => wp_append_src s x t ho base e i z size bytes ht hi hz hsize hby hzs hsz v n xs hs hown A m c news hx S h63 hbytes hbase fun v' w' h1 h2 => hK _ _ (h v' w' h1 h2)
theorem wanted_at {o o' : Oper} {ops : Array Oper} {tmps : Array Value} (j k : Nat) (b : Bool) (hg : o.guard = some (j, b)) (ho : ops[j]? = some o') (hd : o'.dst = some k) (ht : tmps[k]? = some (.bool b)) : Region.wanted o (yielded ops tmps) = true := by
  simp [Region.wanted, yielded, hg, ho, hd, ht]
/-- The same behind '&&' and '||'. -/
theorem wpList_append_srcG {P : Program} {w : World} {ops : Array Oper} {rest : List Oper} {o : Oper} {a : Act} {Q : Exit → Act → World → Prop} (hgd : Region.wanted o (yielded ops a.tmps) = true) (s x : Operand) (t : TypeId)
    (ho : o.op = .call { callee := .builtin .append, args := #[s, x], argTypes := #[t, t] })
    (base : Nat) (e : TypeId) (i : TypeInfo) (z : Value) (size bytes : Nat) (ht : P.underlying t = some (.slice e)) (hi : P.info? e = some i) (hz : i.zero = some z)
    (hsize : i.size = size) (hby : i.bytes = bytes) (hzs : z.cells.size = size) (hsz : 0 < size)
    (v : Value) (n : Nat) (xs : List Value) (hs : a.eval s = v) (hown : w.ownsRow base e size v n xs)
    (A : Option Addr) (m c : Nat) (news : List Value) (hx : a.eval x = .slice A m c) (S : Src w A m size news)
    (h63 : n + m ≤ maxLen) (hbytes : (n + m) * bytes ≤ 140737488355328) (hbase : base ≤ w.heap.size)
    (h : ∀ v' w', w'.ownsRow base e size v' (n + m) (xs ++ news) → w.grownBy w' v.ownBlock → wpList P ops Q rest (a.put o.dst v') w') : wpList P ops Q (o :: rest) a w :=
  wpList_step fun _ hK => by
    rw [if_pos hgd]
    exact wp_append_src s x t ho base e i z size bytes ht hi hz hsize hby hzs hsz v n xs hs hown A m c news hx S h63 hbytes hbase fun v' w' h1 h2 => hK _ _ (h v' w' h1 h2)
theorem lit_row (w : World) (e : TypeId) (size : Nat) : (w.alloc (.cells #[] e)).ownsRow w.heap.size e size (.slice (some ⟨w.heap.size, 0, none⟩) 0 0) 0 [] :=
  World.ownsRow_lit w #[] 0 (Nat.le_refl _) (by decide) (by rw [Nat.zero_mul]; rfl)
theorem lit_below {w w1 : World} {e : TypeId} (h : (w.alloc (.cells #[] e)).grownBy w1 (Value.slice (some ⟨w.heap.size, 0, none⟩) 0 0).ownBlock) : Below w.heap.size w w1 :=
  below_turn ((Below.refl _ w).alloc (Nat.le_refl _) _) h (Nat.le_refl _) (fun r e' => ((lit_row w e 1).lt r e').1)
theorem World.ownsRow.form {w : World} {base e size n : Nat} {v : Value} {xs : List Value} (h : w.ownsRow base e size v n xs) : ∃ A c, v = .slice A n c ∧ n ≤ c := by
  rcases h.2 with ⟨rfl, rfl⟩ | ⟨g, cap, cur, rfl, _, _, hc, _⟩
  · exact ⟨_, _, rfl, Nat.le_refl _⟩
  · exact ⟨_, _, rfl, hc⟩
theorem By.take {w : World} {A : Option Addr} {l : List Int} (h : By w A l) (k : Nat) : By w A (l.take k) := by
  refine ⟨fun i hi => ?_, fun x hx => h.rng x (List.mem_of_mem_take hx)⟩
  rw [List.length_take] at hi
  obtain ⟨ad, e, hl, hc⟩ := h.at' i (by omega)
  refine ⟨ad, e, hl, ?_⟩
  rw [hc, List.getD_eq_getElem?_getD, List.getD_eq_getElem?_getD, List.getElem?_take_of_lt (by omega)]
end Go.Proofs.YtlomgbackphmmaaDoor
