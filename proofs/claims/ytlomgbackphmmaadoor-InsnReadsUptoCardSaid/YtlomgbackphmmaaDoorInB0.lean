/- Rows of instructions and of bytes, as they lie in memory. -/
import Derived.Test.YtlomgbackphmmaaDoorInBx
import Derived.Handy
import Derived.OwnWalk
import Derived.Laws.OwnMore
import Derived.Deep.Onto
set_option linter.unusedVariables false
set_option linter.unusedSimpArgs false
namespace Go.Proofs.YtlomgbackphmmaaDoor
open Go.RowKit Go.Lib

/-- The cells of a row of instructions. -/
def flat : List Ins → List Value
  | [] => []
  | x :: L => x.cells.toList ++ flat L
theorem flat_append : ∀ (L M : List Ins), flat (L ++ M) = flat L ++ flat M
  | [], M => rfl
  | x :: L, M => by
    show x.cells.toList ++ flat (L ++ M) = (x.cells.toList ++ flat L) ++ flat M
    rw [flat_append L M, List.append_assoc]
theorem flat_at : ∀ (L : List Ins) (i j : Nat) (v : Value), i < L.length → (L.getD i z0).cells[j]? = some v → (flat L)[i * 5 + j]? = some v
  | [], i, j, v, h, _ => absurd h (by simp)
  | x :: L, 0, j, v, h, hv => by
    have hv' : x.cells.toList[j]? = some v := by rw [Array.getElem?_toList]; exact hv
    have hj : j < x.cells.toList.length := (List.getElem?_eq_some_iff.1 hv').1
    show (x.cells.toList ++ flat L)[0 * 5 + j]? = some v
    rw [Nat.zero_mul, Nat.zero_add, List.getElem?_append_left hj]; exact hv'
  | x :: L, i + 1, j, v, h, hv => by
    have ih := flat_at L i j v (by simp at h; omega) (by simpa using hv)
    show (x.cells.toList ++ flat L)[(i + 1) * 5 + j]? = some v
    have hl : x.cells.toList.length = 5 := rfl
    rw [List.getElem?_append_right (by rw [hl]; omega), hl, show (i + 1) * 5 + j - 5 = i * 5 + j from by omega]
    exact ih
theorem flat_length : ∀ L : List Ins, (flat L).length = L.length * 5
  | [] => rfl
  | x :: L => by
    have e : x.cells.toList.length = 5 := rfl
    show (x.cells.toList ++ flat L).length = (L.length + 1) * 5
    rw [List.length_append, flat_length L, e]
    omega
theorem flat_one : ∀ L : List Ins, ∀ u ∈ flat L, u.oneCell' = true
  | [], u, h => by cases h
  | x :: L, u, h => by
    rcases List.mem_append.1 (show u ∈ x.cells.toList ++ flat L from h) with h | h
    · simp at h
      rcases h with rfl | rfl | rfl | rfl | rfl <;> rfl
    · exact flat_one L u h
theorem flat_cells {w : World} {ad : Addr} {L : List Ins} (h : Pr w (some ad) L) : ∀ j u, (flat L)[j]? = some u → w.cell? (ad.add j) = some u := by
  intro j u hu
  have hj : j < (flat L).length := (List.getElem?_eq_some_iff.1 hu).1
  rw [flat_length] at hj
  have hi : j / 5 < L.length := by omega
  obtain ⟨ad', e, _, hc⟩ := h.at' (j / 5) hi
  obtain rfl : ad = ad' := by injection e
  have hr : j % 5 < (L.getD (j / 5) z0).cells.size := Nat.mod_lt _ (by decide)
  have hv := flat_at L (j / 5) (j % 5) _ hi (Array.getElem?_eq_getElem hr)
  have hjj : j / 5 * 5 + j % 5 = j := by omega
  rw [hjj, hu] at hv
  have := hc (j % 5) _ (Array.getElem?_eq_getElem hr)
  rw [hjj] at this
  rw [this, hv]
theorem Pr.of_row {w : World} {base n : Nat} {v : Value} {L : List Ins} (h : w.ownsRow base 24 5 v n (flat L)) (hn : n = L.length) (hok : ∀ x ∈ L, x.Ok) : ∃ A c, v = .slice A n c ∧ Pr w A L := by
  rcases h.2 with ⟨rfl, h0⟩ | ⟨g, cap, cur, rfl, hb, hg, _⟩
  · exact ⟨none, 0, by rw [h0], ⟨fun i hi => by omega, hok⟩⟩
  · exact ⟨_, cap, rfl, ⟨fun i hi => ⟨_, rfl, (Array.getElem?_eq_some_iff.1 hg).1, fun j v hv => h.cells rfl _ _ (flat_at L i j v hi hv)⟩, hok⟩⟩
theorem insn_info : (Tryd.prog.info? 24).map (fun i => (i.zero, i.size, i.bytes)) = some (some (.agg #[.int .u8 0, .int .u8 0, .int .u8 0, .int .u8 0, .int .u32 0]), 5, 8) := by kernel_rfl
theorem byte_info : (Tryd.prog.info? 5).map (fun i => (i.zero, i.size, i.bytes)) = some (some (.int .u8 0), 1, 1) := by kernel_rfl
theorem row_form {w : World} {base e size n : Nat} {v : Value} {xs : List Value} (h : w.ownsRow base e size v n xs) : ∃ A c, v = .slice A n c := by
  rcases h.2 with ⟨rfl, rfl⟩ | ⟨g, cap, cur, rfl, _⟩
  · exact ⟨_, _, rfl⟩
  · exact ⟨_, _, rfl⟩
theorem row_below {w w1 : World} {base : Nat} {e : TypeId} {size : Nat} {v : Value} {n : Nat} {xs : List Value} (h : w.ownsRow base e size v n xs) (hb : Below w.heap.size w w1) : w1.ownsRow base e size v n xs := by
  refine ⟨h.1, ?_⟩
  rcases h.2 with hn | ⟨g, cap, cur, rfl, hbb, hgg, rest⟩
  · exact .inl hn
  · exact .inr ⟨g, cap, cur, rfl, hbb, (hb.block g (Array.getElem?_eq_some_iff.1 hgg).1).trans hgg, rest⟩
theorem below_turn {w0 X Y : World} {row : Option Nat} {N : Nat} (h : Below w0.heap.size w0 X) (hg : X.grownBy Y row) (hN : w0.heap.size ≤ N) (hr : ∀ r, row = some r → N ≤ r) : Below w0.heap.size w0 Y :=
  h.grown hg h.size (fun k e => by have := hr k e; omega)
theorem new_cells (w : World) (a b c d e : Value) : ∀ j u, [a, b, c, d, e][j]? = some u → (w.alloc (.cells #[a, b, c, d, e] 24)).cell? ((⟨w.heap.size, 0, none⟩ : Addr).add j) = some u := by
  intro j u hj
  match j, hj with
  | 0, hj => simp at hj; subst hj; simp [Addr.add]
  | 1, hj => simp at hj; subst hj; simp [Addr.add]
  | 2, hj => simp at hj; subst hj; simp [Addr.add]
  | 3, hj => simp at hj; subst hj; simp [Addr.add]
  | 4, hj => simp at hj; subst hj; simp [Addr.add]
  | j + 5, hj => simp at hj
theorem new_bytes4 (w : World) (T : TypeId) (a b c d : Value) : ∀ j u, [a, b, c, d][j]? = some u → (w.alloc (.cells #[a, b, c, d] T)).cell? ((⟨w.heap.size, 0, none⟩ : Addr).add j) = some u := by
  intro j u hj
  match j, hj with
  | 0, hj => simp at hj; subst hj; simp [Addr.add]
  | 1, hj => simp at hj; subst hj; simp [Addr.add]
  | 2, hj => simp at hj; subst hj; simp [Addr.add]
  | 3, hj => simp at hj; subst hj; simp [Addr.add]
  | j + 4, hj => simp at hj
theorem new_bytes1 (w : World) (T : TypeId) (a : Value) : ∀ j u, [a][j]? = some u → (w.alloc (.cells #[a] T)).cell? ((⟨w.heap.size, 0, none⟩ : Addr).add j) = some u := by
  intro j u hj
  match j, hj with
  | 0, hj => simp at hj; subst hj; simp [Addr.add]
  | j + 1, hj => simp at hj

/-- The bytes of an instruction. -/
def enc (x : Ins) : List Int := [x.op, x.a, x.b, x.c, x.imm % 256, x.imm / 256 % 256, x.imm / 65536 % 256, x.imm / 16777216 % 256]
def encs : List Ins → List Int
  | [] => []
  | x :: L => enc x ++ encs L
theorem encs_append : ∀ (L M : List Ins), encs (L ++ M) = encs L ++ encs M
  | [], M => rfl
  | x :: L, M => by
    show enc x ++ encs (L ++ M) = (enc x ++ encs L) ++ encs M
    rw [encs_append L M, List.append_assoc]
theorem encs_length : ∀ L : List Ins, (encs L).length = 8 * L.length
  | [] => rfl
  | x :: L => by
    show (enc x ++ encs L).length = 8 * (L.length + 1)
    rw [List.length_append, encs_length L]
    show 8 + 8 * L.length = _
    omega
def u8s (l : List Int) : List Value := l.map (Value.int .u8)
theorem u8s_append (a b : List Int) : u8s (a ++ b) = u8s a ++ u8s b := List.map_append

/-- While bytes are laid down: the row, a box, and nothing old has turned. -/
structure Lay (w0 : World) (g : Nat) (x : Ins) (v : Value) (l : List Int) (k : Nat) (w : World) : Prop where
  row : w.ownsRow w0.heap.size 5 1 v k (u8s l)
  bx : Bx w g x
  below : Below w0.heap.size w0 w
theorem Bx.ne_row {w : World} {g base n : Nat} {x : Ins} {v : Value} {xs : List Value} (h : Bx w g x) (hr : w.ownsRow base 5 1 v n xs) : some g ≠ v.ownBlock := by
  rcases hr.2 with ⟨rfl, _⟩ | ⟨g', cap, cur, rfl, _, hg, _⟩
  · intro e; cases e
  · intro e
    have e' : g = g' := by simpa [Value.ownBlock] using e
    subst e'
    have := h.symm.trans hg
    cases this
theorem Lay.turn {w0 w w1 : World} {g j k : Nat} {x : Ins} {v v' : Value} {l m : List Int} {o : Obj} (S : Lay w0 g x v l k w) (ho : w1.ownsRow w0.heap.size 5 1 v' (k + j) (u8s l ++ u8s m)) (hg : (w.alloc o).grownBy w1 v.ownBlock) : Lay w0 g x v' (l ++ m) (k + j) w1 := by
  refine ⟨by rw [u8s_append]; exact ho, ?_, ?_⟩
  · exact (hg.block g (by have := S.bx.lt; simp; omega) (S.bx.ne_row S.row)).trans ((((Below.refl _ _).alloc (Nat.le_refl _) o).block g S.bx.lt).trans S.bx)
  · exact below_turn (S.below.alloc S.below.size o) hg (Nat.le_refl _) (fun k e => (S.row.lt k e).1)
theorem Lay.start {w0 w : World} {v : Value} {l : List Int} {k : Nat} (hr : w.ownsRow w0.heap.size 5 1 v k (u8s l)) (hb : Below w0.heap.size w0 w) (x : Ins) : Lay w0 w.heap.size x v l k (w.alloc (.cells x.cells 24)) :=
  ⟨hr.alloc _, Bx.new w x, hb.alloc hb.size _⟩
end Go.Proofs.YtlomgbackphmmaaDoor
