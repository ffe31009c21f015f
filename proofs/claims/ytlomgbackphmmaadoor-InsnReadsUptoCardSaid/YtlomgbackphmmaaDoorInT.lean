/- insn.Text: what an instruction's text is; an operation of a region that draws. -/
import Derived.Test.YtlomgbackphmmaaDoorInW
import Derived.Test.YtlomgbackphmmaaDoorInC3
import Derived.Test.YtlomgbackphmmaaDoorInC4
import Derived.Test.YtlomgbackphmmaaDoorRg
import Derived.Lib.Join
set_option linter.unusedVariables false
set_option linter.unusedSimpArgs false
namespace Go.Proofs.YtlomgbackphmmaaDoor
open Go.RowKit Go.Lib

theorem tabIs_below {P : Program} {w w' : World} {name : String} {k : IntKind} {zs : List Int} (h : TabIs P w name k zs) (hb : Below w.heap.size w w') : TabIs P w' name k zs := by
  unfold TabIs World.var? at *
  cases hg : P.globalNamed name with
  | none => simp [hg] at h
  | some g =>
    simp only [hg, Option.bind_some] at h ⊢
    have hlt : g < w.heap.size := by
      rcases Nat.lt_or_ge g w.heap.size with h' | h'
      · exact h'
      · rw [Array.getElem?_eq_none h'] at h; simp at h
    rw [hb.block g hlt]
    exact h
/-- The library's table of powers of ten. -/
def Pw (w : World) : Prop := TabIs Tryd.prog w "internal/strconv.uint64pow10" .u64 pow10Tab
theorem Pw.below {w w' : World} (h : Pw w) (hb : Below w.heap.size w w') : Pw w' := tabIs_below h hb

theorem Check_any (x : Ins) (hx : x.Ok) (w : World) : Calls Tryd.prog 13 #[.agg x.cells] w fun e w' => e = .returned (.int .i64 (chk x)) ∧ Below w.heap.size w w' := by
  obtain ⟨ho, ha, hb, hc, hi⟩ := hx
  obtain ⟨op, a, b, c, imm⟩ := x
  dsimp only at *
  by_cases h : op < 1 ∨ 15 < op
  · have e : chk ⟨op, a, b, c, imm⟩ = 3 := by
      unfold chk isOp
      rw [if_neg (by rw [Bool.and_eq_true, decide_eq_true_eq, decide_eq_true_eq]; dsimp only; omega)]
    rw [e]
    exact Check_bad op a b c imm w h ho.1 ho.2
  · have : op = 1 ∨ op = 2 ∨ op = 3 ∨ op = 4 ∨ op = 5 ∨ op = 6 ∨ op = 7 ∨ op = 8 ∨ op = 9 ∨ op = 10 ∨ op = 11 ∨ op = 12 ∨ op = 13 ∨ op = 14 ∨ op = 15 := by omega
    rcases this with rfl | rfl | rfl | rfl | rfl | rfl | rfl | rfl | rfl | rfl | rfl | rfl | rfl | rfl | rfl

    · exact Check_1 a b c imm w ha hb hc hi
    · exact Check_2 a b c imm w ha hb hc hi
    · exact Check_3 a b c imm w ha hb hc hi
    · exact Check_4 a b c imm w ha hb hc hi
    · exact Check_5 a b c imm w ha hb hc hi
    · exact Check_6 a b c imm w ha hb hc hi
    · exact Check_7 a b c imm w ha hb hc hi
    · exact Check_8 a b c imm w ha hb hc hi
    · exact Check_9 a b c imm w ha hb hc hi
    · exact Check_10 a b c imm w ha hb hc hi
    · exact Check_11 a b c imm w ha hb hc hi
    · exact Check_12 a b c imm w ha hb hc hi
    · exact Check_13 a b c imm w ha hb hc hi
    · exact Check_14 a b c imm w ha hb hc hi
    · exact Check_15 a b c imm w ha hb hc hi

/-- A number behind a sign; the operation's word. -/
def mkN (s : ByteArray) (n : Int) : ByteArray := s ++ dig n.toNat
def wrd (op c : Int) : ByteArray := (wl op).getD c.toNat ⟨#[]⟩
theorem wrd_no {op c : Int} (h : hasW op = false) : wrd op c = ⟨#[]⟩ := by
  unfold hasW at h
  simp at h
  unfold wrd wl
  rw [if_neg (by omega), if_neg (by omega), if_neg (by omega)]
  rfl
def sR : ByteArray := ⟨#[114]⟩
def sS : ByteArray := ⟨#[115]⟩
def sF : ByteArray := ⟨#[102]⟩
def sE : ByteArray := ⟨#[]⟩
def sP : ByteArray := ⟨#[43]⟩
/-- The parts of an instruction's text. -/
def parts (x : Ins) : List ByteArray :=
  if x.op = 1 then [⟨#[109, 111, 118]⟩, mkN sR x.a, mkN sR x.b] else
  if x.op = 2 then [⟨#[105, 109, 109]⟩, mkN sR x.a, mkN sE x.imm] else
  if x.op = 3 then [wrd x.op x.c, mkN sR x.a, mkN sR x.b] else
  if x.op = 4 then [wrd x.op x.c ++ ⟨#[105]⟩, mkN sR x.a, mkN sE x.imm] else
  if x.op = 5 then [⟨#[106, 109, 112]⟩, mkN sP x.imm] else
  if x.op = 6 then [⟨#[106]⟩ ++ wrd x.op x.c, mkN sR x.a, mkN sR x.b, mkN sP x.imm] else
  if x.op = 7 then [⟨#[106]⟩ ++ wrd x.op x.c ++ ⟨#[105]⟩, mkN sR x.a, mkN sE x.b, mkN sP x.imm] else
  if x.op = 8 then [⟨#[115, 97, 118, 101]⟩, mkN sS x.c, mkN sR x.a] else
  if x.op = 9 then [⟨#[108, 111, 97, 100]⟩, mkN sR x.a, mkN sS x.c] else
  if x.op = 10 then [⟨#[103, 101, 116]⟩, mkN sR x.a, mkN sR x.b, mkN sF x.c, mkN sE x.imm] else
  if x.op = 11 then [⟨#[103, 101, 116, 120]⟩, mkN sR x.a, mkN sR x.b, mkN sF x.c, mkN sR x.imm] else
  if x.op = 12 then [⟨#[112, 117, 116]⟩, mkN sR x.b, mkN sF x.c, mkN sE x.imm, mkN sR x.a] else
  if x.op = 13 then [⟨#[112, 117, 116, 120]⟩, mkN sR x.b, mkN sF x.c, mkN sR x.imm, mkN sR x.a] else
  if x.op = 14 then [⟨#[99, 97, 108, 108]⟩, wrd x.op x.c, mkN sE x.imm] else
  [⟨#[101, 120, 105, 116]⟩]
def txt (x : Ins) : ByteArray := ⟨(join ((parts x).map (·.data.toList)) [32]).toArray⟩

/-- The world of a call that has boxed its instruction. -/
structure Tx (w0 w : World) (g : Nat) (x : Ins) : Prop where
  box : w.heap[g]? = some (.cells x.cells 24)
  below : Below w0.heap.size w0 w
  new : w0.heap.size ≤ g
  pw : Pw w
section
variable {w0 w w1 : World} {g : Nat} {x : Ins}
theorem Tx.lt (h : Tx w0 w g x) : g < w.heap.size := (Array.getElem?_eq_some_iff.1 h.box).1
theorem Tx.then_ (h : Tx w0 w g x) (hb : Below w.heap.size w w1) : Tx w0 w1 g x := ⟨(hb.block g h.lt).trans h.box, h.below.trans (hb.mono h.below.size), h.new, h.pw.below hb⟩
theorem Tx.drew (h : Tx w0 w g x) : Tx w0 w.drew g x := h.then_ (Below.refl _ _).drew
theorem Tx.c0 (h : Tx w0 w g x) : w.cell? ⟨g, 0, none⟩ = some (.int .u8 x.op) := by rw [cell_of_row w g 0 _ _ _ h.box]; rfl
theorem Tx.c1 (h : Tx w0 w g x) : w.cell? ⟨g, 1, none⟩ = some (.int .u8 x.a) := by rw [cell_of_row w g 1 _ _ _ h.box]; rfl
theorem Tx.c2 (h : Tx w0 w g x) : w.cell? ⟨g, 2, none⟩ = some (.int .u8 x.b) := by rw [cell_of_row w g 2 _ _ _ h.box]; rfl
theorem Tx.c3 (h : Tx w0 w g x) : w.cell? ⟨g, 3, none⟩ = some (.int .u8 x.c) := by rw [cell_of_row w g 3 _ _ _ h.box]; rfl
theorem Tx.c4 (h : Tx w0 w g x) : w.cell? ⟨g, 4, none⟩ = some (.int .u32 x.imm) := by rw [cell_of_row w g 4 _ _ _ h.box]; rfl
theorem Tx.mark (h : Tx w0 w g x) (s : ByteArray) (hs : s.size ≤ 1) (n : Int) (h0 : 0 ≤ n) (h1 : n ≤ 4294967295) :
    Calls Tryd.prog 22 #[.string s, .int .u32 n] w fun e w' => e = .returned (.string (mkN s n)) ∧ Tx w0 w' g x := by
  obtain ⟨u, rfl⟩ := Int.eq_ofNat_of_zero_le h0
  refine (mark_calls s hs u (by omega) w h.pw).mono ?_
  rintro e w' ⟨rfl, hb⟩
  exact ⟨rfl, h.then_ hb⟩
theorem Tx.mark2 (h : Tx w0 w g x) (hb : Below w.heap.size w w1) (s : ByteArray) (hs : s.size ≤ 1) (n : Int) (h0 : 0 ≤ n) (h1 : n ≤ 4294967295) :
    Calls Tryd.prog 22 #[.string s, .int .u32 n] w1 fun e w' => e = .returned (.string (mkN s n)) ∧ Tx w0 w' g x ∧ Below w1.heap.size w1 w' := by
  obtain ⟨u, rfl⟩ := Int.eq_ofNat_of_zero_le h0
  refine (mark_calls s hs u (by omega) w1 (h.then_ hb).pw).mono ?_
  rintro e w' ⟨rfl, hb'⟩
  exact ⟨rfl, (h.then_ hb).then_ hb', hb'⟩
end
theorem join_ge (xs : List ByteArray) : xs.length ≤ (join (xs.map (·.data.toList)) [32]).length + 1 := by
  have key : ∀ r : List (List UInt8), r.length ≤ (joinTail [32] r).length := by
    intro r
    induction r with
    | nil => exact Nat.le_refl _
    | cons y r ih =>
      unfold joinTail at ih ⊢
      simp only [List.map_cons, List.flatten_cons, List.length_append, List.length_cons, List.length_nil] at ih ⊢
      omega
  cases xs with
  | nil => exact Nat.zero_le _
  | cons x xs =>
    have := key (xs.map (·.data.toList))
    rw [List.map_cons, join_cons, List.length_append, List.length_cons]
    rw [List.length_map] at this
    omega
/-- A row of strings. -/
structure Sl (w : World) (bk : Nat) (xs : List ByteArray) : Prop where
  lt : bk < w.heap.size
  at_ : ∀ (j : Nat) x, xs[j]? = some x → w.cell? ⟨bk, 0 + j, none⟩ = some (.string x)
theorem Sl.new (xs : List ByteArray) (w : World) (n : Nat) (hn : n = w.heap.size) (T : TypeId) : Sl (w.alloc (.cells (xs.map Value.string).toArray T)) n xs := by
  subst hn
  refine ⟨by rw [World.size_alloc]; omega, fun j x hx => ?_⟩
  rw [World.cell?_alloc_new, List.getElem?_toArray, List.getElem?_map, Nat.zero_add, hx]
  rfl
theorem Sl.below {w w1 : World} {bk : Nat} {xs : List ByteArray} (h : Sl w bk xs) (hb : Below w.heap.size w w1) : Sl w1 bk xs := ⟨Nat.lt_of_lt_of_le h.lt hb.size, fun j x hx => (hb.cell (p := ⟨bk, 0 + j, none⟩) h.lt).trans (h.at_ j x hx)⟩
theorem Sl.alloc {w : World} {bk : Nat} {xs : List ByteArray} (h : Sl w bk xs) (o : Obj) : Sl (w.alloc o) bk xs := h.below ((Below.refl _ _).alloc (Nat.le_refl _) o)

theorem join_sl (xs : List ByteArray) (n : Nat) (hn : xs.length = n) (bk : Nat) (w : World) (hs : Sl w bk xs) (hl : (join (xs.map (·.data.toList)) [32]).length ≤ 105) :
    Calls Tryd.prog 24 #[.slice (some ⟨bk, 0, none⟩) n n, .string ⟨#[32]⟩] w fun e w' => e = .returned (.string ⟨(join (xs.map (·.data.toList)) [32]).toArray⟩) ∧ Below w.heap.size w w' := by
  have h2 := join_ge xs
  subst hn
  exact Tryd.strings_Join bk 0 xs.length xs ⟨#[32]⟩ w hs.at_ hs.lt (by omega) (Nat.le_refl _) (Nat.le_trans hl (by decide))

section
variable {Q : Exit → Act → World → Prop} {I : World → Prop} {l : List (Nat × Value)} {a0 : Act} {ops : Array Oper} {i d t : Nat} {o : Oper} {pos : String} {after : Array Edge} {guard : Option (Nat × Bool)} {ty : TypeId} {g : Nat}

theorem st_fld0 (ho : o = { dst := some d, op := .fieldAddr 24 (.tmp t) 0, type := ty, pos, after, guard })
    (hx : l[i]? = some (d, .pointer (some ⟨g, 0, none⟩))) (hg : Yes ops l o) (hn : offL l t = true) (h3 : a0.tmps.getD t undef = .pointer (some ⟨g, 0, none⟩)) : Settled Tryd.prog ops Q I l a0 i o := by
  subst ho
  refine settled_do _ hx hg ?_
  intro a w K hdep hb hI hk
  have e3 : a.tmps.getD t undef = .pointer (some ⟨g, 0, none⟩) := (hb t (offL_of hn)).trans h3
  have hk2 := hk w hI
  clear hk hdep hb hx hg
  go_simp
  exact hk2
theorem st_fld1 (ho : o = { dst := some d, op := .fieldAddr 24 (.tmp t) 1, type := ty, pos, after, guard })
    (hx : l[i]? = some (d, .pointer (some ⟨g, 1, none⟩))) (hg : Yes ops l o) (hn : offL l t = true) (h3 : a0.tmps.getD t undef = .pointer (some ⟨g, 0, none⟩)) : Settled Tryd.prog ops Q I l a0 i o := by
  subst ho
  refine settled_do _ hx hg ?_
  intro a w K hdep hb hI hk
  have e3 : a.tmps.getD t undef = .pointer (some ⟨g, 0, none⟩) := (hb t (offL_of hn)).trans h3
  have hk2 := hk w hI
  clear hk hdep hb hx hg
  go_simp
  exact hk2
theorem st_fld2 (ho : o = { dst := some d, op := .fieldAddr 24 (.tmp t) 2, type := ty, pos, after, guard })
    (hx : l[i]? = some (d, .pointer (some ⟨g, 2, none⟩))) (hg : Yes ops l o) (hn : offL l t = true) (h3 : a0.tmps.getD t undef = .pointer (some ⟨g, 0, none⟩)) : Settled Tryd.prog ops Q I l a0 i o := by
  subst ho
  refine settled_do _ hx hg ?_
  intro a w K hdep hb hI hk
  have e3 : a.tmps.getD t undef = .pointer (some ⟨g, 0, none⟩) := (hb t (offL_of hn)).trans h3
  have hk2 := hk w hI
  clear hk hdep hb hx hg
  go_simp
  exact hk2
theorem st_fld3 (ho : o = { dst := some d, op := .fieldAddr 24 (.tmp t) 3, type := ty, pos, after, guard })
    (hx : l[i]? = some (d, .pointer (some ⟨g, 3, none⟩))) (hg : Yes ops l o) (hn : offL l t = true) (h3 : a0.tmps.getD t undef = .pointer (some ⟨g, 0, none⟩)) : Settled Tryd.prog ops Q I l a0 i o := by
  subst ho
  refine settled_do _ hx hg ?_
  intro a w K hdep hb hI hk
  have e3 : a.tmps.getD t undef = .pointer (some ⟨g, 0, none⟩) := (hb t (offL_of hn)).trans h3
  have hk2 := hk w hI
  clear hk hdep hb hx hg
  go_simp
  exact hk2
theorem st_fld4 (ho : o = { dst := some d, op := .fieldAddr 24 (.tmp t) 4, type := ty, pos, after, guard })
    (hx : l[i]? = some (d, .pointer (some ⟨g, 4, none⟩))) (hg : Yes ops l o) (hn : offL l t = true) (h3 : a0.tmps.getD t undef = .pointer (some ⟨g, 0, none⟩)) : Settled Tryd.prog ops Q I l a0 i o := by
  subst ho
  refine settled_do _ hx hg ?_
  intro a w K hdep hb hI hk
  have e3 : a.tmps.getD t undef = .pointer (some ⟨g, 0, none⟩) := (hb t (offL_of hn)).trans h3
  have hk2 := hk w hI
  clear hk hdep hb hx hg
  go_simp
  exact hk2
theorem st_ld8 {ad : Addr} {n : Int} (j : Nat) (ho : o = { dst := some d, op := .load 5 (.tmp t), type := ty, pos, after, guard })
    (hx : l[i]? = some (d, .int .u8 n)) (hg : Yes ops l o) (hj : onB o j = true) (hl : l[j]? = some (t, .pointer (some ad))) (hS : ∀ w, I w → w.cell? ad = some (.int .u8 n)) : Settled Tryd.prog ops Q I l a0 i o := by
  subst ho
  refine settled_do _ hx hg ?_
  intro a w K hdep hb hI hk
  have e3 : a.tmps.getD t undef = .pointer (some ad) := by
    obtain ⟨e, he, hbd, rfl⟩ := onB_of hj
    exact hdep e he hbd _ hl
  have hc := hS w hI
  have hk2 := hk w hI
  clear hk hdep hb hx hg hj hl
  go_simp
  exact hk2
theorem st_ld32 {ad : Addr} {n : Int} (j : Nat) (ho : o = { dst := some d, op := .load 22 (.tmp t), type := ty, pos, after, guard })
    (hx : l[i]? = some (d, .int .u32 n)) (hg : Yes ops l o) (hj : onB o j = true) (hl : l[j]? = some (t, .pointer (some ad))) (hS : ∀ w, I w → w.cell? ad = some (.int .u32 n)) : Settled Tryd.prog ops Q I l a0 i o := by
  subst ho
  refine settled_do _ hx hg ?_
  intro a w K hdep hb hI hk
  have e3 : a.tmps.getD t undef = .pointer (some ad) := by
    obtain ⟨e, he, hbd, rfl⟩ := onB_of hj
    exact hdep e he hbd _ hl
  have hc := hS w hI
  have hk2 := hk w hI
  clear hk hdep hb hx hg hj hl
  go_simp
  exact hk2
theorem st_cv {n : Int} (h0 : 0 ≤ n) (h1 : n ≤ 255) (j : Nat) (ho : o = { dst := some d, op := .convert 5 22 (.tmp t), type := ty, pos, after, guard })
    (hx : l[i]? = some (d, .int .u32 n)) (hg : Yes ops l o) (hj : onB o j = true) (hl : l[j]? = some (t, .int .u8 n)) : Settled Tryd.prog ops Q I l a0 i o := by
  subst ho
  refine settled_do _ hx hg ?_
  intro a w K hdep hb hI hk
  have e3 : a.tmps.getD t undef = .int .u8 n := by
    obtain ⟨e, he, hbd, rfl⟩ := onB_of hj
    exact hdep e he hbd _ hl
  have hk2 := hk w hI
  have hw : IntKind.u32.wrap n = n := by rw [IntKind.wrap_u32]; omega
  clear hk hdep hb hx hg hj hl
  go_simp
  try rw [hw]
  exact hk2
theorem args2 {x y : Operand} {a b : Value} (h1 : OpV l a0 o x a) (h2 : OpV l a0 o y b) : ∀ (k : Nat) u v, #[x, y][k]? = some u → #[a, b][k]? = some v → OpV l a0 o u v := by
  intro k u v hu hv
  match k with
  | 0 => simp at hu hv; subst hu; subst hv; exact h1
  | 1 => simp at hu hv; subst hu; subst hv; exact h2
  | k + 2 => simp at hu
theorem enters_mark (vs : Array Value) (w : World) : (callFunc 22 vs).run Tryd.prog w = .ok (.enter 22 vs) w := by go_simp
end
end Go.Proofs.YtlomgbackphmmaaDoor
