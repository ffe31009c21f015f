/- insn.Read: the walk. -/
import Derived.Test.YtlomgbackphmmaaDoorInR
set_option linter.unusedVariables false
set_option linter.unusedSimpArgs false
namespace Go.Proofs.YtlomgbackphmmaaDoor
open Go.RowKit Go.Lib

def smallF (L : List ByteArray) (k : Nat) (s : ByteArray) : Int := numV (ptAt L k).data.toList s.data.toList % 256
def wideF (L : List ByteArray) (k : Nat) (s : ByteArray) : Int := numV (ptAt L k).data.toList s.data.toList
/-- What is read of the parts, right or wrong. -/
def candO (L : List ByteArray) (op c : Int) : Ins :=
  if op = 1 ∨ op = 3 then ⟨op, smallF L 1 sR, smallF L 2 sR, c, 0⟩ else
  if op = 2 ∨ op = 4 then ⟨op, smallF L 1 sR, 0, c, wideF L 2 sE⟩ else
  if op = 5 then ⟨op, 0, 0, c, wideF L 1 sP⟩ else
  if op = 6 then ⟨op, smallF L 1 sR, smallF L 2 sR, c, wideF L 3 sP⟩ else
  if op = 7 then ⟨op, smallF L 1 sR, smallF L 2 sE, c, wideF L 3 sP⟩ else
  if op = 8 then ⟨op, smallF L 2 sR, 0, smallF L 1 sS, 0⟩ else
  if op = 9 then ⟨op, smallF L 1 sR, 0, smallF L 2 sS, 0⟩ else
  if op = 10 then ⟨op, smallF L 1 sR, smallF L 2 sR, smallF L 3 sF, wideF L 4 sE⟩ else
  if op = 11 then ⟨op, smallF L 1 sR, smallF L 2 sR, smallF L 3 sF, wideF L 4 sR⟩ else
  if op = 12 then ⟨op, smallF L 4 sR, smallF L 1 sR, smallF L 2 sF, wideF L 3 sE⟩ else
  if op = 13 then ⟨op, smallF L 4 sR, smallF L 1 sR, smallF L 2 sF, wideF L 3 sR⟩ else
  if op = 14 then ⟨op, 0, 0, placeF 14 (ptAt L 1), wideF L 2 sE⟩ else ⟨op, 0, 0, c, 0⟩
def cand (L : List ByteArray) : Ins := candO L (opF (ptAt L 0).data.toList).1 (opF (ptAt L 0).data.toList).2
theorem opF_range (l : List UInt8) : 1 ≤ (opF l).1 ∧ (opF l).1 ≤ 15 ∧ 0 ≤ (opF l).2 ∧ (opF l).2 ≤ 22 := by
  have h1 := mapF_range l
  have h2 := placeF_range 6 (toB (trimPrefix l [106]))
  have h3 := placeF_range 6 (toB (trimPrefix (trimSuffix l [105]) [106]))
  have h4 := placeF_range 3 (toB (trimSuffix l [105]))
  have h5 := placeF_range 3 (toB l)
  unfold opF
  repeat' split
  all_goals (dsimp only; omega)
theorem smallF_range (L : List ByteArray) (k : Nat) (s : ByteArray) : 0 ≤ smallF L k s ∧ smallF L k s ≤ 255 := by unfold smallF; omega
theorem wideF_range (L : List ByteArray) (k : Nat) (s : ByteArray) : 0 ≤ wideF L k s ∧ wideF L k s ≤ 4294967295 := numV_range _ _
theorem candO_ok (L : List ByteArray) (op c : Int) (h : 1 ≤ op ∧ op ≤ 15) (hc : 0 ≤ c ∧ c ≤ 22) : (candO L op c).Ok := by
  have hs := smallF_range L
  have hw := wideF_range L
  have hp : 0 ≤ placeF 14 (ptAt L 1) ∧ placeF 14 (ptAt L 1) ≤ 255 := by have := placeF_range 14 (ptAt L 1); omega
  have hc : 0 ≤ c ∧ c ≤ 255 := by omega
  have z8 : (0 : Int) ≤ 0 ∧ (0 : Int) ≤ 255 := by omega
  have z32 : (0 : Int) ≤ 0 ∧ (0 : Int) ≤ 4294967295 := by omega
  have : op = 1 ∨ op = 2 ∨ op = 3 ∨ op = 4 ∨ op = 5 ∨ op = 6 ∨ op = 7 ∨ op = 8 ∨ op = 9 ∨ op = 10 ∨ op = 11 ∨ op = 12 ∨ op = 13 ∨ op = 14 ∨ op = 15 := by omega
  rcases this with rfl | rfl | rfl | rfl | rfl | rfl | rfl | rfl | rfl | rfl | rfl | rfl | rfl | rfl | rfl
  · exact ⟨(by omega : (0 : Int) ≤ 1 ∧ (1 : Int) ≤ 255), hs 1 sR, hs 2 sR, hc, z32⟩
  · exact ⟨(by omega : (0 : Int) ≤ 2 ∧ (2 : Int) ≤ 255), hs 1 sR, z8, hc, hw 2 sE⟩
  · exact ⟨(by omega : (0 : Int) ≤ 3 ∧ (3 : Int) ≤ 255), hs 1 sR, hs 2 sR, hc, z32⟩
  · exact ⟨(by omega : (0 : Int) ≤ 4 ∧ (4 : Int) ≤ 255), hs 1 sR, z8, hc, hw 2 sE⟩
  · exact ⟨(by omega : (0 : Int) ≤ 5 ∧ (5 : Int) ≤ 255), z8, z8, hc, hw 1 sP⟩
  · exact ⟨(by omega : (0 : Int) ≤ 6 ∧ (6 : Int) ≤ 255), hs 1 sR, hs 2 sR, hc, hw 3 sP⟩
  · exact ⟨(by omega : (0 : Int) ≤ 7 ∧ (7 : Int) ≤ 255), hs 1 sR, hs 2 sE, hc, hw 3 sP⟩
  · exact ⟨(by omega : (0 : Int) ≤ 8 ∧ (8 : Int) ≤ 255), hs 2 sR, z8, hs 1 sS, z32⟩
  · exact ⟨(by omega : (0 : Int) ≤ 9 ∧ (9 : Int) ≤ 255), hs 1 sR, z8, hs 2 sS, z32⟩
  · exact ⟨(by omega : (0 : Int) ≤ 10 ∧ (10 : Int) ≤ 255), hs 1 sR, hs 2 sR, hs 3 sF, hw 4 sE⟩
  · exact ⟨(by omega : (0 : Int) ≤ 11 ∧ (11 : Int) ≤ 255), hs 1 sR, hs 2 sR, hs 3 sF, hw 4 sR⟩
  · exact ⟨(by omega : (0 : Int) ≤ 12 ∧ (12 : Int) ≤ 255), hs 4 sR, hs 1 sR, hs 2 sF, hw 3 sE⟩
  · exact ⟨(by omega : (0 : Int) ≤ 13 ∧ (13 : Int) ≤ 255), hs 4 sR, hs 1 sR, hs 2 sF, hw 3 sR⟩
  · exact ⟨(by omega : (0 : Int) ≤ 14 ∧ (14 : Int) ≤ 255), z8, z8, hp, hw 2 sE⟩
  · exact ⟨(by omega : (0 : Int) ≤ 15 ∧ (15 : Int) ≤ 255), z8, z8, hc, z32⟩
theorem cand_ok (L : List ByteArray) : (cand L).Ok := by
  have h := opF_range (ptAt L 0).data.toList
  exact candO_ok L _ _ ⟨h.1, h.2.1⟩ ⟨h.2.2.1, h.2.2.2⟩

/-- Read's own memory. -/
structure Rs (w0 w : World) (g2 g4 g5 g6 B : Nat) (L : List ByteArray) (x : Ins) : Prop where
  r : Rw w g4 g6 B L
  c5 : w.heap[g5]? = some (.cells x.cells 24)
  c2 : w.heap[g2]? = some (.cells z0.cells 24)
  ne : g4 ≠ g5 ∧ g6 ≠ g5 ∧ B ≠ g5 ∧ g2 ≠ g5
  nw : w0.heap.size ≤ g2 ∧ w0.heap.size ≤ g5
  below : Below w0.heap.size w0 w
  pw : Pw w0
section
variable {w0 w w1 : World} {g2 g4 g5 g6 B : Nat} {L : List ByteArray} {x : Ins}
theorem pw_at (h : Pw w0) (hb : Below w0.heap.size w0 w) : Pw w := h.below hb
theorem Rs.then_ (h : Rs w0 w g2 g4 g5 g6 B L x) (hb : Below w.heap.size w w1) : Rs w0 w1 g2 g4 g5 g6 B L x :=
  ⟨h.r.then_ hb, (hb.block g5 (blk_lt' h.c5)).trans h.c5, (hb.block g2 (blk_lt' h.c2)).trans h.c2, h.ne, h.nw, h.below.trans (hb.mono h.below.size), h.pw⟩
theorem set_block {w : World} {k : Nat} {cs : Array Value} {T : TypeId} (h : w.heap[k]? = some (.cells cs T)) (i : Nat) (v : Value) : (w.setCell ⟨k, i, none⟩ v).heap[k]? = some (.cells (cs.setIfInBounds i v) T) := by
  obtain ⟨hlt, hk⟩ := Array.getElem?_eq_some_iff.1 h
  unfold World.setCell
  simp [hk, hlt, Array.getElem_modify_self]
theorem set_far (w : World) (g k i : Nat) (v : Value) (h : k ≠ g) : (w.setCell ⟨g, i, none⟩ v).heap[k]? = w.heap[k]? := Below.heap_setCell w ⟨g, i, none⟩ v k h
theorem Rs.st (h : Rs w0 w g2 g4 g5 g6 B L x) (i : Nat) (v : Value) (y : Ins) (hy : x.cells.setIfInBounds i v = y.cells) : Rs w0 (w.setCell ⟨g5, i, none⟩ v) g2 g4 g5 g6 B L y :=
  ⟨⟨(set_far w g5 g4 i v h.ne.1).trans h.r.c4, (set_far w g5 g6 i v h.ne.2.1).trans h.r.c6, (set_far w g5 B i v h.ne.2.2.1).trans h.r.row, h.r.len, h.r.sz⟩, by rw [set_block h.c5, hy], (set_far w g5 g2 i v h.ne.2.2.2).trans h.c2, h.ne, h.nw, h.below.setCell h.nw.2 v, h.pw⟩
theorem blk_fr {w : World} {g : Nat} {cs : Array Value} {T : TypeId} (h : w.heap[g]? = some (.cells cs T)) (i : Nat) : w.frozen? ⟨g, i, none⟩ = false := by simp [World.frozen?, h]

theorem Rs.k0 (h : Rs w0 w g2 g4 g5 g6 B L x) : w.cell? ⟨g5, 0, none⟩ = some (.int .u8 x.op) := by rw [cell_of_row w g5 0 _ _ _ h.c5]; rfl
theorem Rs.f0 (h : Rs w0 w g2 g4 g5 g6 B L x) : w.frozen? ⟨g5, 0, none⟩ = false := blk_fr h.c5 _
theorem Rs.y0 (h : Rs w0 w g2 g4 g5 g6 B L x) : w.cell? ⟨g2, 0, none⟩ = some (.int .u8 0) := by rw [cell_of_row w g2 0 _ _ _ h.c2]; rfl
theorem Rs.z0 (h : Rs w0 w g2 g4 g5 g6 B L x) : w.frozen? ⟨g2, 0, none⟩ = false := blk_fr h.c2 _
theorem Rs.k1 (h : Rs w0 w g2 g4 g5 g6 B L x) : w.cell? ⟨g5, 1, none⟩ = some (.int .u8 x.a) := by rw [cell_of_row w g5 1 _ _ _ h.c5]; rfl
theorem Rs.f1 (h : Rs w0 w g2 g4 g5 g6 B L x) : w.frozen? ⟨g5, 1, none⟩ = false := blk_fr h.c5 _
theorem Rs.y1 (h : Rs w0 w g2 g4 g5 g6 B L x) : w.cell? ⟨g2, 1, none⟩ = some (.int .u8 0) := by rw [cell_of_row w g2 1 _ _ _ h.c2]; rfl
theorem Rs.z1 (h : Rs w0 w g2 g4 g5 g6 B L x) : w.frozen? ⟨g2, 1, none⟩ = false := blk_fr h.c2 _
theorem Rs.k2 (h : Rs w0 w g2 g4 g5 g6 B L x) : w.cell? ⟨g5, 2, none⟩ = some (.int .u8 x.b) := by rw [cell_of_row w g5 2 _ _ _ h.c5]; rfl
theorem Rs.f2 (h : Rs w0 w g2 g4 g5 g6 B L x) : w.frozen? ⟨g5, 2, none⟩ = false := blk_fr h.c5 _
theorem Rs.y2 (h : Rs w0 w g2 g4 g5 g6 B L x) : w.cell? ⟨g2, 2, none⟩ = some (.int .u8 0) := by rw [cell_of_row w g2 2 _ _ _ h.c2]; rfl
theorem Rs.z2 (h : Rs w0 w g2 g4 g5 g6 B L x) : w.frozen? ⟨g2, 2, none⟩ = false := blk_fr h.c2 _
theorem Rs.k3 (h : Rs w0 w g2 g4 g5 g6 B L x) : w.cell? ⟨g5, 3, none⟩ = some (.int .u8 x.c) := by rw [cell_of_row w g5 3 _ _ _ h.c5]; rfl
theorem Rs.f3 (h : Rs w0 w g2 g4 g5 g6 B L x) : w.frozen? ⟨g5, 3, none⟩ = false := blk_fr h.c5 _
theorem Rs.y3 (h : Rs w0 w g2 g4 g5 g6 B L x) : w.cell? ⟨g2, 3, none⟩ = some (.int .u8 0) := by rw [cell_of_row w g2 3 _ _ _ h.c2]; rfl
theorem Rs.z3 (h : Rs w0 w g2 g4 g5 g6 B L x) : w.frozen? ⟨g2, 3, none⟩ = false := blk_fr h.c2 _
theorem Rs.k4 (h : Rs w0 w g2 g4 g5 g6 B L x) : w.cell? ⟨g5, 4, none⟩ = some (.int .u32 x.imm) := by rw [cell_of_row w g5 4 _ _ _ h.c5]; rfl
theorem Rs.f4 (h : Rs w0 w g2 g4 g5 g6 B L x) : w.frozen? ⟨g5, 4, none⟩ = false := blk_fr h.c5 _
theorem Rs.y4 (h : Rs w0 w g2 g4 g5 g6 B L x) : w.cell? ⟨g2, 4, none⟩ = some (.int .u32 0) := by rw [cell_of_row w g2 4 _ _ _ h.c2]; rfl
theorem Rs.z4 (h : Rs w0 w g2 g4 g5 g6 B L x) : w.frozen? ⟨g2, 4, none⟩ = false := blk_fr h.c2 _
theorem small_f (h : Rs w0 w g2 g4 g5 g6 B L x) (k : Nat) (hk : k ≤ 100) (s : ByteArray) : Calls Tryd.prog 35 #[.int .i64 k, .string s, .pointer (some ⟨g6, 0, none⟩)] w fun e w' => e = .returned (.int .u8 (smallF L k s)) ∧ Rs w0 w' g2 g4 g5 g6 B L x :=
  (small_any h.r k hk s).mono fun _ _ ⟨e, hb⟩ => ⟨e, h.then_ hb⟩
theorem wide_f (h : Rs w0 w g2 g4 g5 g6 B L x) (k : Nat) (hk : k ≤ 100) (s : ByteArray) : Calls Tryd.prog 37 #[.int .i64 k, .string s, .pointer (some ⟨g6, 0, none⟩)] w fun e w' => e = .returned (.int .u32 (wideF L k s)) ∧ Rs w0 w' g2 g4 g5 g6 B L x :=
  (wide_any h.r k hk s).mono fun _ _ ⟨e, hb⟩ => ⟨e, h.then_ hb⟩
end
/-- What Read answers. -/
def rdI (y : Ins) (s : ByteArray) : Ins := if chk y = 0 ∧ txt y = s then y else z0
def rdE (y : Ins) (s : ByteArray) : Int := if chk y = 0 ∧ txt y = s then 0 else 3
def RdPost (y : Ins) (s : ByteArray) (w : World) (e : Ending) (w' : World) : Prop := e = .returned (.tuple #[.agg (rdI y s).cells, .int .i64 (rdE y s)]) ∧ Below w.heap.size w w'
theorem rd_yes {y : Ins} {s : ByteArray} {w w' : World} {e : Ending} (h1 : chk y = 0) (h2 : txt y = s) (he : e = .returned (.tuple #[.agg y.cells, .int .i64 0])) (hb : Below w.heap.size w w') : RdPost y s w e w' := by
  refine ⟨?_, hb⟩
  unfold rdI rdE
  rw [if_pos ⟨h1, h2⟩, if_pos ⟨h1, h2⟩]
  exact he
theorem rd_no {y : Ins} {s : ByteArray} {w w' : World} {e : Ending} (h : ¬ (chk y = 0 ∧ txt y = s)) (he : e = .returned (.tuple #[.agg z0.cells, .int .i64 3])) (hb : Below w.heap.size w w') : RdPost y s w e w' := by
  refine ⟨?_, hb⟩
  unfold rdI rdE
  rw [if_neg h, if_neg h]
  exact he
def SplitOf (s : ByteArray) : List ByteArray := splitB ⟨#[32]⟩ 0 (countB s ⟨#[32]⟩) s
theorem split_sz (sep : ByteArray) (n : Nat) : ∀ (k : Nat) (s : ByteArray), s.size ≤ n → ∀ p ∈ splitB sep 0 k s, p.size ≤ n
  | 0, s, hn, p, hp => by
    rw [splitB_zero] at hp
    rw [List.mem_singleton.1 hp]
    exact hn
  | k + 1, s, hn, p, hp => by
    by_cases h : indexB s sep = -1
    · rw [splitB_miss sep 0 (k + 1) s h] at hp
      rw [List.mem_singleton.1 hp]
      exact hn
    · obtain ⟨i, hi⟩ := Int.eq_ofNat_of_zero_le (show 0 ≤ indexB s sep by have := index_ge s.data.toList sep.data.toList; unfold indexB at *; omega)
      rw [splitB_hit sep 0 k s i hi] at hp
      rcases List.mem_cons.1 hp with rfl | hp
      · rw [ByteArray.size_extract]; omega
      · exact split_sz sep n k _ (by rw [ByteArray.size_extract]; omega) p hp
theorem split_length (s : ByteArray) : (SplitOf s).length = countB s ⟨#[32]⟩ + 1 := splitB_all ⟨#[32]⟩ (by decide) 0 _ s rfl
theorem split_le (s : ByteArray) : countB s ⟨#[32]⟩ ≤ s.size := countB_le ⟨#[32]⟩ (by decide) s.size s (Nat.le_refl _)
end Go.Proofs.YtlomgbackphmmaaDoor
