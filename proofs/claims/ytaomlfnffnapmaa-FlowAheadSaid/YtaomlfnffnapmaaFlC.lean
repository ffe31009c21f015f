/- flow.Check: whether a program is well. -/
import Derived.Test.YtaomlfnffnapmaaFlA
import Derived.Test.YtaomlfnffnapmaaInC3
import Derived.Test.YtaomlfnffnapmaaInC4
set_option linter.unusedVariables false
set_option linter.unusedSimpArgs false
namespace Go.Proofs.Ytaomlfnffnapmaa
open Go.RowKit Go.Shelf
attribute [local go_sem] Oper.semAt_some

theorem Check_any (x : Ins) (hx : x.Ok) (w : World) : Calls Try.prog 19 #[.agg x.cells] w fun e w' => e = .returned (.int .i64 (chk x)) ∧ Below w.heap.size w w' := by
  obtain ⟨ho, ha, hb, hc, hi⟩ := hx
  obtain ⟨op, a, b, c, imm⟩ := x
  dsimp only at *
  by_cases h : op < 1 ∨ 15 < op
  · have e : chk ⟨op, a, b, c, imm⟩ = 3 := by
      unfold chk isOp
      rw [if_neg (by rw [Bool.and_eq_true, decide_eq_true_eq, decide_eq_true_eq]; dsimp only; omega)]
    rw [e]
    exact Check_bad op a b c imm w h ho.1 ho.2
  · have : op = 1 ∨ op = 2 ∨ op = 3 ∨ op = 4 ∨ op = 5 ∨ op = 6 ∨ op = 7 ∨ op = 8 ∨ op = 9 ∨ op = 10 ∨ op = 11 ∨ op = 12 ∨ op = 13 ∨ op = 14 ∨ op = 15 := by omega
    rcases this with rfl | rfl | rfl | rfl | rfl | rfl | rfl | rfl | rfl | rfl | rfl | rfl | rfl | rfl | rfl
    · exact Check_1 a b c imm w ha hb hc hi
    · exact Check_2 a b c imm w ha hb hc hi
    · exact Check_3 a b c imm w ha hb hc hi
    · exact Check_4 a b c imm w ha hb hc hi
    · exact Check_5 a b c imm w ha hb hc hi
    · exact Check_6 a b c imm w ha hb hc hi
    · exact Check_7 a b c imm w ha hb hc hi
    · exact Check_8 a b c imm w ha hb hc hi
    · exact Check_9 a b c imm w ha hb hc hi
    · exact Check_10 a b c imm w ha hb hc hi
    · exact Check_11 a b c imm w ha hb hc hi
    · exact Check_12 a b c imm w ha hb hc hi
    · exact Check_13 a b c imm w ha hb hc hi
    · exact Check_14 a b c imm w ha hb hc hi
    · exact Check_15 a b c imm w ha hb hc hi

/-- Which instructions stand behind one of the first k, or are the first. -/
def rch (L : List Ins) (k i : Nat) : Bool := i == 0 || (List.range k).any (fun j => decide ((i : Int) ∈ beh L (j : Int)))
/-- What is wrong at an instruction. -/
def bad (L : List Ins) (k : Nat) : Int :=
  if chk (L.getD k z0) ≠ 0 then chk (L.getD k z0) else if rch L k k = false then 10 else if (beh L (k : Int)).any (fun on => decide ((L.length : Int) ≤ on)) = true then 10 else 0
def fchkU (L : List Ins) : Nat → Nat → Int × Int
  | 0, _ => (0, 0)
  | d + 1, k => if bad L k ≠ 0 then ((k : Int), bad L k) else fchkU L d (k + 1)
def fchk (L : List Ins) : Int × Int := if L.length = 0 ∨ 128 < L.length then (0, 11) else fchkU L L.length 0

def zerosB : Array Value := Array.replicate 128 (.bool false)
theorem zero_bools (w : World) : (zeroValue 41).run Try.prog w = .ok (.agg zerosB) w := by kernel_rfl

theorem zerosB_size : zerosB.size = 128 := by kernel_rfl
theorem zerosB_at (i : Nat) (h : i < 128) : zerosB[i]? = some (.bool false) := by
  unfold zerosB; rw [Array.getElem?_replicate, if_pos h]

/-- A row of 128 bools. -/
def Rb (W : World) (R : Nat) (f : Nat → Bool) : Prop := ∃ cs : Array Value, W.heap[R]? = some (.cells cs 41 (0, 0)) ∧ ∀ i, i < 128 → cs[i]? = some (.bool (f i))
theorem Rb.cell {W : World} {R : Nat} {f : Nat → Bool} (h : Rb W R f) {i : Nat} (hi : i < 128) : W.cell? ⟨R, i, none⟩ = some (.bool (f i)) := by
  obtain ⟨cs, hb, hc⟩ := h
  rw [cell_of_row W R i cs _ _ hb]; exact hc i hi
theorem Rb.frozen {W : World} {R : Nat} {f : Nat → Bool} (h : Rb W R f) (i : Nat) : W.frozen? ⟨R, i, none⟩ = false := by
  obtain ⟨cs, hb, hc⟩ := h
  simp [World.frozen?, hb]
theorem Rb.turn {X Y : World} {R : Nat} {f : Nat → Bool} {row : Option Nat} (h : Rb X R f) (hg : X.grownBy Y row) (hr : row ≠ some R) : Rb Y R f := by
  obtain ⟨cs, hb, hc⟩ := h
  exact ⟨cs, (hg.block R (Array.getElem?_eq_some_iff.1 hb).1 (fun e => hr e.symm)).trans hb, hc⟩
theorem Rb.below {X Y : World} {R : Nat} {f : Nat → Bool} (h : Rb X R f) (hb : Below X.heap.size X Y) : Rb Y R f := by
  obtain ⟨cs, hb2, hc⟩ := h
  exact ⟨cs, (hb.block R (Array.getElem?_eq_some_iff.1 hb2).1).trans hb2, hc⟩
theorem Rb.congr {W : World} {R : Nat} {f g : Nat → Bool} (h : Rb W R f) (hfg : ∀ i, i < 128 → f i = g i) : Rb W R g := by
  obtain ⟨cs, hb, hc⟩ := h
  exact ⟨cs, hb, fun i hi => by rw [hc i hi, hfg i hi]⟩
theorem Rb.set {W : World} {R : Nat} {f : Nat → Bool} (h : Rb W R f) (i : Nat) : Rb (W.setCell ⟨R, i, none⟩ (.bool true)) R (fun j => f j || j == i) := by
  obtain ⟨cs, hb, hc⟩ := h
  obtain ⟨hlt, hk⟩ := Array.getElem?_eq_some_iff.1 hb
  refine ⟨cs.setIfInBounds i (.bool true), ?_, fun j hj => ?_⟩
  · show (W.heap.modify R _)[R]? = _
    rw [Array.getElem?_eq_getElem (by rw [Array.size_modify]; exact hlt), Array.getElem_modify_self, hk]
    rfl
  · have hs : j < cs.size := (Array.getElem?_eq_some_iff.1 (hc j hj)).1
    rw [Array.getElem?_setIfInBounds]
    by_cases e : i = j
    · subst e; rw [if_pos rfl, if_pos hs]; simp
    · rw [if_neg e, hc j hj]
      have : (j == i) = false := beq_eq_false_iff_ne.2 (fun e2 => e e2.symm)
      show some (Value.bool (f j)) = some (Value.bool (f j || j == i))
      rw [this, Bool.or_false]

/-- The variables of Check. -/
structure CB (w : World) (A : Option Addr) (cap : Nat) (L : List Ins) (f : Nat → Bool) (W : World) : Prop where
  p : Boxed W w.heap.size 22 (.slice A L.length cap)
  r0 : Boxed W (w.heap.size + 1) 3 (.int .i64 0)
  r1 : Boxed W (w.heap.size + 1 + 1) 24 (.int .i64 0)
  rb : Rb W (w.heap.size + 1 + 1 + 1) f
  below : Below w.heap.size w W
theorem CB.turn {w X Y : World} {A : Option Addr} {cap : Nat} {L : List Ins} {f : Nat → Bool} {row : Option Nat} {N : Nat} (h : CB w A cap L f X) (hg : X.grownBy Y row) (hN : w.heap.size + 4 ≤ N) (hr : ∀ r, row = some r → N ≤ r) : CB w A cap L f Y :=
  ⟨h.p.kept hg (fun e => by have := hr _ e.symm; omega), h.r0.kept hg (fun e => by have := hr _ e.symm; omega), h.r1.kept hg (fun e => by have := hr _ e.symm; omega), h.rb.turn hg (fun e => by have := hr _ e; omega), below_turn h.below hg (by omega) hr⟩
theorem CB.later {w X Y : World} {A : Option Addr} {cap : Nat} {L : List Ins} {f : Nat → Bool} (h : CB w A cap L f X) (hb : Below X.heap.size X Y) : CB w A cap L f Y :=
  ⟨(hb.block _ h.p.lt).trans h.p, (hb.block _ h.r0.lt).trans h.r0, (hb.block _ h.r1.lt).trans h.r1, h.rb.below hb, h.below.trans (hb.mono h.below.size)⟩
theorem CB.size {w X : World} {A : Option Addr} {cap : Nat} {L : List Ins} {f : Nat → Bool} (h : CB w A cap L f X) : w.heap.size + 4 ≤ X.heap.size := by
  obtain ⟨cs, hb, hc⟩ := h.rb
  have := (Array.getElem?_eq_some_iff.1 hb).1
  omega
theorem Marks.later {B : Nat} {X Y : World} {ds : List Deferred} (h : Marks B X ds) (hb : Below X.heap.size X Y) : Marks B Y ds := h.keep (fun r _ _ hr => (hb.block r (Array.getElem?_eq_some_iff.1 hr).1).trans hr)
/-- A program's end: what its results' variables hold. -/
def Told (w : World) (i e : Int) (W : World) : Prop := W.cell? ⟨w.heap.size + 1, 0, none⟩ = some (.int .i64 i) ∧ W.cell? ⟨w.heap.size + 1 + 1, 0, none⟩ = some (.int .i64 e) ∧ Below w.heap.size w W
theorem Told.turn {w X Y : World} {i e : Int} {row : Option Nat} {N : Nat} (h : Told w i e X) (hN : w.heap.size ≤ N) (hg : X.grownBy Y row) (hr : ∀ r, row = some r → N ≤ r ∧ ∃ o : Obj, X.heap[r]? = some o ∧ o.isCells = false) : Told w i e Y :=
  ⟨cell_kept h.1 hg (fun r e => (hr r e).2), cell_kept h.2.1 hg (fun r e => (hr r e).2), below_turn h.2.2 hg hN (fun r e => (hr r e).1)⟩
theorem CB.tell {w W : World} {A : Option Addr} {cap : Nat} {L : List Ins} {f : Nat → Bool} (h : CB w A cap L f W) (i e : Int) : Told w i e ((W.setCell ⟨w.heap.size + 1, 0, none⟩ (.int .i64 i)).setCell ⟨w.heap.size + 1 + 1, 0, none⟩ (.int .i64 e)) := by
  have h1 := h.r0.set (.int .i64 i)
  have h2 : Boxed (W.setCell ⟨w.heap.size + 1, 0, none⟩ (.int .i64 i)) (w.heap.size + 1 + 1) 24 (.int .i64 0) := h.r1.kept (grownBy_setCell' W _ _) (fun e => by injection e; omega)
  exact ⟨(h1.kept (grownBy_setCell' _ _ _) (fun e => by injection e; omega)).cell, (h2.set _).cell, (h.below.setCell (p := ⟨w.heap.size + 1, 0, none⟩) (by show w.heap.size ≤ w.heap.size + 1; omega) _).setCell (p := ⟨w.heap.size + 1 + 1, 0, none⟩) (by show w.heap.size ≤ w.heap.size + 1 + 1; omega) _⟩
theorem marks_set {B : Nat} {W : World} {ds : List Deferred} {b o : Nat} {u v : Value} (h : Marks B W ds) (hc : W.cell? ⟨b, o, none⟩ = some u) : Marks B (W.setCell ⟨b, o, none⟩ v) ds :=
  h.keep (fun r _ _ hr => (Below.heap_setCell _ _ _ r (fun e => by
    have e' : r = b := e
    subst e'
    unfold World.cell? at hc; rw [hr] at hc; simp at hc)).trans hr)
theorem CB.tell_marks {w W : World} {A : Option Addr} {cap B : Nat} {L : List Ins} {f : Nat → Bool} {ds : List Deferred} (h : CB w A cap L f W) (hM : Marks B W ds) (i e : Int) : Marks B ((W.setCell ⟨w.heap.size + 1, 0, none⟩ (.int .i64 i)).setCell ⟨w.heap.size + 1 + 1, 0, none⟩ (.int .i64 e)) ds := by
  have h2 : Boxed (W.setCell ⟨w.heap.size + 1, 0, none⟩ (.int .i64 i)) (w.heap.size + 1 + 1) 24 (.int .i64 0) := h.r1.kept (grownBy_setCell' W _ _) (fun e => by injection e; omega)
  exact marks_set (marks_set hM h.r0.cell) h2.cell
/-- Check leaves. -/
theorem tell_ends {w W : World} {i e : Int} {ds : List Deferred} {tmps : Array Value} (ht : Told w i e W) (hM : Marks w.heap.size W ds) (h2 : tmps.getD 2 undef = .pointer (some ⟨w.heap.size + 1, 0, none⟩)) (h3 : tmps.getD 3 undef = .pointer (some ⟨w.heap.size + 1 + 1, 0, none⟩)) :
    LeavesInM Fence.wide 9 Try.prog Try.f10 tmps (fun e' w' => e' = .returned (.tuple #[.int .i64 i, .int .i64 e]) ∧ Below w.heap.size w w') ds .returning W := by
  refine leaves_marks (B := w.heap.size) (fun W => Told w i e W) (fun W r hg hr hd => hg.turn (N := w.heap.size) (Nat.le_refl _) (grownBy_putObj' W r _) (fun r' e' => by injection e' with e'; subst e'; exact ⟨hr, _, hd, rfl⟩)) (fun W hg => ⟨_, ?_, rfl, hg.2.2⟩) ds W hM ht
  have h2' : tmps[2]?.getD undef = .pointer (some ⟨w.heap.size + 1, 0, none⟩) := by simpa using h2
  have h3' : tmps[3]?.getD undef = .pointer (some ⟨w.heap.size + 1 + 1, 0, none⟩) := by simpa using h3
  have c1 := hg.1
  have c2 := hg.2.1
  simp [results, Try.results10, h2', h3', go_sem, c1, c2]

theorem grownBy_set (W : World) (b o : Nat) (v : Value) : W.grownBy (W.setCell ⟨b, o, none⟩ v) (some b) :=
  ⟨rfl, rfl, rfl, (KeepsWalks.setCell W _ v).size, fun k _ hk => Below.heap_setCell _ _ _ k (fun e => hk (by rw [e]))⟩
theorem CB.mark {w W : World} {A : Option Addr} {cap : Nat} {L : List Ins} {f : Nat → Bool} (h : CB w A cap L f W) (j : Nat) : CB w A cap L (fun i => f i || i == j) (W.setCell ⟨w.heap.size + 1 + 1 + 1, j, none⟩ (.bool true)) :=
  ⟨h.p.kept (grownBy_set _ _ _ _) (fun e => by injection e; omega), h.r0.kept (grownBy_set _ _ _ _) (fun e => by injection e; omega), h.r1.kept (grownBy_set _ _ _ _) (fun e => by injection e; omega), h.rb.set j, h.below.setCell (p := ⟨w.heap.size + 1 + 1 + 1, j, none⟩) (by show w.heap.size ≤ w.heap.size + 1 + 1 + 1; omega) _⟩
theorem CB.congr {w W : World} {A : Option Addr} {cap : Nat} {L : List Ins} {f g : Nat → Bool} (h : CB w A cap L f W) (hfg : ∀ i, f i = g i) : CB w A cap L g W := ⟨h.p, h.r0, h.r1, h.rb.congr (fun i _ => hfg i), h.below⟩
theorem rch_succ (L : List Ins) (k i : Nat) : rch L (k + 1) i = (rch L k i || decide ((i : Int) ∈ beh L (k : Int))) := by
  unfold rch
  rw [List.range_succ, List.any_append, Bool.or_assoc]
  simp
theorem beh_nn {L : List Ins} (hL : ∀ i, (L.getD i z0).Ok) {pc x : Int} (hx : x ∈ beh L pc) : 0 ≤ x := by
  unfold beh at hx
  split at hx
  · cases hx
  · have := (hL pc.toNat).imm
    generalize L.getD pc.toNat z0 = y at *
    split at hx
    · cases hx
    split at hx
    · simp at hx; omega
    split at hx
    · split at hx <;> simp at hx <;> omega
    · simp at hx; omega
def InAll (L : List Ins) (pre : List Int) : Prop := ∀ x ∈ pre, x < (L.length : Int)
def OutOne (L : List Ins) (pre : List Int) : Prop := ∃ x ∈ pre, (L.length : Int) ≤ x
theorem step_bad {L : List Ins} {k : Nat} (hk : k < L.length) (hf : fchk L = fchkU L (L.length - k) k) (hb : bad L k ≠ 0) : fchk L = ((k : Int), bad L k) := by
  rw [hf, show L.length - k = (L.length - k - 1) + 1 from by omega]
  unfold fchkU
  rw [if_pos hb]
theorem step_good {L : List Ins} {k : Nat} (hk : k < L.length) (hf : fchk L = fchkU L (L.length - k) k) (hb : bad L k = 0) : fchk L = fchkU L (L.length - (k + 1)) (k + 1) := by
  rw [hf, show L.length - k = (L.length - (k + 1)) + 1 from by omega]
  show (if bad L k ≠ 0 then _ else _) = _
  rw [if_neg (by rw [hb]; simp)]
theorem kb_set {W : World} {B b o : Nat} {v : Value} (h : B ≠ b) : Kb B W (W.setCell ⟨b, o, none⟩ v) := by
  unfold Kb World.cell?; rw [Below.heap_setCell _ _ _ B (fun e => h e)]

def CInv (w : World) (A : Option Addr) (cap : Nat) (L : List Ins) (a' : Act) (W : World) : Prop :=
  ∃ (k : Nat) (u5 u6 u7 u8 u21 u22 u23 u24 u25 u26 u27 u28 u29 u30 u31 u32 u33 u34 u35 u36 u37 u38 u39 u40 u41 u42 u43 u44 u45 u46 u47 : Value) (ds : List Deferred), k ≤ L.length ∧ fchk L = fchkU L (L.length - k) k ∧ CB w A cap L (rch L k) W ∧ Marks w.heap.size W ds ∧
    a' = { tmps := #[.slice A L.length cap, .pointer (some ⟨w.heap.size, 0, none⟩), .pointer (some ⟨w.heap.size + 1, 0, none⟩), .pointer (some ⟨w.heap.size + 1 + 1, 0, none⟩), .pointer (some ⟨w.heap.size + 1 + 1 + 1, 0, none⟩), u5, u6, u7, u8, .slice A L.length cap, .int .i64 (L.length : Int), .bool false, .bool false, .slice A L.length cap, .int .i64 (L.length : Int), .bool false, .bool false, .pointer (some ⟨w.heap.size + 1 + 1 + 1, 0, none⟩), .slice A L.length cap, .int .i64 (L.length : Int), .int .i64 (k : Int), u21, u22, u23, u24, u25, u26, u27, u28, u29, u30, u31, u32, u33, u34, u35, u36, u37, u38, u39, u40, u41, u42, u43, u44, u45, u46, u47], defers := ds }
def slot20 (a : Act) : Nat := (intOf (a.tmps.getD 20 undef)).toNat

set_option maxRecDepth 100000 in
set_option maxHeartbeats 4000000 in
theorem FCheck_any (A : Option Addr) (cap : Nat) (L : List Ins) (w : World) (hlen : 0 < L.length ∧ L.length ≤ 128) (hP : Pr w A L) :
    Calls Try.prog 10 #[.slice A L.length cap] w fun e w' => e = .returned (.tuple #[.int .i64 (fchk L).1, .int .i64 (fchk L).2]) ∧ Below w.heap.size w w' := by
  obtain ⟨l0, l1⟩ := hlen
  have hz := zero_bools
  have hzs := zerosB_size
  have hz0 := zerosB_at 0 (by omega)
  have hnil : L ≠ [] := fun e => by rw [e] at l0; simp at l0
  have hne0 : ((L.length : Int) == 0) = false := beq_eq_false_iff_ne.2 (by omega)
  have hd : decide ((128 : Int) < (L.length : Int)) = false := decide_eq_false (by omega)
  have HP := Lib.hid hP
  have HF := Lib.hid (rfl : fchk L = fchk L)
  clear hP
  refine calls_marks Try.func10 rfl ?_
  simp only [Try.ntmps10, List.size_toArray, List.length_cons, List.length_nil, Nat.reduceAdd, Nat.reduceSub, Array.replicate_succ, Array.replicate_zero, List.push_toArray, List.append_toArray, List.nil_append, List.cons_append]
  go_wp2_with fail
  clear hz hzs hz0 hd hne0 hnil
  refine wp_loop (CInv w A cap L) (fun a _ => L.length - slot20 a) ?_ ?_
  · refine ⟨0, _, _, _, _, _, _, _, _, _, _, _, _, _, _, _, _, _, _, _, _, _, _, _, _, _, _, _, _, _, _, _, [], by omega, ?_, ⟨?_, ?_, ?_, ?_, ?_⟩, trivial, rfl⟩
    · unfold fchk; rw [if_neg (by omega), Nat.sub_zero]
    · exact (((Boxed.new w _ _).alloc _).alloc _).alloc _
    · have := Boxed.new (w.alloc (.cells #[.slice A L.length cap] 22)) 3 (.int .i64 0); rw [World.size_alloc] at this; exact (this.alloc _).alloc _
    · have := Boxed.new ((w.alloc (.cells #[.slice A L.length cap] 22)).alloc (.cells #[.int .i64 0] 3)) 24 (.int .i64 0); rw [World.size_alloc, World.size_alloc] at this; exact this.alloc _
    · refine ⟨zerosB.setIfInBounds 0 (.bool true), ?_, fun i hi => ?_⟩
      · have := World.alloc_heap_new (((w.alloc (.cells #[.slice A L.length cap] 22)).alloc (.cells #[.int .i64 0] 3)).alloc (.cells #[.int .i64 0] 24)) (.cells (zerosB.setIfInBounds 0 (.bool true)) 41)
        rw [World.size_alloc, World.size_alloc, World.size_alloc] at this
        exact this
      · rw [Array.getElem?_setIfInBounds, zerosB_size, zerosB_at i hi]
        by_cases e : 0 = i
        · subst e; rw [if_pos rfl, if_pos (by omega)]; rfl
        · rw [if_neg e]
          have : (i == 0) = false := beq_eq_false_iff_ne.2 (fun e2 => e e2.symm)
          unfold rch; rw [this]; rfl
    · exact ((((Below.refl _ w).alloc (Nat.le_refl _) _).alloc (by simp) _).alloc (by simp; omega) _).alloc (by simp; omega) _
  · rintro a wr ⟨k, u5, u6, u7, u8, u21, u22, u23, u24, u25, u26, u27, u28, u29, u30, u31, u32, u33, u34, u35, u36, u37, u38, u39, u40, u41, u42, u43, u44, u45, u46, u47, ds, hk, hfk, hC, hM, rfl⟩
    have hn1 := hC.size
    by_cases hlt : k < L.length
    · have HC := Lib.hid hC
      have HM := Lib.hid hM
      have HFK := Lib.hid hfk
      obtain ⟨ad, rfl, hadl, c0, c1, c2, c3, c4⟩ := (HP.out.below hC.below).at_ k hlt
      clear hC hM hfk
      have ok := HP.out.okD k
      have HOK := Lib.hid (fun i => HP.out.okD i : ∀ i, (L.getD i z0).Ok)
      generalize hx : L.getD k z0 = x at *
      have HX := Lib.hid hx
      clear hx
      go_wp2_with fail
      refine (Check_any x ok _).mono ?_
      rintro e w2 ⟨rfl, hB2⟩
      have hBw : Below wr.heap.size wr w2 := ((((Below.refl _ wr).alloc (Nat.le_refl _) (.cells #[.int .i64 (k : Int)] 3)).alloc (by simp) (.cells x.cells 37)).trans (hB2.mono (by simp; omega)))
      have bI : Boxed w2 wr.heap.size 3 (.int .i64 (k : Int)) := (hB2.block _ (by simp; omega)).trans ((Boxed.new wr 3 _).alloc _)
      have hsz2 : wr.heap.size + 2 ≤ w2.heap.size := by have := hB2.size; simpa using this
      have HC2 := Lib.hid (HC.out.later hBw)
      have HM2 := Lib.hid (HM.out.later hBw)
      have HP2 := Lib.hid ((HP.out.below HC.out.below).below hBw)
      have hp0 := HC2.out.p.cell
      have r0c := HC2.out.r0.cell
      have r0f := HC2.out.r0.frozen
      have r1c := HC2.out.r1.cell
      have r1f := HC2.out.r1.frozen
      have hci := bI.cell
      clear hB2 hBw HC HM c0 c1 c2 c3 c4 ok
      by_cases he : chk x = 0
      · have HE := Lib.hid he
        have hrc := HC2.out.rb.cell (i := k) (by omega)
        cases hb : rch L k k
        · rw [hb] at hrc
          have hbad : bad L k = 10 := by unfold bad; rw [HX.out, if_neg (by rw [he]; simp), if_pos hb]
          have HFIN := Lib.hid ((step_bad hlt HFK.out (by rw [hbad]; omega)).trans (by rw [hbad]))
          clear he hb hbad
          rw [HE.out]
          go_wp2
          rw [HFIN.out]
          exact tell_ends (HC2.out.tell _ _) (HC2.out.tell_marks HM2.out _ _) rfl rfl
        · rw [hb] at hrc
          have HB := Lib.hid hb
          clear he hb
          rw [HE.out]
          go_wp2_with fail
          refine (behind_plain _ L.length cap (k : Int) _).mono ?_
          rintro e w3 ⟨rfl, rfl⟩
          go_wp2_with fail
          obtain ⟨W1, hW1⟩ : ∃ W1, W1 = (w2.alloc (.cells #[.slice (some ad) L.length cap] 22)).alloc (.cells #[.int .i64 (k : Int)] 3) := ⟨_, rfl⟩
          rw [← hW1]
          have hsz : W1.heap.size = w2.heap.size + 2 := by rw [hW1]; simp
          have hB3 : Below w2.heap.size w2 W1 := by rw [hW1]; exact ((Below.refl _ w2).alloc (Nat.le_refl _) _).alloc (by simp) _
          have bQ : Boxed W1 w2.heap.size 22 (.slice (some ad) L.length cap) := by rw [hW1]; exact (Boxed.new w2 _ _).alloc _
          have bC : Boxed W1 (w2.heap.size + 1) 3 (.int .i64 (k : Int)) := by
            rw [hW1]; have := Boxed.new (w2.alloc (.cells #[.slice (some ad) L.length cap] 22)) 3 (.int .i64 (k : Int)); rw [World.size_alloc] at this; exact this
          have hC3 := HC2.out.later hB3
          have hM3 := HM2.out.later hB3
          have bI3 : Boxed W1 wr.heap.size 3 (.int .i64 (k : Int)) := (hB3.block _ bI.lt).trans bI
          have HDS := Lib.hid (fun d hd r e => hM3.lt d hd r e : ∀ d ∈ ds, ∀ r, d.target = .collected r → r < W1.heap.size)
          have hP3 := HP2.out.below hB3
          have hsz1 : w2.heap.size + 2 ≤ W1.heap.size := by omega
          have HSZ := Lib.hid hsz
          clear hW1 hp0 r0c r0f r1c r1f hci hrc hsz
          apply wp_range_beh (w := W1) (Bc := w2.heap.size + 1) (Bp := w2.heap.size) (A := some ad) (cap := cap) (L := L) (pc := (k : Int)) rfl (by omega) (by omega) (by omega) bC.cell bQ.cell hP3
            (fun pre W => CB w (some ad) cap L (fun i => rch L k i || decide ((i : Int) ∈ pre)) W ∧ Boxed W wr.heap.size 3 (.int .i64 (k : Int)) ∧ Marks w.heap.size W ds ∧ InAll L pre)
            (fun c pre W => c = .ret ∧ Told w (k : Int) 10 W ∧ Marks w.heap.size W ds ∧ OutOne L pre)
          case hassign =>
            intro l x W K hK
            gi_wp2
            exact hK
          case hI => exact fun s X Y row hs hg hr => ⟨hs.1.turn (N := W1.heap.size) hg (by omega) (fun r e => (hr r e).1), boxed_turn hs.2.1 hg (fun r e => (hr r e).2), hs.2.2.1.turn HDS.out hg (fun r e => (hr r e).1), hs.2.2.2⟩
          case hIx => exact fun c s X Y row hs hg hr => ⟨hs.1, hs.2.1.turn (N := W1.heap.size) (by omega) hg hr, hs.2.2.1.turn HDS.out hg (fun r e => (hr r e).1), hs.2.2.2⟩
          case h0 => exact ⟨hC3.congr (fun i => by simp), bI3, hM3, fun x hx => by cases hx⟩
          case hbody =>
            rintro l pre y W ⟨hCx, bx, hMx, hin⟩ hltp hy
            have hp0 := hCx.p.cell
            have r0c := hCx.r0.cell
            have r0f := hCx.r0.frozen
            have r1c := hCx.r1.cell
            have r1f := hCx.r1.frozen
            have hci := bx.cell
            have hy0 := beh_nn HOK.out hy
            have HIN := Lib.hid hin
            have HCX := Lib.hid hCx
            have HMX := Lib.hid hMx
            have HY := Lib.hid hy
            by_cases hyl : (L.length : Int) ≤ y
            · have HYL := Lib.hid hyl
              clear hin hCx hMx hy
              gi_wp2
              exact ⟨((KeepsOthers.setCell _ _ _).trans (KeepsOthers.setCell _ _ _)).from _, rfl, HCX.out.tell _ _, HCX.out.tell_marks HMX.out _ _, ⟨y, by simp, HYL.out⟩⟩
            · obtain ⟨j, rfl⟩ := Int.eq_ofNat_of_zero_le hy0
              have hj : j < L.length := by omega
              have hrb := hCx.rb.cell (i := j) (by omega)
              have hrf := hCx.rb.frozen j
              generalize (rch L k j || decide ((j : Int) ∈ pre)) = bv at hrb
              clear hin hCx hMx hy hyl
              gi_wp2
              refine ⟨(KeepsOthers.setCell _ _ _).from _, kb_set (by omega), (HCX.out.mark j).congr (fun i => ?_), bx.kept (grownBy_set _ _ _ _) (fun e => by injection e; omega), marks_set HMX.out hrb, fun z hz => ?_⟩
              · rw [Bool.or_assoc]
                congr 1
                rw [Bool.eq_iff_iff]
                simp
                exact or_congr Iff.rfl (by omega)
              · rcases List.mem_append.1 hz with h | h
                · exact HIN.out z h
                · simp at h; subst h; omega
          case hdone =>
            rintro D W hD ⟨hCx, bx, hMx, hin⟩ hK
            have hbad : bad L k = 0 := by
              unfold bad
              rw [HX.out, if_neg (by rw [HE.out]; simp), if_neg (by rw [HB.out]; simp), if_neg]
              rw [List.any_eq_true]
              rintro ⟨z, hz, hzl⟩
              have := hin z hz
              have := of_decide_eq_true hzl
              omega
            have HC4 := Lib.hid (hCx.congr (fun i => (rch_succ L k i).symm))
            have HM4 := Lib.hid (hMx.more (D := D) (by omega) hK (fun d hd r e => by have := HDS.out d hd r e; omega))
            have HF4 := Lib.hid (step_good hlt HFK.out hbad)
            clear hCx bx hMx hin hK hbad
            go_wp2
            refine ⟨⟨k + 1, _, _, _, _, _, _, _, _, _, _, _, _, _, _, _, _, _, _, _, _, _, _, _, _, _, _, _, _, _, _, _, _, by omega, HF4.out, HC4.out, HM4.out, by rfl⟩, ?_⟩
            simp [slot20, intOf]; omega
          case hstop =>
            rintro D c pre W hD hpre ⟨rfl, ht, hMx, ⟨z, hz, hzl⟩⟩ hK
            have hbad : bad L k = 10 := by
              unfold bad
              rw [HX.out, if_neg (by rw [HE.out]; simp), if_neg (by rw [HB.out]; simp), if_pos]
              rw [List.any_eq_true]
              exact ⟨z, hpre.subset hz, decide_eq_true hzl⟩
            have HFIN := Lib.hid ((step_bad hlt HFK.out (by rw [hbad]; omega)).trans (by rw [hbad]))
            have HT := Lib.hid ht
            have HM4 := Lib.hid (hMx.more (D := D) (by omega) hK (fun d hd r e => by have := HDS.out d hd r e; omega))
            clear ht hMx hz hzl hK hbad
            go_wp2
            rw [HFIN.out]
            exact tell_ends HT.out HM4.out rfl rfl
      · have hbad : bad L k = chk x := by unfold bad; rw [HX.out, if_pos he]
        have HFIN := Lib.hid ((step_bad hlt HFK.out (by rw [hbad]; exact he)).trans (by rw [hbad]))
        have hne : (chk x != 0) = true := by rw [bne_iff_ne]; exact he
        clear he hbad
        go_wp2
        rw [HFIN.out]
        exact tell_ends (HC2.out.tell _ _) (HC2.out.tell_marks HM2.out _ _) rfl rfl
    · have hge : (L.length : Int) ≤ (k : Int) := by omega
      have hfin : fchk L = (0, 0) := by rw [hfk, show L.length - k = 0 from by omega]; rfl
      have HFIN := Lib.hid hfin
      have HC := Lib.hid hC
      have HM := Lib.hid hM
      have r0c := hC.r0.cell
      have r0f := hC.r0.frozen
      have r1c := hC.r1.cell
      have r1f := hC.r1.frozen
      clear hC hM hfk hfin hlt hk
      go_wp2
      rw [HFIN.out]
      exact tell_ends (HC.out.tell _ _) (HC.out.tell_marks HM.out _ _) rfl rfl
end Go.Proofs.Ytaomlfnffnapmaa
