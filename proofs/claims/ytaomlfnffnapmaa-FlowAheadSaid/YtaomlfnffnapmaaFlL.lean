/- flow.Longest: how many steps a program takes at most. -/
import Derived.Test.YtaomlfnffnapmaaFlC
import Derived.Test.YtaomlfnffnapmaaFlX
import Derived.Deep.OwnRows
import Derived.Laws.MakeOwn
set_option linter.unusedVariables false
set_option linter.unusedSimpArgs false
namespace Go.Proofs.Ytaomlfnffnapmaa
open Go.RowKit Go.Shelf
attribute [local go_sem] Oper.semAt_some

theorem FCheck_size (A : Option Addr) (n cap : Nat) (w : World) (h : n = 0 ∨ 128 < n) :
    Calls Try.prog 10 #[.slice A n cap] w fun e w' => e = .returned (.tuple #[.int .i64 0, .int .i64 11]) ∧ Below w.heap.size w w' := by
  have hB : ∀ v1 v2 : Value, Below w.heap.size w (((w.alloc (.cells #[.slice A n cap] 22)).alloc (.cells #[v1] 3)).alloc (.cells #[v2] 24)) := fun _ _ => (((Below.refl _ w).alloc (Nat.le_refl _) _).alloc (by simp) _).alloc (by simp; omega) _
  have HB := Lib.hid hB
  clear hB
  rcases h with rfl | h
  · go_enter Try.func10, Try.ntmps10
    go_wp2
    refine bodyPost_ret (v := .tuple #[.int .i64 0, .int .i64 11]) (by simp [results, Try.results10, go_sem]) rfl ⟨rfl, HB.out _ _⟩
  · have h0 : ((n : Int) == 0) = false := beq_eq_false_iff_ne.2 (by omega)
    have hn0 : ¬ n = 0 := by omega
    go_enter Try.func10, Try.ntmps10
    go_wp2
    refine bodyPost_ret (v := .tuple #[.int .i64 0, .int .i64 11]) (by simp [results, Try.results10, go_sem]) rfl ⟨rfl, HB.out _ _⟩
theorem Check_whole (A : Option Addr) (cap : Nat) (L : List Ins) (w : World) (hP : Pr w A L) :
    Calls Try.prog 10 #[.slice A L.length cap] w fun e w' => e = .returned (.tuple #[.int .i64 (fchk L).1, .int .i64 (fchk L).2]) ∧ Below w.heap.size w w' := by
  by_cases h : L.length = 0 ∨ 128 < L.length
  · have : fchk L = (0, 11) := by unfold fchk; rw [if_pos h]
    rw [this]
    exact FCheck_size A L.length cap w h
  · exact FCheck_any A cap L w (by omega) hP

/-- The most steps from each of the last d instructions on. -/
def mxl (f : Nat → Int) (xs : List Int) : Int := xs.foldl (fun m on => max m (f on.toNat)) 0
def lgd (L : List Ins) : Nat → Nat → Int
  | 0 => fun _ => 0
  | d + 1 => fun i => if i = L.length - 1 - d then mxl (lgd L d) (beh L ((L.length - 1 - d : Nat) : Int)) + 1 else lgd L d i
def lng (L : List Ins) : Int × Int := if (fchk L).2 ≠ 0 then (0, (fchk L).2) else (lgd L L.length 0, 0)

theorem mxl_snoc (f : Nat → Int) (xs : List Int) (x : Int) : mxl f (xs ++ [x]) = max (mxl f xs) (f x.toNat) := by unfold mxl; rw [List.foldl_append]; rfl
/-- All are good. -/
theorem good_all {L : List Ins} : ∀ d k : Nat, d + k = L.length → (fchkU L d k).2 = 0 → ∀ j, k ≤ j → j < L.length → bad L j = 0
  | 0, k, h, _, j, h1, h2 => by omega
  | d + 1, k, h, hf, j, h1, h2 => by
    unfold fchkU at hf
    by_cases hb : bad L k ≠ 0
    · rw [if_pos hb] at hf; exact absurd hf hb
    · rw [if_neg hb] at hf
      by_cases e : j = k
      · subst e; exact Classical.not_not.1 hb
      · exact good_all d (k + 1) (by omega) hf j (by omega) h2
theorem well_len {L : List Ins} (h : (fchk L).2 = 0) : 0 < L.length ∧ L.length ≤ 128 := by
  unfold fchk at h
  by_cases h1 : L.length = 0 ∨ 128 < L.length
  · rw [if_pos h1] at h; simp at h
  · omega
theorem well_bad {L : List Ins} (h : (fchk L).2 = 0) (k : Nat) (hk : k < L.length) : bad L k = 0 := by
  have hl := well_len h
  unfold fchk at h
  rw [if_neg (by omega)] at h
  exact good_all L.length 0 (by omega) h k (by omega) hk
theorem well_chk {L : List Ins} (h : (fchk L).2 = 0) (k : Nat) (hk : k < L.length) : chk (L.getD k z0) = 0 ∧ rch L k k = true ∧ ∀ x ∈ beh L (k : Int), x < (L.length : Int) := by
  have hb := well_bad h k hk
  unfold bad at hb
  by_cases h1 : chk (L.getD k z0) ≠ 0
  · rw [if_pos h1] at hb; exact absurd hb h1
  rw [if_neg h1] at hb
  by_cases h2 : rch L k k = false
  · rw [if_pos h2] at hb; simp at hb
  rw [if_neg h2] at hb
  refine ⟨Classical.not_not.1 h1, by simpa using h2, fun x hx => ?_⟩
  by_cases h3 : (beh L (k : Int)).any (fun on => decide ((L.length : Int) ≤ on)) = true
  · rw [if_pos h3] at hb; simp at hb
  · rcases Int.lt_or_le x (L.length : Int) with h4 | h4
    · exact h4
    · exact absurd (List.any_eq_true.2 ⟨x, hx, decide_eq_true h4⟩) h3
/-- A jump leads on. -/
theorem chk_jump {x : Ins} (h : chk x = 0) (ho : x.op = 5 ∨ x.op = 6 ∨ x.op = 7) : 1 ≤ x.imm := by
  have e : (bnd x.op).least = 1 ∧ (bnd x.op).most = 127 := by rcases ho with e | e | e <;> rw [e] <;> exact ⟨rfl, rfl⟩
  have hop : isOp x.op = true := by rcases ho with e | e | e <;> rw [e] <;> rfl
  unfold chk at h
  rw [if_pos hop, e.1, e.2] at h
  by_cases h1 : 1 ≤ x.imm
  · exact h1
  · rw [if_pos (by simp; omega)] at h
    simp at h
theorem well_beh {L : List Ins} (h : (fchk L).2 = 0) {k : Nat} (hk : k < L.length) {x : Int} (hx : x ∈ beh L (k : Int)) : (k : Int) < x ∧ x < (L.length : Int) := by
  obtain ⟨h1, _, h3⟩ := well_chk h k hk
  refine ⟨?_, h3 x hx⟩
  unfold beh at hx
  rw [if_neg (by omega), Int.toNat_natCast] at hx
  generalize L.getD k z0 = y at *
  split at hx
  · cases hx
  split at hx
  · have := chk_jump h1 (.inl ‹_›); simp at hx; omega
  split at hx
  · have := chk_jump h1 (.inr ‹_›)
    split at hx <;> simp at hx <;> omega
  · simp at hx; omega
theorem mxl_le {f : Nat → Int} {B : Int} (hB : 0 ≤ B) : ∀ (xs : List Int), (∀ x ∈ xs, f x.toNat ≤ B) → 0 ≤ mxl f xs ∧ mxl f xs ≤ B := by
  intro xs
  have key : ∀ (xs : List Int) (m : Int), 0 ≤ m → m ≤ B → (∀ x ∈ xs, f x.toNat ≤ B) → 0 ≤ xs.foldl (fun m on => max m (f on.toNat)) m ∧ xs.foldl (fun m on => max m (f on.toNat)) m ≤ B := by
    intro xs
    induction xs with
    | nil => exact fun m h1 h2 _ => ⟨h1, h2⟩
    | cons x t ih =>
      intro m h1 h2 h3
      have := h3 x (List.mem_cons_self ..)
      exact ih _ (show 0 ≤ max m (f x.toNat) by omega) (show max m (f x.toNat) ≤ B by omega) (fun y hy => h3 y (List.mem_cons_of_mem _ hy))
  exact key xs 0 (Int.le_refl _) hB
theorem lgd_bd (L : List Ins) : ∀ d i : Nat, 0 ≤ lgd L d i ∧ lgd L d i ≤ d
  | 0, i => ⟨Int.le_refl _, Int.le_refl _⟩
  | d + 1, i => by
    unfold lgd
    split
    · have := mxl_le (f := lgd L d) (B := d) (by omega) (beh L ((L.length - 1 - d : Nat) : Int)) (fun x _ => (lgd_bd L d x.toNat).2)
      omega
    · have := lgd_bd L d i; omega

/-- Those that were not reckoned yet are 0. -/
theorem lgd_zero (L : List Ins) : ∀ d i : Nat, i + d < L.length → lgd L d i = 0
  | 0, i, _ => rfl
  | d + 1, i, h => by
    unfold lgd
    rw [if_neg (by omega)]
    exact lgd_zero L d i (by omega)
/-- A row of n numbers. -/
def Rn (W : World) (g n : Nat) (f : Nat → Int) : Prop := ∃ cs : Array Value, W.heap[g]? = some (.cells cs 3 (0, 0)) ∧ ∀ i, i < n → cs[i]? = some (.int .i64 (f i))
theorem Rn.cell {W : World} {R n : Nat} {f : Nat → Int} (h : Rn W R n f) {i : Nat} (hi : i < n) : W.cell? ⟨R, i, none⟩ = some (.int .i64 (f i)) := by
  obtain ⟨cs, hb, hc⟩ := h
  rw [cell_of_row W R i cs _ _ hb]; exact hc i hi
theorem Rn.frozen {W : World} {R n : Nat} {f : Nat → Int} (h : Rn W R n f) (i : Nat) : W.frozen? ⟨R, i, none⟩ = false := by
  obtain ⟨cs, hb, hc⟩ := h
  simp [World.frozen?, hb]
theorem Rn.lt {W : World} {R n : Nat} {f : Nat → Int} (h : Rn W R n f) : R < W.heap.size := by
  obtain ⟨cs, hb, hc⟩ := h
  exact (Array.getElem?_eq_some_iff.1 hb).1
theorem Rn.turn {X Y : World} {R n : Nat} {f : Nat → Int} {row : Option Nat} (h : Rn X R n f) (hg : X.grownBy Y row) (hr : row ≠ some R) : Rn Y R n f := by
  obtain ⟨cs, hb, hc⟩ := h
  exact ⟨cs, (hg.block R (Array.getElem?_eq_some_iff.1 hb).1 (fun e => hr e.symm)).trans hb, hc⟩
theorem Rn.congr {W : World} {R n : Nat} {f g : Nat → Int} (h : Rn W R n f) (hfg : ∀ i, i < n → f i = g i) : Rn W R n g := by
  obtain ⟨cs, hb, hc⟩ := h
  exact ⟨cs, hb, fun i hi => by rw [hc i hi, hfg i hi]⟩
theorem Rn.set {W : World} {R n : Nat} {f : Nat → Int} (h : Rn W R n f) (i : Nat) (v : Int) : Rn (W.setCell ⟨R, i, none⟩ (.int .i64 v)) R n (fun j => if j = i then v else f j) := by
  obtain ⟨cs, hb, hc⟩ := h
  obtain ⟨hlt, hk⟩ := Array.getElem?_eq_some_iff.1 hb
  refine ⟨cs.setIfInBounds i (.int .i64 v), ?_, fun j hj => ?_⟩
  · show (W.heap.modify R _)[R]? = _
    rw [Array.getElem?_eq_getElem (by rw [Array.size_modify]; exact hlt), Array.getElem_modify_self, hk]
    rfl
  · have hs : j < cs.size := (Array.getElem?_eq_some_iff.1 (hc j hj)).1
    rw [Array.getElem?_setIfInBounds]
    by_cases e : i = j
    · subst e; rw [if_pos rfl, if_pos hs]; simp
    · rw [if_neg e, hc j hj]
      show some (Value.int .i64 (f j)) = some (Value.int .i64 (if j = i then v else f j))
      rw [if_neg (fun e2 => e e2.symm)]

/-- What the reads of 'steps[pc] = max(steps[pc], steps[on])' come to. -/
def lval (B n k j : Nat) (M N : Int) : Nat → Value
  | 0 | 2 | 6 => .slice (some ⟨B, 0, none⟩) n n
  | 1 | 3 => .int .i64 (k : Int)
  | 4 | 11 => .pointer (some ⟨B, k, none⟩)
  | 5 => .int .i64 M
  | 7 => .int .i64 (j : Int)
  | 8 => .pointer (some ⟨B, j, none⟩)
  | 9 => .int .i64 N
  | _ => .int .i64 (if M < N then N else M)
structure LBase (B q j : Nat) (a : Act) : Prop where
  size : a.tmps.size = 53
  s6 : a.tmps.getD 6 undef = .pointer (some ⟨B + 1, 0, none⟩)
  s7 : a.tmps.getD 7 undef = .pointer (some ⟨q, 0, none⟩)
  s8 : a.tmps.getD 8 undef = .int .i64 (j : Int)
theorem put_getD (a : Act) (d t : Nat) (v : Value) (hd : d < a.tmps.size) : (a.put (some d) v).tmps.getD t undef = if d = t then v else a.tmps.getD t undef := by
  show (a.tmps.setIfInBounds d v).getD t undef = _
  rw [Array.getD_eq_getD_getElem?, Array.getD_eq_getD_getElem?, Array.getElem?_setIfInBounds]
  by_cases h : d = t
  · subst h; rw [if_pos rfl, if_pos rfl, if_pos hd]; rfl
  · rw [if_neg h, if_neg h]
theorem LBase.put {B q j i : Nat} {a : Act} (h : LBase B q j a) (hi : i < 12) (v : Value) : LBase B q j (a.put (some (31 + i)) v) ∧ (a.put (some (31 + i)) v).tmps.getD (31 + i) undef = v ∧ ∀ t, t < 12 → t ≠ i → (a.put (some (31 + i)) v).tmps.getD (31 + t) undef = a.tmps.getD (31 + t) undef := by
  have hs := h.size
  refine ⟨⟨by show (a.tmps.setIfInBounds _ _).size = 53; simpa using hs, ?_, ?_, ?_⟩, ?_, fun t ht hne => ?_⟩
  · rw [put_getD _ _ _ _ (by omega), if_neg (by omega)]; exact h.s6
  · rw [put_getD _ _ _ _ (by omega), if_neg (by omega)]; exact h.s7
  · rw [put_getD _ _ _ _ (by omega), if_neg (by omega)]; exact h.s8
  · rw [put_getD _ _ _ _ (by omega), if_pos rfl]
  · rw [put_getD _ _ _ _ (by omega), if_neg (by omega)]

/-- The variables of Longest. -/
structure LB (w : World) (B q : Nat) (A : Option Addr) (cap : Nat) (L : List Ins) (f : Nat → Int) (y : Int) (W : World) : Prop where
  sl : Boxed W (B + 1) 31 (.slice (some ⟨B, 0, none⟩) L.length L.length)
  pc : Boxed W q 3 (.int .i64 y)
  row : Rn W B L.length f
  q : B + 2 ≤ q
  B : w.heap.size ≤ B
  below : Below w.heap.size w W
theorem LB.turn {w X Y : World} {B q : Nat} {A : Option Addr} {cap : Nat} {L : List Ins} {f : Nat → Int} {y : Int} {row : Option Nat} {N : Nat} (h : LB w B q A cap L f y X) (hg : X.grownBy Y row) (hN : q < N) (hr : ∀ r, row = some r → N ≤ r) : LB w B q A cap L f y Y :=
  ⟨h.sl.kept hg (fun e => by have := hr _ e.symm; have := h.q; omega), h.pc.kept hg (fun e => by have := hr _ e.symm; omega), h.row.turn hg (fun e => by have := hr _ e; have := h.q; omega), h.q, h.B, below_turn h.below hg (by have := h.B; have := h.q; omega) hr⟩
theorem LB.put {w W : World} {B q : Nat} {A : Option Addr} {cap : Nat} {L : List Ins} {f : Nat → Int} {y : Int} (h : LB w B q A cap L f y W) (i : Nat) (v : Int) : LB w B q A cap L (fun j => if j = i then v else f j) y (W.setCell ⟨B, i, none⟩ (.int .i64 v)) :=
  ⟨h.sl.kept (grownBy_set _ _ _ _) (fun e => by injection e; omega), h.pc.kept (grownBy_set _ _ _ _) (fun e => by injection e; have := h.q; omega), h.row.set i v, h.q, h.B, h.below.setCell (p := ⟨B, i, none⟩) h.B _⟩
theorem LB.congr {w W : World} {B q : Nat} {A : Option Addr} {cap : Nat} {L : List Ins} {f g : Nat → Int} {y : Int} (h : LB w B q A cap L f y W) (hfg : ∀ i, i < L.length → f i = g i) : LB w B q A cap L g y W := ⟨h.sl, h.pc, h.row.congr hfg, h.q, h.B, h.below⟩

theorem LB.drew {w W : World} {B q : Nat} {A : Option Addr} {cap : Nat} {L : List Ins} {f : Nat → Int} {y : Int} (h : LB w B q A cap L f y W) : LB w B q A cap L f y W.drew := ⟨h.sl, h.pc, h.row, h.q, h.B, below_drewN h.below 1⟩
def LInv (w : World) (B : Nat) (A : Option Addr) (cap : Nat) (L : List Ins) (a' : Act) (W : World) : Prop :=
  ∃ (d : Nat) (y : Int) (q : Nat) (u8 u23 u24 u25 u26 u27 u28 u29 u30 u31 u32 u33 u34 u35 u36 u37 u38 u39 u40 u41 u42 u43 u44 u45 u46 u47 u48 u49 : Value) (ds : List Deferred), d ≤ L.length ∧ y = (L.length : Int) - 1 - d ∧ LB w B q A cap L (lgd L d) y W ∧ Marks w.heap.size W ds ∧
    a' = { tmps := #[.slice A L.length cap, undef, .int .i64 0, .int .i64 0, .int .i64 (fchk L).1, .int .i64 0, .pointer (some ⟨B + 1, 0, none⟩), .pointer (some ⟨q, 0, none⟩), u8, .tuple #[.int .i64 (fchk L).1, .int .i64 0], .slice A L.length cap, .tuple #[.int .i64 (fchk L).1, .int .i64 0], .int .i64 (fchk L).1, .int .i64 0, .int .i64 0, .bool false, undef, .slice A L.length cap, .int .i64 (L.length : Int), .slice (some ⟨B, 0, none⟩) L.length L.length, .slice A L.length cap, .int .i64 (L.length : Int), .int .i64 ((L.length : Int) - 1), u23, u24, u25, u26, u27, u28, u29, u30, u31, u32, u33, u34, u35, u36, u37, u38, u39, u40, u41, u42, u43, u44, u45, u46, u47, u48, u49, undef, undef, undef], defers := ds }
/-- What is left: read off the variable. -/
def left7 (a : Act) (W : World) : Nat := match a.tmps.getD 7 undef with
  | .pointer (some p) => match W.cell? p with
    | some (.int _ y) => (y + 1).toNat
    | _ => 0
  | _ => 0

set_option maxRecDepth 100000 in
set_option maxHeartbeats 1000000 in
theorem Longest_ok (A : Option Addr) (cap : Nat) (L : List Ins) (w : World) (hw : (fchk L).2 = 0) (hP : Pr w A L) :
    Calls Try.prog 12 #[.slice A L.length cap] w fun e w' => e = .returned (.tuple #[.int .i64 (lgd L L.length 0), .int .i64 0]) ∧ Below w.heap.size w w' := by
  have hlen := well_len hw
  obtain ⟨l0, l1⟩ := hlen
  have hmk := fun W => run_make_row' (P := Try.prog) 31 3 (.int .i64 0) 8 Try.underlying31 int_info rfl .i64 .i64 L.length (by omega) (by omega) W
  have HP := Lib.hid hP
  have HW := Lib.hid hw
  clear hP hw
  refine calls_marks Try.func12 rfl ?_
  simp only [Try.ntmps12, List.size_toArray, List.length_cons, List.length_nil, Nat.reduceAdd, Nat.reduceSub, Array.replicate_succ, Array.replicate_zero, List.push_toArray, List.append_toArray, List.nil_append, List.cons_append]
  go_wp2_with fail
  refine (Check_whole A cap L _ HP.out).mono ?_
  rintro e w1 ⟨rfl, hB1⟩
  rw [HW.out]
  go_wp2_with fail
  clear hmk
  obtain ⟨W1, hW1⟩ : ∃ W1, W1 = (((w1.alloc (Obj.cells (madeCells #[Value.int IntKind.i64 0] L.length) 3)).alloc (Obj.cells #[Value.slice (some ⟨w1.heap.size, 0, none⟩) L.length L.length] 31)).alloc (Obj.cells #[Value.int IntKind.i64 ((L.length : Int) - 1)] 3)) := ⟨_, rfl⟩
  rw [← hW1]
  have hLB : LB w w1.heap.size (w1.heap.size + 1 + 1) A cap L (lgd L 0) ((L.length : Int) - 1) W1 := by
    have hs1 := hB1.size
    refine ⟨?_, ?_, ?_, by omega, hs1, ?_⟩
    · rw [hW1]; have := Boxed.new (w1.alloc (Obj.cells (madeCells #[Value.int IntKind.i64 0] L.length) 3)) 31 (Value.slice (some ⟨w1.heap.size, 0, none⟩) L.length L.length); rw [World.size_alloc] at this; exact this.alloc _
    · rw [hW1]; have := Boxed.new ((w1.alloc (Obj.cells (madeCells #[Value.int IntKind.i64 0] L.length) 3)).alloc (Obj.cells #[Value.slice (some ⟨w1.heap.size, 0, none⟩) L.length L.length] 31)) 3 (Value.int IntKind.i64 ((L.length : Int) - 1)); rw [World.size_alloc, World.size_alloc] at this; exact this
    · refine ⟨madeCells #[Value.int IntKind.i64 0] L.length, ?_, fun i hi => ?_⟩
      · rw [hW1]
        exact ((Below.heap_alloc _ _ _ (by simp; omega)).trans (Below.heap_alloc _ _ _ (by simp))).trans (World.alloc_heap_new w1 _)
      · rw [← Array.getElem?_toList, toList_madeCells_one, List.getElem?_replicate_of_lt hi]; rfl
    · rw [hW1]; exact ((hB1.alloc hs1 _).alloc (by simp; omega) _).alloc (by simp; omega) _
  have HLB := Lib.hid hLB
  clear hW1 hLB
  refine wp_loop (LInv w w1.heap.size A cap L) left7 ?_ ?_
  · exact ⟨0, _, _, _, _, _, _, _, _, _, _, _, _, _, _, _, _, _, _, _, _, _, _, _, _, _, _, _, _, _, _, [], by omega, by omega, HLB.out, trivial, rfl⟩
  · rintro a wr ⟨d, y, q, u8, u23, u24, u25, u26, u27, u28, u29, u30, u31, u32, u33, u34, u35, u36, u37, u38, u39, u40, u41, u42, u43, u44, u45, u46, u47, u48, u49, ds, hd, hy, hC, hM, rfl⟩
    have hq0 := hC.q
    have hB0 := hC.B
    have HC := Lib.hid hC
    have HM := Lib.hid hM
    have hpc := hC.pc.cell
    have hsl := hC.sl.cell
    have hqlt := hC.pc.lt
    clear hC hM HLB
    by_cases hlt : d < L.length
    · obtain ⟨k, rfl⟩ := Int.eq_ofNat_of_zero_le (show 0 ≤ y by omega)
      have hkd : k = L.length - 1 - d := by omega
      have hkl : k < L.length := by omega
      have HKD := Lib.hid hkd
      clear hy hkd
      go_wp2_with fail
      refine (behind_plain A L.length cap (k : Int) _).mono ?_
      rintro e w3 ⟨rfl, rfl⟩
      go_wp2_with fail
      obtain ⟨W1', hW1⟩ : ∃ W1', W1' = (wr.alloc (.cells #[.slice A L.length cap] 22)).alloc (.cells #[.int .i64 (k : Int)] 3) := ⟨_, rfl⟩
      rw [← hW1]
      have hsz : W1'.heap.size = wr.heap.size + 2 := by rw [hW1]; simp
      have hG : wr.grownBy W1' none := by rw [hW1]; exact (World.grownBy_alloc _ _ _).trans (World.grownBy_alloc _ _ _)
      have hB3 : Below wr.heap.size wr W1' := by rw [hW1]; exact ((Below.refl _ wr).alloc (Nat.le_refl _) _).alloc (by simp) _
      have bQ : Boxed W1' wr.heap.size 22 (.slice A L.length cap) := by rw [hW1]; exact (Boxed.new wr _ _).alloc _
      have bC : Boxed W1' (wr.heap.size + 1) 3 (.int .i64 (k : Int)) := by
        rw [hW1]; have := Boxed.new (wr.alloc (.cells #[.slice A L.length cap] 22)) 3 (.int .i64 (k : Int)); rw [World.size_alloc] at this; exact this
      have hC3 := HC.out.turn (N := q + 1) hG (by omega) (fun r e => by cases e)
      have hM3 : Marks w.heap.size W1' ds := HM.out.later hB3
      have HDS := Lib.hid (fun d hd r e => hM3.lt d hd r e : ∀ d ∈ ds, ∀ r, d.target = .collected r → r < W1'.heap.size)
      have hP3 : Pr W1' A L := (HP.out.below HC.out.below).below hB3
      have hsz1 : wr.heap.size + 2 ≤ W1'.heap.size := by omega
      have HSZ := Lib.hid hsz
      have hbd := lgd_bd L d
      have HBD := Lib.hid hbd
      clear hW1 hsl hpc hsz hbd
      apply wp_range_beh (w := W1') (Bc := wr.heap.size + 1) (Bp := wr.heap.size) (A := A) (cap := cap) (L := L) (pc := (k : Int)) rfl (by omega) (by omega) (by omega) bC.cell bQ.cell hP3
        (fun pre W => LB w w1.heap.size q A cap L (fun i => if i = k then mxl (lgd L d) pre else lgd L d i) (k : Int) W ∧ Marks w.heap.size W ds)
        (fun c pre W => False)
      case hassign =>
        intro l x W K hK
        gi_wp2
        exact hK
      case hI => exact fun s X Y row hs hg hr => ⟨hs.1.turn (N := W1'.heap.size) hg (by omega) (fun r e => (hr r e).1), hs.2.turn HDS.out hg (fun r e => (hr r e).1)⟩
      case hIx => exact fun _ _ _ _ _ hs _ _ => hs
      case h0 => exact ⟨hC3.congr (fun i hi => by
        by_cases e : i = k
        · rw [if_pos e, e]
          exact lgd_zero L d k (by rw [HKD.out]; omega)
        · rw [if_neg e]), hM3⟩
      case hbody =>
        rintro l pre x W ⟨hCx, hMx⟩ hltp hx
        obtain ⟨hx1, hx2⟩ := well_beh HW.out hkl hx
        obtain ⟨j, rfl⟩ := Int.eq_ofNat_of_zero_le (show 0 ≤ x by omega)
        have hsl := hCx.sl.cell
        have hpc := hCx.pc.cell
        have hk := hCx.row.cell hkl
        have hj := hCx.row.cell (i := j) (by omega)
        have hfk := hCx.row.frozen k
        rw [if_pos rfl] at hk
        rw [if_neg (by omega)] at hj
        have b1 := HBD.out j
        have b2 := mxl_le (f := lgd L d) (B := d) (by omega) pre (fun x _ => (HBD.out x.toNat).2)
        have hsn := mxl_snoc (lgd L d) pre (j : Int)
        rw [Int.toNat_natCast] at hsn
        generalize mxl (lgd L d) pre = M at *
        generalize hlj : lgd L d j = N at *
        have HSN := Lib.hid hsn
        have HCX := Lib.hid hCx
        have HMX := Lib.hid hMx
        clear hsn hCx hMx hlj hx
        gi_wp2
        refine region_reads (by kernel_rfl) 12 rfl (fun i => 31 + i) (lval w1.heap.size L.length k j M N) (LBase w1.heap.size q j) ?hdst ?hput ?hstep ?hlast ?hgl ?hb
        case hb => exact ⟨rfl, rfl, rfl, rfl⟩
        case hput => exact fun a i hi hb => hb.put hi _
        case hdst =>
          intro i o hi ho
          have : i = 0 ∨ i = 1 ∨ i = 2 ∨ i = 3 ∨ i = 4 ∨ i = 5 ∨ i = 6 ∨ i = 7 ∨ i = 8 ∨ i = 9 ∨ i = 10 ∨ i = 11 := by omega
          rcases this with rfl | rfl | rfl | rfl | rfl | rfl | rfl | rfl | rfl | rfl | rfl | rfl <;> (obtain rfl := Option.some.inj ho; exact ⟨rfl, rfl, by simp⟩)
        case hgl =>
          intro o ho
          obtain rfl := Option.some.inj ho
          refine ⟨rfl, by simp, fun i hi => ?_⟩
          have : i = 0 ∨ i = 1 ∨ i = 2 ∨ i = 3 ∨ i = 4 ∨ i = 5 ∨ i = 6 ∨ i = 7 ∨ i = 8 ∨ i = 9 ∨ i = 10 ∨ i = 11 := by omega
          rcases this with rfl | rfl | rfl | rfl | rfl | rfl | rfl | rfl | rfl | rfl | rfl | rfl <;> simp [Region.binds]
        case hstep =>
          intro i o a K hi ho hb hdep hk2
          obtain ⟨z0, z6, z7, z8⟩ := hb
          have : i = 0 ∨ i = 1 ∨ i = 2 ∨ i = 3 ∨ i = 4 ∨ i = 5 ∨ i = 6 ∨ i = 7 ∨ i = 8 ∨ i = 9 ∨ i = 10 ∨ i = 11 := by omega
          rcases this with rfl | rfl | rfl | rfl | rfl | rfl | rfl | rfl | rfl | rfl | rfl | rfl
          all_goals
            obtain rfl := Option.some.inj ho
            simp [Region.binds, lval] at hdep hk2
            simp [z0] at z6 z7 z8 hdep
            try obtain ⟨y1, y2⟩ := hdep
            go_simp
            exact hk2
        case hlast =>
          intro o a K ho hb hv hk2
          obtain ⟨z0, z6, z7, z8⟩ := hb
          have y41 := hv 10 (by omega)
          have y42 := hv 11 (by omega)
          obtain rfl := Option.some.inj ho
          simp [lval, z0] at y41 y42
          clear hv
          go_simp
          refine hk2 _ _ ?_
          gi_wp2
          all_goals
            refine ⟨((KeepsOthers.setCell _ _ _).trans (KeepsOthers.drew _)).from _, kb_set (by omega), LB.drew ((HCX.out.put k _).congr (fun i hi => ?_)), Marks.keep (marks_set HMX.out hk) (fun r _ _ h => h)⟩
            by_cases e : i = k
            · rw [if_pos e, if_pos e, HSN.out]; omega
            · rw [if_neg e, if_neg e, if_neg e]
      case hdone =>
        rintro D W hD ⟨hCx, hMx⟩ hK
        have hsl := hCx.sl.cell
        have hpc := hCx.pc.cell
        have hpf := hCx.pc.frozen
        have hk := hCx.row.cell hkl
        have hfk := hCx.row.frozen k
        rw [if_pos rfl] at hk
        have b2 := mxl_le (f := lgd L d) (B := d) (by omega) (beh L (k : Int)) (fun x _ => (HBD.out x.toNat).2)
        generalize hM0 : mxl (lgd L d) (beh L (k : Int)) = M at *
        have HM0 := Lib.hid hM0
        have HCX := Lib.hid hCx
        have HM2 := Lib.hid (hMx.more (D := D) (by omega) hK (fun d hd r e => by have := HDS.out d hd r e; omega))
        clear hCx hMx hM0 hK
        have hqW := HCX.out.pc.lt
        have c_old := HC.out.pc.cell
        have hLB2 : LB w w1.heap.size W.heap.size A cap L (lgd L (d + 1)) ((k : Int) - 1) ((W.setCell ⟨w1.heap.size, k, none⟩ (.int .i64 (M + 1))).alloc (.cells #[.int .i64 ((k : Int) - 1)] 3)) := by
          have h1 := (HCX.out.put k (M + 1))
          have hs : (W.setCell ⟨w1.heap.size, k, none⟩ (.int .i64 (M + 1))).heap.size = W.heap.size := by simp
          refine ⟨h1.sl.alloc _, ?_, (h1.row.turn (World.grownBy_alloc _ _ none) (by simp)).congr (fun i hi => ?_), by omega, hB0, h1.below.alloc (by rw [hs]; have := HCX.out.below.size; omega) _⟩
          · have := Boxed.new (W.setCell ⟨w1.heap.size, k, none⟩ (.int .i64 (M + 1))) 3 (.int .i64 ((k : Int) - 1)); rw [hs] at this; exact this
          · by_cases e : i = k
            · rw [if_pos e, e]
              show _ = (if k = L.length - 1 - d then mxl (lgd L d) (beh L ((L.length - 1 - d : Nat) : Int)) + 1 else lgd L d k)
              rw [if_pos HKD.out, ← HKD.out, HM0.out]
            · rw [if_neg e, if_neg e]
              show _ = (if i = L.length - 1 - d then mxl (lgd L d) (beh L ((L.length - 1 - d : Nat) : Int)) + 1 else lgd L d i)
              rw [if_neg (by rw [← HKD.out]; exact e)]
        have HLB2 := Lib.hid hLB2
        have HM3 : Hid (Marks w.heap.size ((W.setCell ⟨w1.heap.size, k, none⟩ (.int .i64 (M + 1))).alloc (.cells #[.int .i64 ((k : Int) - 1)] 3)) ({ target := .collected D, args := #[] } :: ds)) := Lib.hid ((marks_set HM2.out hk).later ((Below.refl _ _).alloc (Nat.le_refl _) _))
        have CO := Lib.hid c_old
        clear hLB2 c_old
        go_wp2
        refine ⟨⟨d + 1, (k : Int) - 1, W.heap.size, _, _, _, _, _, _, _, _, _, _, _, _, _, _, _, _, _, _, _, _, _, _, _, _, _, _, _, _, _, by omega, by have := HKD.out; omega, HLB2.out, HM3.out, by rfl⟩, ?_⟩
        have cn := HLB2.out.pc.cell
        have co := CO.out
        have e1 : ∀ a : Act, a.tmps.getD 7 undef = .pointer (some ⟨W.heap.size, 0, none⟩) → left7 a ((W.setCell ⟨w1.heap.size, k, none⟩ (.int .i64 (M + 1))).alloc (.cells #[.int .i64 ((k : Int) - 1)] 3)) = k := fun a h => by
          unfold left7; rw [h]; simp only [cn]; omega
        have e2 : ∀ a : Act, a.tmps.getD 7 undef = .pointer (some ⟨q, 0, none⟩) → left7 a wr = k + 1 := fun a h => by
          unfold left7; rw [h]; simp only [co]; omega
        rw [e1 _ rfl, e2 _ rfl]
        omega
      case hstop => rintro D c pre W _ _ h _; exact h.elim
    · obtain rfl : y = -1 := by omega
      have hde : d = L.length := by omega
      have hk := HC.out.row.cell (i := 0) l0
      rw [hde] at hk
      have HK := Lib.hid hk
      have hk0 := hk
      have HE := Lib.hid hde
      clear hy hk hde
      go_wp2
      refine leaves_marks (B := w.heap.size) (fun W => Below w.heap.size w W) (fun W r hg hr hd => hg.trans (belowK_b (w := w) (Nat.le_refl _) W r _ _ hr hd rfl rfl)) (fun W hg => ⟨_, results_tmp2 rfl _ _ _, rfl, hg⟩) _ _ HM.out HC.out.below

set_option maxHeartbeats 1000000 in
theorem Longest_any (A : Option Addr) (cap : Nat) (L : List Ins) (w : World) (hP : Pr w A L) :
    Calls Try.prog 12 #[.slice A L.length cap] w fun e w' => e = .returned (.tuple #[.int .i64 (lng L).1, .int .i64 (lng L).2]) ∧ Below w.heap.size w w' := by
  by_cases h : (fchk L).2 = 0
  · have : lng L = (lgd L L.length 0, 0) := by unfold lng; rw [if_neg (by rw [h]; simp)]
    rw [this]
    exact Longest_ok A cap L w h hP
  · have : lng L = (0, (fchk L).2) := by unfold lng; rw [if_pos h]
    rw [this]
    have HP := Lib.hid hP
    have hne : ((fchk L).2 != 0) = true := by rw [bne_iff_ne]; exact h
    clear hP this h
    go_enter Try.func12, Try.ntmps12
    go_wp2_with fail
    refine (Check_whole A cap L _ HP.out).mono ?_
    rintro e w1 ⟨rfl, hB1⟩
    have HB := Lib.hid hB1
    clear hB1
    go_wp2
    go_ret2
    exact ⟨rfl, HB.out⟩
end Go.Proofs.Ytaomlfnffnapmaa
