/- Lemmas of the claim TreePlays. -/
import Derived.Test.YthkppnkhiimaeaaMgAr
import Derived.Deep.RegionHeld3
import Derived.Deep.LoopGhost
/- The tree's links (layer 11): what each small function does to the arena's bytes. -/
set_option linter.unusedVariables false
set_option linter.unusedSimpArgs false
namespace Go.Proofs.Ythkppnkhiimaeaa
open Go.RowKit
def gt (bs : List Int) (at_ : Int) : Int := ldA bs at_ 4
def st (bs : List Int) (at_ v : Int) : List Int := stA bs at_ 4 v
theorem gt_range (bs : List Int) (h : ∀ x ∈ bs, 0 ≤ x ∧ x ≤ 255) (at_ : Int) : 0 ≤ gt bs at_ ∧ gt bs at_ ≤ 4294967295 := by
  unfold gt ldA
  split
  · have := ldv_range bs h at_.toNat 4
    have e : (256 : Int) ^ 4 = 4294967296 := by decide
    rw [e] at this
    exact ⟨this.1, by have := this.2; show ldv bs at_.toNat 4 ≤ _; omega⟩
  · omega
theorem st_length (bs : List Int) (at_ v : Int) : (st bs at_ v).length = bs.length := stA_length _ _ _ _
abbrev bx (p : Nat) (r : Int) : Obj := .cells #[.pointer (some ⟨p, 0, none⟩), .int .i64 r] 67
def chB (bs : List Int) (n s : Int) : Int := gt bs (n + 4 * s)
def upB (bs : List Int) (n : Int) : Int := gt bs (n + 8)
def redB (bs : List Int) (n : Int) : Bool := n != 0 && gt bs (n + 16) == 1
def paintB (bs : List Int) (n : Int) (red : Bool) : List Int := if n = 0 then bs else st bs (n + 16) (if red then 1 else 0)
def sideB (bs : List Int) (q n : Int) : Int := if chB bs q 0 = n then 0 else 1
def joinB (bs : List Int) (q s n : Int) : List Int := if n = 0 then st bs (q + 4 * s) n else st (st bs (q + 4 * s) n) (n + 8) q
def placeB (bs : List Int) (r o n : Int) : List Int :=
  if upB bs o = 0 then (if n = 0 then st bs r n else st (st bs r n) (n + 8) 0) else joinB bs (upB bs o) (sideB bs (upB bs o) o) n
def turnB (bs : List Int) (r x s : Int) : List Int :=
  joinB (joinB (placeB bs r x (chB bs x (1 - s))) x (1 - s) (chB (placeB bs r x (chB bs x (1 - s))) (chB bs x (1 - s)) s)) (chB bs x (1 - s)) s x
def pl (n : Int) : Prop := 0 ≤ n ∧ n ≤ 4294967295
section
variable {w0 w w1 : World} {p d : Nat} {bs : List Int} {r : Int}
structure Lk (w0 w : World) (p d : Nat) (r : Int) (bs : List Int) (X : Nat) : Prop where
  ar : Ar w p d bs
  box : w.heap[X]? = some (bx p r)
  ne : X ≠ d
  gr : w0.grownBy w (some d)
variable {X : Nat}
theorem Lk.new (h : Ar w p d bs) (r : Int) : Lk w (w.alloc (bx p r)) p d r bs w.heap.size :=
  ⟨h.below ((Below.refl _ _).alloc (Nat.le_refl _) _), heap_alloc_new w _, by have := h.lt; omega, World.grownBy_alloc w _ _⟩
theorem Lk.cell (S : Lk w0 w p d r bs X) : w.cell? ⟨X, 0, none⟩ = some (.pointer (some ⟨p, 0, none⟩)) ∧ w.cell? ⟨X, 1, none⟩ = some (.int .i64 r) := by
  constructor
  · rw [cell_of_row w X 0 _ _ _ S.box]; rfl
  · rw [cell_of_row w X 1 _ _ _ S.box]; rfl
theorem Lk.lt (S : Lk w0 w p d r bs X) : X < w.heap.size := World.block_lt_of_cell? w ⟨X, 0, none⟩ S.cell.1
theorem Lk.grown {bs' : List Int} (S : Lk w0 w p d r bs X) (hA : Ar w1 p d bs') (hg : w.grownBy w1 (some d)) : Lk w0 w1 p d r bs' X :=
  ⟨hA, (hg.block X S.lt (fun e => S.ne (by injection e))).trans S.box, S.ne, S.gr.trans hg⟩
theorem Lk.then_ (S : Lk w0 w p d r bs X) (k : Below w.heap.size w w1) : Lk w0 w1 p d r bs X := S.grown (S.ar.below k) (only_of_below k _)
theorem Lk.drew (S : Lk w0 w p d r bs X) : Lk w0 w.drew p d r bs X := S.then_ ⟨rfl, rfl, rfl, Nat.le_refl _, fun _ _ => rfl⟩
theorem Lk.rng (S : Lk w0 w p d r bs X) (a : Int) : pl (gt bs a) := gt_range bs S.ar.rng a
theorem in_any (at_ n : Int) (w : World) (h : Ar w p d bs) (hn0 : 0 ≤ n) (hn1 : n ≤ 100) :
    Calls Try.prog 42 #[.agg #[.pointer (some ⟨p, 0, none⟩), .int .i64 r], .int .i64 at_, .int .i64 n] w fun e w' =>
      e = .returned (.bool (decide (1 ≤ at_) && decide (at_ ≤ (bs.length : Int) - n))) ∧ Below w.heap.size w w' := by
  have HB := Lib.hid ((Below.refl w.heap.size w).alloc (Nat.le_refl _) (bx p r))
  have HA := Lib.hid (h.below HB.out)
  have hl := h.len
  clear h
  by_cases h : 1 ≤ at_
  · go_enter Try.func42, Try.ntmps42
    go_wp2_with fail
    refine (Len_calls HA.out).mono ?_
    rintro e w1 ⟨rfl, rfl⟩
    go_wp2
    go_ret
    exact ⟨ret_bool (by simp [h]), HB.out⟩
  · have hd : decide (1 ≤ at_) = false := decide_eq_false h
    go_enter Try.func42, Try.ntmps42
    go_wp2
    go_ret
    exact ⟨rfl, HB.out⟩
theorem get_any (at_ : Int) (w : World) (h : Ar w p d bs) :
    Calls Try.prog 34 #[.agg #[.pointer (some ⟨p, 0, none⟩), .int .i64 r], .int .i64 at_] w fun e w' =>
      e = .returned (.int .i64 (gt bs at_)) ∧ Below w.heap.size w w' := by
  have HB := Lib.hid ((Below.refl w.heap.size w).alloc (Nat.le_refl _) (bx p r))
  have HA := Lib.hid (h.below HB.out)
  have hr := gt_range bs h.rng at_
  unfold gt at *
  clear h
  go_enter Try.func34, Try.ntmps34
  go_wp2_with fail
  refine (Load_any at_ 4 _ HA.out).mono ?_
  rintro e w1 ⟨rfl, hB⟩
  have HB2 := Lib.hid (below_then HB.out (by simp) hB)
  clear hB
  go_wp2
  go_ret
  exact ⟨rfl, HB2.out⟩
theorem set_any (at_ v : Int) (w : World) (h : Ar w p d bs) (hv : pl v) :
    Calls Try.prog 38 #[.agg #[.pointer (some ⟨p, 0, none⟩), .int .i64 r], .int .i64 at_, .int .i64 v] w fun e w' =>
      e = .returned (.tuple #[]) ∧ Ar w' p d (st bs at_ v) ∧ w.grownBy w' (some d) := by
  have HB := Lib.hid ((Below.refl w.heap.size w).alloc (Nat.le_refl _) (bx p r))
  have HA := Lib.hid (h.below HB.out)
  obtain ⟨h0, h1⟩ := hv
  clear h
  go_enter Try.func38, Try.ntmps38
  go_wp2_with fail
  refine (Store_any at_ 4 v _ HA.out h0).mono ?_
  rintro e w1 ⟨rfl, hA, hg⟩
  have HG := Lib.hid ((World.grownBy_alloc w (bx p r) (some d)).trans hg)
  have HA1 := Lib.hid hA
  clear hg hA
  go_wp2
  go_end0
  exact ⟨rfl, HA1.out, HG.out⟩
theorem in_lk (S : Lk w0 w p d r bs X) (at_ n : Int) (hn0 : 0 ≤ n) (hn1 : n ≤ 100) :
    Calls Try.prog 42 #[.agg #[.pointer (some ⟨p, 0, none⟩), .int .i64 r], .int .i64 at_, .int .i64 n] w fun e w' =>
      e = .returned (.bool (decide (1 ≤ at_) && decide (at_ ≤ (bs.length : Int) - n))) ∧ Lk w0 w' p d r bs X :=
  (in_any at_ n w S.ar hn0 hn1).mono fun _ _ ⟨h, hB⟩ => ⟨h, S.then_ hB⟩
theorem get_lk (S : Lk w0 w p d r bs X) (at_ : Int) :
    Calls Try.prog 34 #[.agg #[.pointer (some ⟨p, 0, none⟩), .int .i64 r], .int .i64 at_] w fun e w' =>
      e = .returned (.int .i64 (gt bs at_)) ∧ Lk w0 w' p d r bs X :=
  (get_any at_ w S.ar).mono fun _ _ ⟨h, hB⟩ => ⟨h, S.then_ hB⟩
theorem set_lk (S : Lk w0 w p d r bs X) (at_ v : Int) (hv : pl v) :
    Calls Try.prog 38 #[.agg #[.pointer (some ⟨p, 0, none⟩), .int .i64 r], .int .i64 at_, .int .i64 v] w fun e w' =>
      e = .returned (.tuple #[]) ∧ Lk w0 w' p d r (st bs at_ v) X :=
  (set_any at_ v w S.ar hv).mono fun _ _ ⟨h, hA, hg⟩ => ⟨h, S.grown hA hg⟩
theorem child_any (n s : Int) (w : World) (h : Ar w p d bs) (hn : pl n) (hs : s = 0 ∨ s = 1) :
    Calls Try.prog 36 #[.agg #[.pointer (some ⟨p, 0, none⟩), .int .i64 r], .int .i64 n, .int .i64 s] w fun e w' =>
      e = .returned (.int .i64 (chB bs n s)) ∧ Below w.heap.size w w' := by
  have HB := Lib.hid ((Below.refl w.heap.size w).alloc (Nat.le_refl _) (bx p r))
  have L0 := Lib.hid (Lk.new h r)
  have HA := Lib.hid (h.below HB.out)
  obtain ⟨hc, hc'⟩ := L0.out.cell
  obtain ⟨h0, h1⟩ := hn
  unfold chB
  have hs0 : 0 ≤ s := by omega
  have hs1 : s ≤ 1 := by omega
  clear h hs
  go_enter Try.func36, Try.ntmps36
  go_wp2_with fail
  refine (get_any _ _ HA.out).mono ?_
  rintro e w1 ⟨rfl, hB⟩
  have HB2 := Lib.hid (below_then HB.out (by simp) hB)
  clear hB
  go_wp2
  go_ret
  exact ⟨ret_int (by simp), HB2.out⟩
theorem up_any (n : Int) (w : World) (h : Ar w p d bs) (hn : pl n) :
    Calls Try.prog 43 #[.agg #[.pointer (some ⟨p, 0, none⟩), .int .i64 r], .int .i64 n] w fun e w' =>
      e = .returned (.int .i64 (upB bs n)) ∧ Below w.heap.size w w' := by
  have HB := Lib.hid ((Below.refl w.heap.size w).alloc (Nat.le_refl _) (bx p r))
  have L0 := Lib.hid (Lk.new h r)
  have HA := Lib.hid (h.below HB.out)
  obtain ⟨hc, hc'⟩ := L0.out.cell
  obtain ⟨h0, h1⟩ := hn
  unfold upB
  clear h
  go_enter Try.func43, Try.ntmps43
  go_wp2_with fail
  refine (get_any _ _ HA.out).mono ?_
  rintro e w1 ⟨rfl, hB⟩
  have HB2 := Lib.hid (below_then HB.out (by simp) hB)
  clear hB
  go_wp2
  go_ret
  exact ⟨rfl, HB2.out⟩
theorem top_any (w : World) (h : Ar w p d bs) :
    Calls Try.prog 35 #[.agg #[.pointer (some ⟨p, 0, none⟩), .int .i64 r]] w fun e w' =>
      e = .returned (.int .i64 (gt bs r)) ∧ Below w.heap.size w w' := by
  have HB := Lib.hid ((Below.refl w.heap.size w).alloc (Nat.le_refl _) (bx p r))
  have L0 := Lib.hid (Lk.new h r)
  have HA := Lib.hid (h.below HB.out)
  obtain ⟨hc, hc'⟩ := L0.out.cell
  clear h
  go_enter Try.func35, Try.ntmps35
  go_wp2_with fail
  refine (get_any _ _ HA.out).mono ?_
  rintro e w1 ⟨rfl, hB⟩
  have HB2 := Lib.hid (below_then HB.out (by simp) hB)
  clear hB
  go_wp2
  go_ret
  exact ⟨rfl, HB2.out⟩
theorem red_any (n : Int) (w : World) (h : Ar w p d bs) (hn : pl n) :
    Calls Try.prog 44 #[.agg #[.pointer (some ⟨p, 0, none⟩), .int .i64 r], .int .i64 n] w fun e w' =>
      e = .returned (.bool (redB bs n)) ∧ Below w.heap.size w w' := by
  have HB := Lib.hid ((Below.refl w.heap.size w).alloc (Nat.le_refl _) (bx p r))
  have L0 := Lib.hid (Lk.new h r)
  have HA := Lib.hid (h.below HB.out)
  obtain ⟨hc, hc'⟩ := L0.out.cell
  obtain ⟨h0, h1⟩ := hn
  unfold redB
  clear h
  by_cases hz : n = 0
  · subst hz
    go_enter Try.func44, Try.ntmps44
    go_wp2
    go_ret
    exact ⟨rfl, HB.out⟩
  · have hzb : (n != 0) = true := by rw [bne_iff_ne]; exact hz
    clear hz
    go_enter Try.func44, Try.ntmps44
    go_wp2_with fail
    refine (get_any _ _ HA.out).mono ?_
    rintro e w1 ⟨rfl, hB⟩
    have HB2 := Lib.hid (below_then HB.out (by simp) hB)
    clear hB
    go_wp2
    go_ret
    exact ⟨ret_bool (by rw [hzb]; rfl), HB2.out⟩
theorem side_any (q n : Int) (w : World) (h : Ar w p d bs) (hq : pl q) :
    Calls Try.prog 61 #[.agg #[.pointer (some ⟨p, 0, none⟩), .int .i64 r], .int .i64 q, .int .i64 n] w fun e w' =>
      e = .returned (.int .i64 (sideB bs q n)) ∧ Below w.heap.size w w' := by
  have HB := Lib.hid ((Below.refl w.heap.size w).alloc (Nat.le_refl _) (bx p r))
  have L0 := Lib.hid (Lk.new h r)
  have HA := Lib.hid (h.below HB.out)
  obtain ⟨hc, hc'⟩ := L0.out.cell
  unfold sideB
  clear h
  obtain ⟨c, hcv⟩ : ∃ c, chB bs q 0 = c := ⟨_, rfl⟩
  have HCV := Lib.hid hcv
  rw [hcv]
  clear hcv
  by_cases hz : c = n
  · subst hz
    go_enter Try.func61, Try.ntmps61
    go_wp2_with fail
    refine (child_any q 0 _ HA.out hq (.inl rfl)).mono ?_
    rintro e w1 ⟨rfl, hB⟩
    rw [HCV.out]
    have HB2 := Lib.hid (below_then HB.out (by simp) hB)
    clear hB
    go_wp2
    go_ret
    exact ⟨ret_int (by simp), HB2.out⟩
  · have hzb : (c == n) = false := beq_eq_false_iff_ne.2 hz
    rw [if_neg hz]
    clear hz
    go_enter Try.func61, Try.ntmps61
    go_wp2_with fail
    refine (child_any q 0 _ HA.out hq (.inl rfl)).mono ?_
    rintro e w1 ⟨rfl, hB⟩
    rw [HCV.out]
    have HB2 := Lib.hid (below_then HB.out (by simp) hB)
    clear hB
    go_wp2
    go_ret
    exact ⟨rfl, HB2.out⟩
theorem child_lk (S : Lk w0 w p d r bs X) (n s : Int) (hn : pl n) (hs : s = 0 ∨ s = 1) :
    Calls Try.prog 36 #[.agg #[.pointer (some ⟨p, 0, none⟩), .int .i64 r], .int .i64 n, .int .i64 s] w fun e w' => e = .returned (.int .i64 (chB bs n s)) ∧ Lk w0 w' p d r bs X :=
  (child_any n s w S.ar hn hs).mono fun _ _ ⟨h, hB⟩ => ⟨h, S.then_ hB⟩
theorem up_lk (S : Lk w0 w p d r bs X) (n : Int) (hn : pl n) :
    Calls Try.prog 43 #[.agg #[.pointer (some ⟨p, 0, none⟩), .int .i64 r], .int .i64 n] w fun e w' => e = .returned (.int .i64 (upB bs n)) ∧ Lk w0 w' p d r bs X :=
  (up_any n w S.ar hn).mono fun _ _ ⟨h, hB⟩ => ⟨h, S.then_ hB⟩
theorem top_lk (S : Lk w0 w p d r bs X)   :
    Calls Try.prog 35 #[.agg #[.pointer (some ⟨p, 0, none⟩), .int .i64 r]] w fun e w' => e = .returned (.int .i64 (gt bs r)) ∧ Lk w0 w' p d r bs X :=
  (top_any w S.ar).mono fun _ _ ⟨h, hB⟩ => ⟨h, S.then_ hB⟩
theorem red_lk (S : Lk w0 w p d r bs X) (n : Int) (hn : pl n) :
    Calls Try.prog 44 #[.agg #[.pointer (some ⟨p, 0, none⟩), .int .i64 r], .int .i64 n] w fun e w' => e = .returned (.bool (redB bs n)) ∧ Lk w0 w' p d r bs X :=
  (red_any n w S.ar hn).mono fun _ _ ⟨h, hB⟩ => ⟨h, S.then_ hB⟩
theorem side_lk (S : Lk w0 w p d r bs X) (q n : Int) (hq : pl q) :
    Calls Try.prog 61 #[.agg #[.pointer (some ⟨p, 0, none⟩), .int .i64 r], .int .i64 q, .int .i64 n] w fun e w' => e = .returned (.int .i64 (sideB bs q n)) ∧ Lk w0 w' p d r bs X :=
  (side_any q n w S.ar hq).mono fun _ _ ⟨h, hB⟩ => ⟨h, S.then_ hB⟩
theorem paint_any (n : Int) (red : Bool) (w : World) (h : Ar w p d bs) (hn : pl n) :
    Calls Try.prog 39 #[.agg #[.pointer (some ⟨p, 0, none⟩), .int .i64 r], .int .i64 n, .bool red] w fun e w' =>
      e = .returned (.tuple #[]) ∧ Ar w' p d (paintB bs n red) ∧ w.grownBy w' (some d) := by
  have L0 := Lib.hid (Lk.new h r)
  obtain ⟨hc, hc'⟩ := L0.out.cell
  obtain ⟨h0, h1⟩ := hn
  unfold paintB
  clear h
  by_cases hz : n = 0
  · subst hz
    cases red
    all_goals
      go_enter Try.func39, Try.ntmps39
      go_wp2
      go_end0
      exact ⟨rfl, L0.out.ar, L0.out.gr⟩
  · have hzb : (n != 0) = true := by rw [bne_iff_ne]; exact hz
    rw [if_neg hz]
    clear hz
    cases red
    · go_enter Try.func39, Try.ntmps39
      go_wp2_with fail
      refine (set_lk L0.out (n + 16) 0 ⟨by omega, by omega⟩).mono ?_
      rintro e w1 ⟨rfl, L1⟩
      have HL1 := Lib.hid L1
      clear L1
      go_wp2
      go_end0
      exact ⟨rfl, HL1.out.ar, HL1.out.gr⟩
    · go_enter Try.func39, Try.ntmps39
      go_wp2_with fail
      refine (set_lk L0.out (n + 16) 1 ⟨by omega, by omega⟩).mono ?_
      rintro e w1 ⟨rfl, L1⟩
      have HL1 := Lib.hid L1
      clear L1
      go_wp2
      go_end0
      exact ⟨rfl, HL1.out.ar, HL1.out.gr⟩
theorem join_any (q s n : Int) (w : World) (h : Ar w p d bs) (hq : pl q) (hs : s = 0 ∨ s = 1) (hn : pl n) :
    Calls Try.prog 40 #[.agg #[.pointer (some ⟨p, 0, none⟩), .int .i64 r], .int .i64 q, .int .i64 s, .int .i64 n] w fun e w' =>
      e = .returned (.tuple #[]) ∧ Ar w' p d (joinB bs q s n) ∧ w.grownBy w' (some d) := by
  have L0 := Lib.hid (Lk.new h r)
  obtain ⟨hc, hc'⟩ := L0.out.cell
  have HQ := Lib.hid hq
  have HN := Lib.hid hn
  obtain ⟨h0, h1⟩ := hn
  obtain ⟨hq0, hq1⟩ := hq
  unfold joinB
  have hs0 : 0 ≤ s := by omega
  have hs1 : s ≤ 1 := by omega
  clear h hs
  by_cases hz : n = 0
  · subst hz
    go_enter Try.func40, Try.ntmps40
    go_wp2_with fail
    refine (set_lk L0.out (q + 4 * s) 0 HN.out).mono ?_
    rintro e w1 ⟨rfl, L1⟩
    have HL1 := Lib.hid L1
    clear L1
    go_wp2
    go_end0
    exact ⟨rfl, HL1.out.ar, HL1.out.gr⟩
  · have hzb : (n != 0) = true := by rw [bne_iff_ne]; exact hz
    rw [if_neg hz]
    clear hz
    go_enter Try.func40, Try.ntmps40
    go_wp2_with fail
    refine (set_lk L0.out (q + 4 * s) n HN.out).mono ?_
    rintro e w1 ⟨rfl, L1⟩
    obtain ⟨hc1, hc1'⟩ := L1.cell
    have HL1 := Lib.hid L1
    clear L1
    go_wp2_with fail
    refine (set_lk HL1.out (n + 8) q HQ.out).mono ?_
    rintro e w2 ⟨rfl, L2⟩
    have HL2 := Lib.hid L2
    clear L2
    go_wp2
    go_end0
    exact ⟨rfl, HL2.out.ar, HL2.out.gr⟩
theorem paint_lk (S : Lk w0 w p d r bs X) (n : Int) (red : Bool) (hn : pl n) :
    Calls Try.prog 39 #[.agg #[.pointer (some ⟨p, 0, none⟩), .int .i64 r], .int .i64 n, .bool red] w fun e w' => e = .returned (.tuple #[]) ∧ Lk w0 w' p d r (paintB bs n red) X :=
  (paint_any n red w S.ar hn).mono fun _ _ ⟨h, hA, hg⟩ => ⟨h, S.grown hA hg⟩
theorem join_lk (S : Lk w0 w p d r bs X) (q s n : Int) (hq : pl q) (hs : s = 0 ∨ s = 1) (hn : pl n) :
    Calls Try.prog 40 #[.agg #[.pointer (some ⟨p, 0, none⟩), .int .i64 r], .int .i64 q, .int .i64 s, .int .i64 n] w fun e w' => e = .returned (.tuple #[]) ∧ Lk w0 w' p d r (joinB bs q s n) X :=
  (join_any q s n w S.ar hq hs hn).mono fun _ _ ⟨h, hA, hg⟩ => ⟨h, S.grown hA hg⟩
end
end Go.Proofs.Ythkppnkhiimaeaa
