/- The chain's links (layer 10): what each small function does to the arena's bytes. -/
import Derived.Test.YtajbfjmbohkphaaAr5
set_option linter.unusedVariables false
set_option linter.unusedSimpArgs false
namespace Go.Proofs.Ytajbfjmbohkphaa
open Go.RowKit

/-- The number of 32 bits at a place; such a number laid there. -/
def gt (bs : List Int) (at_ : Int) : Int := ldA bs at_ 4
def st (bs : List Int) (at_ v : Int) : List Int := stA bs at_ 4 v
theorem gt_range (bs : List Int) (h : ∀ x ∈ bs, 0 ≤ x ∧ x ≤ 255) (at_ : Int) : 0 ≤ gt bs at_ ∧ gt bs at_ ≤ 4294967295 := by
  unfold gt ldA
  split
  · have := ldv_range bs h at_.toNat 4
    have e : (256 : Int) ^ 4 = 4294967296 := by decide
    rw [e] at this
    exact ⟨this.1, by have := this.2; show ldv bs at_.toNat 4 ≤ _; omega⟩
  · omega
theorem st_length (bs : List Int) (at_ v : Int) : (st bs at_ v).length = bs.length := stA_length _ _ _ _

/-- The links' box. -/
abbrev bx (p : Nat) : Obj := .cells #[.pointer (some ⟨p, 0, none⟩)] 60

section
variable {w0 w w1 : World} {p d : Nat} {bs : List Int}

theorem in_any (at_ n : Int) (w : World) (h : Ar w p d bs) (hn0 : 0 ≤ n) (hn1 : n ≤ 100) :
    Calls Try.prog 40 #[.agg #[.pointer (some ⟨p, 0, none⟩)], .int .i64 at_, .int .i64 n] w fun e w' =>
      e = .returned (.bool (decide (1 ≤ at_) && decide (at_ ≤ (bs.length : Int) - n))) ∧ Below w.heap.size w w' := by
  have HB := Lib.hid ((Below.refl w.heap.size w).alloc (Nat.le_refl _) (bx p))
  have HA := Lib.hid (h.below HB.out)
  have hl := h.len
  clear h
  by_cases h : 1 ≤ at_
  · go_enter Try.func40, Try.ntmps40
    go_wp2_with fail
    refine (Len_calls HA.out).mono ?_
    rintro e w1 ⟨rfl, rfl⟩
    go_wp2
    go_ret
    exact ⟨ret_bool (by simp [h]), HB.out⟩
  · have hd : decide (1 ≤ at_) = false := decide_eq_false h
    go_enter Try.func40, Try.ntmps40
    go_wp2
    go_ret
    exact ⟨rfl, HB.out⟩

theorem get_any (at_ : Int) (w : World) (h : Ar w p d bs) :
    Calls Try.prog 29 #[.agg #[.pointer (some ⟨p, 0, none⟩)], .int .i64 at_] w fun e w' =>
      e = .returned (.int .i64 (gt bs at_)) ∧ Below w.heap.size w w' := by
  have HB := Lib.hid ((Below.refl w.heap.size w).alloc (Nat.le_refl _) (bx p))
  have HA := Lib.hid (h.below HB.out)
  have hr := gt_range bs h.rng at_
  unfold gt at *
  clear h
  go_enter Try.func29, Try.ntmps29
  go_wp2_with fail
  refine (Load_any at_ 4 _ HA.out).mono ?_
  rintro e w1 ⟨rfl, hB⟩
  have HB2 := Lib.hid (below_then HB.out (by simp) hB)
  clear hB
  go_wp2
  go_ret
  exact ⟨rfl, HB2.out⟩

theorem set_any (at_ v : Int) (w : World) (h : Ar w p d bs) (h0 : 0 ≤ v) (h1 : v ≤ 4294967295) :
    Calls Try.prog 31 #[.agg #[.pointer (some ⟨p, 0, none⟩)], .int .i64 at_, .int .i64 v] w fun e w' =>
      e = .returned (.tuple #[]) ∧ Ar w' p d (st bs at_ v) ∧ w.grownBy w' (some d) := by
  have HB := Lib.hid ((Below.refl w.heap.size w).alloc (Nat.le_refl _) (bx p))
  have HA := Lib.hid (h.below HB.out)
  clear h
  go_enter Try.func31, Try.ntmps31
  go_wp2_with fail
  refine (Store_any at_ 4 v _ HA.out h0).mono ?_
  rintro e w1 ⟨rfl, hA, hg⟩
  have HG := Lib.hid ((World.grownBy_alloc w (bx p) (some d)).trans hg)
  have HA1 := Lib.hid hA
  clear hg hA
  go_wp2
  go_end0
  exact ⟨rfl, HA1.out, HG.out⟩

/-- Within a function that began at w0: the arena, and links in a box; nothing else but the arena's bytes was turned. -/
structure Lk (w0 w : World) (p d : Nat) (bs : List Int) (X : Nat) : Prop where
  ar : Ar w p d bs
  box : w.heap[X]? = some (bx p)
  ne : X ≠ d
  gr : w0.grownBy w (some d)
variable {X : Nat}
theorem Lk.new (h : Ar w p d bs) : Lk w (w.alloc (bx p)) p d bs w.heap.size :=
  ⟨h.below ((Below.refl _ _).alloc (Nat.le_refl _) _), heap_alloc_new w _, by have := h.lt; omega, World.grownBy_alloc w _ _⟩
theorem Lk.cell (S : Lk w0 w p d bs X) : w.cell? ⟨X, 0, none⟩ = some (.pointer (some ⟨p, 0, none⟩)) := by rw [cell_of_row w X 0 _ _ _ S.box]; rfl
theorem Lk.lt (S : Lk w0 w p d bs X) : X < w.heap.size := World.block_lt_of_cell? w ⟨X, 0, none⟩ S.cell
theorem Lk.grown {bs' : List Int} (S : Lk w0 w p d bs X) (hA : Ar w1 p d bs') (hg : w.grownBy w1 (some d)) : Lk w0 w1 p d bs' X :=
  ⟨hA, (hg.block X S.lt (fun e => S.ne (by injection e))).trans S.box, S.ne, S.gr.trans hg⟩
theorem Lk.then_ (S : Lk w0 w p d bs X) (k : Below w.heap.size w w1) : Lk w0 w1 p d bs X := S.grown (S.ar.below k) (only_of_below k _)

theorem in_lk (S : Lk w0 w p d bs X) (at_ n : Int) (hn0 : 0 ≤ n) (hn1 : n ≤ 100) :
    Calls Try.prog 40 #[.agg #[.pointer (some ⟨p, 0, none⟩)], .int .i64 at_, .int .i64 n] w fun e w' =>
      e = .returned (.bool (decide (1 ≤ at_) && decide (at_ ≤ (bs.length : Int) - n))) ∧ Lk w0 w' p d bs X :=
  (in_any at_ n w S.ar hn0 hn1).mono fun _ _ ⟨h, hB⟩ => ⟨h, S.then_ hB⟩
theorem get_lk (S : Lk w0 w p d bs X) (at_ : Int) :
    Calls Try.prog 29 #[.agg #[.pointer (some ⟨p, 0, none⟩)], .int .i64 at_] w fun e w' =>
      e = .returned (.int .i64 (gt bs at_)) ∧ Lk w0 w' p d bs X :=
  (get_any at_ w S.ar).mono fun _ _ ⟨h, hB⟩ => ⟨h, S.then_ hB⟩
theorem set_lk (S : Lk w0 w p d bs X) (at_ v : Int) (h0 : 0 ≤ v) (h1 : v ≤ 4294967295) :
    Calls Try.prog 31 #[.agg #[.pointer (some ⟨p, 0, none⟩)], .int .i64 at_, .int .i64 v] w fun e w' =>
      e = .returned (.tuple #[]) ∧ Lk w0 w' p d (st bs at_ v) X :=
  (set_any at_ v w S.ar h0 h1).mono fun _ _ ⟨h, hA, hg⟩ => ⟨h, S.grown hA hg⟩

/-- Is it within? -/
def inn (bs : List Int) (at_ n : Int) : Bool := decide (1 ≤ at_) && decide (at_ ≤ (bs.length : Int) - n)
/-- Are a head and a node within? -/
def chk (bs : List Int) (head node : Int) : Int := if inn bs head 8 && inn bs node 16 then 0 else 4
theorem check_any (head node : Int) (w : World) (h : Ar w p d bs) :
    Calls Try.prog 28 #[.agg #[.pointer (some ⟨p, 0, none⟩)], .int .i64 head, .int .i64 node] w fun e w' =>
      e = .returned (.int .i64 (chk bs head node)) ∧ Lk w w' p d bs w.heap.size := by
  have L0 := Lib.hid (Lk.new h)
  unfold chk
  cases h1 : inn bs head 8
  · have H1 := Lib.hid h1
    unfold inn at h1
    go_enter Try.func28, Try.ntmps28
    go_wp2_with fail
    refine (in_lk L0.out head 8 (by omega) (by omega)).mono ?_
    rintro e w1 ⟨rfl, L1⟩
    rw [h1]
    go_wp2
    go_ret
    exact ⟨by rfl, L1⟩
  · unfold inn at h1
    cases h2 : inn bs node 16
    · unfold inn at h2
      go_enter Try.func28, Try.ntmps28
      go_wp2_with fail
      refine (in_lk L0.out head 8 (by omega) (by omega)).mono ?_
      rintro e w1 ⟨rfl, L1⟩
      rw [h1]
      have hc1 := L1.cell
      go_wp2_with fail
      refine (in_lk L1 node 16 (by omega) (by omega)).mono ?_
      rintro e w2 ⟨rfl, L2⟩
      rw [h2]
      go_wp2
      go_ret
      exact ⟨by rfl, L2⟩
    · unfold inn at h2
      go_enter Try.func28, Try.ntmps28
      go_wp2_with fail
      refine (in_lk L0.out head 8 (by omega) (by omega)).mono ?_
      rintro e w1 ⟨rfl, L1⟩
      rw [h1]
      have hc1 := L1.cell
      go_wp2_with fail
      refine (in_lk L1 node 16 (by omega) (by omega)).mono ?_
      rintro e w2 ⟨rfl, L2⟩
      rw [h2]
      go_wp2
      go_ret
      exact ⟨by rfl, L2⟩
theorem check_lk {head node : Int} (S : Lk w0 w p d bs X) :
    Calls Try.prog 28 #[.agg #[.pointer (some ⟨p, 0, none⟩)], .int .i64 head, .int .i64 node] w fun e w' =>
      e = .returned (.int .i64 (chk bs head node)) ∧ Lk w0 w' p d bs X :=
  (check_any head node w S.ar).mono fun _ _ ⟨h, hL⟩ => ⟨h, S.grown hL.ar hL.gr⟩
end
end Go.Proofs.Ytajbfjmbohkphaa
