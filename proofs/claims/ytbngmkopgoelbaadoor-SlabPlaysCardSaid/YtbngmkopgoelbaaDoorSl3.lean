import Derived.RangeFuncNested
import Derived.RangeFuncBound
import Derived.RangeFuncCalls
import Derived.RangeFuncLeaves
import Derived.RangeFuncBox
import Derived.Shelf.Abstract
import Derived.Shelf.RegionOpen
import Derived.WalkKit
import Derived.OwnWalkIn
import Derived.TacticsInMore
import Derived.LoopNIn
import Derived.LoopIn
import Derived.Lib.Hide
import Derived.Test.YtbngmkopgoelbaaDoorSl2
/- The slab (layer 3): blocks: the function that tells a page's blocks, from the last one down. -/
set_option linter.unusedVariables false
set_option linter.unusedSimpArgs false
namespace Go.Proofs.YtbngmkopgoelbaaDoor
open Go.RowKit Go.Shelf
attribute [local go_sem] Oper.semAt_some

/-- The last blocks of a page, from the last one down. -/
def xs1 (p c k : Nat) : Int := (512 * p + 512 - c : Int) - c * k
def XS (p c k : Nat) : List Int := (List.range k).map (xs1 p c)
theorem XS_succ (p c k : Nat) : XS p c (k + 1) = XS p c k ++ [xs1 p c k] := by unfold XS; rw [List.range_succ, List.map_append]; rfl
theorem XS_prefix (p c : Nat) {k n : Nat} (h : k ≤ n) : XS p c k <+: XS p c n := by
  obtain ⟨d, rfl⟩ := Nat.le.dest h
  unfold XS
  rw [List.range_add, List.map_append]
  exact ⟨_, rfl⟩
theorem XS_length (p c k : Nat) : (XS p c k).length = k := by simp [XS]
theorem xs1_mem (p c k n : Nat) (h : k < n) : xs1 p c k ∈ XS p c n := List.mem_map.2 ⟨k, List.mem_range.2 h, rfl⟩
theorem xs1_step (p c k : Nat) : xs1 p c k - (c : Int) = xs1 p c (k + 1) := by
  unfold xs1
  rw [Int.natCast_succ, Int.mul_add]; omega
theorem xs1_in {p c k : Nat} (hc : isC c) (h : k < 512 / c) : 512 * (p : Int) ≤ xs1 p c k ∧ xs1 p c k + c ≤ 512 * p + 512 := by
  unfold xs1
  rcases hc with rfl | rfl | rfl | rfl | rfl <;> omega
theorem xs1_end {p c : Nat} (hc : isC c) : xs1 p c (512 / c) < 512 * (p : Int) ∧ 512 * (p : Int) - 256 ≤ xs1 p c (512 / c) := by
  unfold xs1
  rcases hc with rfl | rfl | rfl | rfl | rfl <;> omega

/-- What a round must leave: the boxes of the page and of the class. -/
def Kb (Bp Bc : Nat) (W W' : World) : Prop := W'.cell? ⟨Bp, 0, none⟩ = W.cell? ⟨Bp, 0, none⟩ ∧ W'.cell? ⟨Bc, 0, none⟩ = W.cell? ⟨Bc, 0, none⟩
def BlkQ (J Jx : List Int → World → Prop) (bs : List Int) (e : Ending) (W' : World) : Prop :=
  (∃ v, e = .returned v) ∧ ((∃ xs, xs = bs ∧ J xs W') ∨ (∃ pre, pre <+: bs ∧ Jx pre W'))
theorem BlkQ.all {J Jx : List Int → World → Prop} {bs xs : List Int} {v : Value} {W' : World} (e : xs = bs) (h : J xs W') : BlkQ J Jx bs (.returned v) W' := ⟨⟨_, rfl⟩, .inl ⟨_, e, h⟩⟩
theorem BlkQ.part {J Jx : List Int → World → Prop} {bs pre : List Int} {v : Value} {W' : World} (hp : pre <+: bs) (h : Jx pre W') : BlkQ J Jx bs (.returned v) W' := ⟨⟨_, rfl⟩, .inr ⟨_, hp, h⟩⟩
def RoundsOk (n l Bp Bc : Nat) (J Jx : List Int → World → Prop) (bs : List Int) : Prop :=
  ∀ pre x W1, J pre W1 → (pre ++ [x]) <+: bs → YieldAt Fence.wide (n - 1) Tryd.prog l #[.int .i64 x] W1 fun e W' =>
    (e = .returned (.bool true) ∧ J (pre ++ [x]) W' ∧ Kb Bp Bc W1 W') ∨ (e = .returned (.bool false) ∧ Jx (pre ++ [x]) W')

set_option maxRecDepth 100000 in
set_option maxHeartbeats 1000000 in
theorem blocks_walk {n l Bp Bc p c N : Nat} {W : World} {J Jx : List Int → World → Prop} (hn : 1 ≤ n) (hc0 : 16 ≤ c) (hc1 : c ≤ 256) (hp : p < 128)
    (hin : ∀ k, k < N → 512 * (p : Int) ≤ xs1 p c k ∧ xs1 p c k + c ≤ 512 * p + 512) (hend : xs1 p c N < 512 * (p : Int) ∧ 512 * (p : Int) - 256 ≤ xs1 p c N)
    (hbp : W.cell? ⟨Bp, 0, none⟩ = some (.int .i64 (p : Int))) (hbc : W.cell? ⟨Bc, 0, none⟩ = some (.int .i64 (c : Int)))
    (hY : RoundsOk n l Bp Bc J Jx (XS p c N)) (h0 : J [] W) :
    CallsIn Fence.wide n Tryd.prog 44 #[.func (.yield l) #[] #[], .pointer (some ⟨Bp, 0, none⟩), .pointer (some ⟨Bc, 0, none⟩)] W (BlkQ J Jx (XS p c N)) := by
  have e0 : ((p : Int) + 1) * 512 - c = xs1 p c 0 := by unfold xs1; omega
  have HIN := Lib.hid hin
  have HE := Lib.hid hend
  have HY := Lib.hid hY
  clear hin hend hY
  refine callsIn_of_wp Tryd.func44 rfl trivial ?_ rfl
  simp only [Tryd.ntmps44, List.size_toArray, List.length_cons, List.length_nil, Nat.reduceAdd, Nat.reduceSub, Array.replicate_succ, Array.replicate_zero, List.push_toArray, List.append_toArray, List.nil_append, List.cons_append]
  gi_wp2
  gi_loopw [4] (fun i wr => ∃ k : Nat, k ≤ N ∧ i = .int .i64 (xs1 p c k) ∧ J (XS p c k) wr ∧ wr.cell? ⟨Bp, 0, none⟩ = some (.int .i64 (p : Int)) ∧ wr.cell? ⟨Bc, 0, none⟩ = some (.int .i64 (c : Int)))
    (fun i _ => (intOf i + 1000 - 512 * (p : Int)).toNat)
  case atStart =>
    exact ⟨0, Nat.zero_le _, by rw [← e0], h0, hbp, hbc⟩
  case round =>
    obtain ⟨k, hk, rfl, hJk, cp, cc⟩ := hrel
    by_cases hkN : k = N
    · subst hkN
      have h1 := HE.out.1
      have h2 := HE.out.2
      have e1 : xs1 p c k ≥ 512 * (p : Int) - 256 := h2
      generalize xs1 p c k = x at *
      gi_wp2
      go_end0
      exact BlkQ.all rfl hJk
    · have hlt : k < N := by omega
      have h1 := (HIN.out k hlt).1
      have h2 := (HIN.out k hlt).2
      have hst := xs1_step p c k
      have hnx := XS_succ p c k
      have hpre : XS p c k ++ [xs1 p c k] <+: XS p c N := by rw [← hnx]; exact XS_prefix p c (by omega)
      have HST := Lib.hid hst
      have HNX := Lib.hid hnx
      obtain ⟨fn, tmps, assign, body, hy, hR⟩ := HY.out (XS p c k) (xs1 p c k) _ hJk hpre
      clear hst hnx
      generalize hx : xs1 p c k = x at *
      gi_wp2
      refine hR.mono ?_
      rintro e W3 (⟨rfl, hJ3, hk3⟩ | ⟨rfl, hJx3⟩)
      · have cp3 := hk3.1.trans cp
        have cc3 := hk3.2.trans cc
        have e9 : wrap64 (x - (c : Int)) = x - c := by unfold wrap64; omega
        clear hk3
        gi_wp2
        go_roundw
        case rel =>
          refine ⟨k + 1, by omega, ?_, ?_, cp3, cc3⟩
          · rw [← HST.out]
          · rw [HNX.out]; exact hJ3
        case measure => simp [intOf]; omega
      · gi_wp2
        go_end0
        exact BlkQ.part hpre hJx3

/-- Its blocks. -/
abbrev BlkT (p c N : Nat) := { x : Int // x ∈ XS p c N }
theorem blocks_stops (n : Nat) (hn : 1 ≤ n) (Bp Bc p c : Nat) (w : World) (hBc : Bc < w.heap.size) (hBp : Bp < w.heap.size) (hC : isC c) (hp : p < 128)
    (hbp : w.cell? ⟨Bp, 0, none⟩ = some (.int .i64 (p : Int))) (hbc : w.cell? ⟨Bc, 0, none⟩ = some (.int .i64 (c : Int))) :
    SeqStopsK Fence.wide n Tryd.prog 44 #[.pointer (some ⟨Bp, 0, none⟩), .pointer (some ⟨Bc, 0, none⟩)] (fun x : BlkT p c (512 / c) => #[Value.int .i64 x.1]) (Kb Bp Bc) (fun ys => ys.map (·.1) = XS p c (512 / c)) (fun pre => pre.map (·.1) <+: XS p c (512 / c)) (XS p c (512 / c)).length w := fun l J Jx W hW hJ hJx hY h0 => by
  have hcore := blocks_walk (n := n) (l := l) (Bp := Bp) (Bc := Bc) (p := p) (c := c) (N := 512 / c) (W := W) (J := fun pre W => ∃ q : List (BlkT p c (512 / c)), q.map (·.1) = pre ∧ J q W) (Jx := fun pre W => ∃ q : List (BlkT p c (512 / c)), q.map (·.1) = pre ∧ Jx q W)
    hn hC.pos.1 hC.pos.2 hp (fun k hk => xs1_in hC hk) (xs1_end hC) ((hW.cell (p := ⟨Bp, 0, none⟩) hBp).trans hbp) ((hW.cell (p := ⟨Bc, 0, none⟩) hBc).trans hbc)
    (fun pre x W1 ⟨q, hq, hs⟩ hpre => by
      have hx : x ∈ XS p c (512 / c) := hpre.subset (by simp)
      have hl : q.length < (XS p c (512 / c)).length := by
        have := hpre.length_le
        rw [← hq] at this
        simp at this
        omega
      obtain ⟨fn, tmps, assign, body, hy, hR⟩ := hY q ⟨x, hx⟩ W1 hs hl
      refine ⟨fn, tmps, assign, body, hy, hR.mono ?_⟩
      rintro e W' (⟨he, hJ', hk⟩ | ⟨he, hJ'⟩)
      · exact .inl ⟨he, ⟨_, by rw [List.map_append, hq]; rfl, hJ'⟩, hk⟩
      · exact .inr ⟨he, ⟨_, by rw [List.map_append, hq]; rfl, hJ'⟩⟩)
    ⟨[], rfl, h0⟩
  refine hcore.mono ?_
  rintro e W' ⟨he, ⟨xs, hxs, q, hq, hJq⟩ | ⟨pre, hpre, q, hq, hJq⟩⟩
  · exact ⟨he, .inl ⟨q, hq.trans hxs, hJq⟩⟩
  · exact ⟨he, .inr ⟨q, by show q.map (fun x => x.1) <+: _; rw [hq]; exact hpre, hJq⟩⟩

/-- blocks itself: two boxes, and the function value. -/
theorem blocks_calls (n : Nat) (p c : Int) (w : World) :
    CallsIn Fence.wide n Tryd.prog 41 #[.int .i64 p, .int .i64 c] w fun e w' =>
      e = .returned (.func (.func 44) #[] #[.pointer (some ⟨w.heap.size, 0, none⟩), .pointer (some ⟨w.heap.size + 1, 0, none⟩)]) ∧ w' = (w.alloc (.cells #[.int .i64 p] 3)).alloc (.cells #[.int .i64 c] 3) := by
  refine callsIn_of_wp Tryd.func41 rfl trivial ?_ rfl
  simp only [Tryd.ntmps41, List.size_toArray, List.length_cons, List.length_nil, Nat.reduceAdd, Nat.reduceSub, Array.replicate_succ, Array.replicate_zero, List.push_toArray, List.append_toArray, List.nil_append, List.cons_append]
  gi_wp2
  go_ret
  exact ⟨rfl, rfl⟩
theorem blocks_plain (p c : Int) (w : World) :
    Calls Tryd.prog 41 #[.int .i64 p, .int .i64 c] w fun e w' =>
      e = .returned (.func (.func 44) #[] #[.pointer (some ⟨w.heap.size, 0, none⟩), .pointer (some ⟨w.heap.size + 1, 0, none⟩)]) ∧ w' = (w.alloc (.cells #[.int .i64 p] 3)).alloc (.cells #[.int .i64 c] 3) :=
  (callsIn_wide (n := 9)).1 (blocks_calls 9 p c w)
/-- A function's contract, marks and all, from its body walked without a fence. -/
theorem calls_marks {P : Program} {f : FuncId} {fn : Func} {c : Code} {args : Array Value} {w : World} {R : Ending → World → Prop} (hf : P.funcs[f]? = some fn) (hb : fn.body = some c)
    (h : c.wp P (bodyPostM Fence.wide 9 P fn R) { tmps := args ++ Array.replicate (fn.ntmps - args.size) undef, defers := [] } w) : Calls P f args w R :=
  (callsIn_wide (n := 9)).1 (callsIn_of_wp_marks hf hb trivial (wpIn_wide.2 h) rfl)

/-- A loop over a page's blocks. -/
theorem wp_range_blks {q : Tmp} {assign body : Code} {Q : Exit → Act → World → Prop} {a : Act} {w : World} {g : Operand} {Bp Bc p c : Nat}
    (hg : a.eval g = .func (.func 44) #[] #[.pointer (some ⟨Bp, 0, none⟩), .pointer (some ⟨Bc, 0, none⟩)]) (hBc : Bc < w.heap.size) (hBp : Bp < w.heap.size) (hC : isC c) (hp : p < 128)
    (hbp : w.cell? ⟨Bp, 0, none⟩ = some (.int .i64 (p : Int))) (hbc : w.cell? ⟨Bc, 0, none⟩ = some (.int .i64 (c : Int)))
    (I : List Int → World → Prop) (hI : OwnFrom w.heap.size I) (h0 : I [] w) (a₁ : Int → Act)
    (hassign : ∀ (l : Nat) (x : Int) (W : World) (K : Act → World → Prop), K (a₁ x) W →
      assign.wpIn (Fence.wide.inRound l) 7 Tryd.prog (Exit.then K (fun _ _ _ => False)) { tmps := a.tmps.setIfInBounds q (.int .i64 x), defers := [] } W)
    (hbody : ∀ (l : Nat) (pre : List Int) (x : Int) (W : World), I pre W → pre.length < 512 / c → x ∈ XS p c (512 / c) → body.wpIn (Fence.wide.inRound l) 7 Tryd.prog (ownPostG w.heap.size (Kb Bp Bc) I (fun _ _ _ => False) (pre ++ [x]) W) (a₁ x) W)
    (hdone : ∀ (D : Nat) (W : World), w.heap.size ≤ D → I (XS p c (512 / c)) W → W.heap[D]? = some (.deferred (some [])) → Q .normal { a with defers := { target := .collected D, args := #[] } :: a.defers } W) :
    (Code.rangeFunc g #[q] assign body).wp Tryd.prog Q a w := by
  refine (wpIn_wide (n := 9)).1 ?_
  exact wpIn_rangeFunc_ownG rfl (by omega) (gf := 44) (lb := #[.pointer (some ⟨Bp, 0, none⟩), .pointer (some ⟨Bc, 0, none⟩)]) hg trivial (enters_of Tryd.func44 (by kernel_rfl) rfl)
    (blocks_stops 8 (by omega) Bp Bc p c w hBc hBp hC hp hbp hbc) (fun h1 h2 => ⟨h2.1.trans h1.1, h2.2.trans h1.2⟩)
    (fun W l o o' hl _ _ _ => by unfold Kb World.cell?; rw [World.putObj_heap_other (show Bp ≠ l by omega), World.putObj_heap_other (show Bc ≠ l by omega)]; exact ⟨rfl, rfl⟩)
    (Below.refl _ _) (fun _ => rfl) (fun (q : List (BlkT p c (512 / c))) W => I (q.map (fun x => x.1)) W) (fun _ _ _ => False) (fun (q : List (BlkT p c (512 / c))) X Y row hs hg hr => hI (q.map (fun x => x.1)) X Y row hs hg hr) (fun c q X Y row hs hg hr => hs) h0 (fun x => a₁ x.1)
    (fun l x W K hK => by simpa using hassign l x.1 W K hK)
    (fun l q x W hi hl => wpIn_mono (hbody l (q.map (fun x => x.1)) x.1 W hi (by rw [XS_length] at hl; simpa using hl) x.2) (fun e a' W' h => by
      cases e <;> first | exact h | (simp only [ownPostG] at h ⊢; rw [List.map_append]; exact h)))
    (fun D xs W hD hS hi hk => by rw [hS] at hi; exact hdone D W hD hi hk) (fun D c q W hD hS hi hk => hi.elim)
end Go.Proofs.YtbngmkopgoelbaaDoor
