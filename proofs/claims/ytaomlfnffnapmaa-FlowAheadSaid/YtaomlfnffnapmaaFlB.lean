/- flow.behind: the function that tells what stands behind an instruction. -/
import Derived.RangeFuncNested
import Derived.RangeFuncBound
import Derived.RangeFuncCalls
import Derived.RangeFuncLeaves
import Derived.RangeFuncBox
import Derived.Shelf.Abstract
import Derived.Shelf.RegionOpen
import Derived.WalkKit
import Derived.OwnWalkIn
import Derived.TacticsInMore
import Derived.LoopNIn
import Derived.LoopIn
import Derived.Lib.Hide
import Derived.Test.YtaomlfnffnapmaaFlM
import Derived.Test.YtaomlfnffnapmaaProg
set_option linter.unusedVariables false
set_option linter.unusedSimpArgs false
namespace Go.Proofs.Ytaomlfnffnapmaa
open Go.RowKit Go.Shelf
attribute [local go_sem] Oper.semAt_some

theorem cell_alloc_l {W : World} {a : Addr} {v : Value} (o : Obj) (h : W.cell? a = some v) : (W.alloc o).cell? a = some v := cell_kept h (World.grownBy_alloc W o none) (fun r e => by cases e)
/-- What a round must leave: the box of pc. -/
def Kb (B : Nat) (W W' : World) : Prop := W'.cell? ⟨B, 0, none⟩ = W.cell? ⟨B, 0, none⟩

/-- How telling what stands behind ends. -/
def BehQ (J Jx : List Int → World → Prop) (bs : List Int) (e : Ending) (W' : World) : Prop :=
  (∃ v, e = .returned v) ∧ ((∃ xs, xs = bs ∧ J xs W') ∨ (∃ pre, pre <+: bs ∧ Jx pre W'))
theorem BehQ.all {J Jx : List Int → World → Prop} {bs : List Int} {v : Value} {W' : World} (h : J bs W') : BehQ J Jx bs (.returned v) W' := ⟨⟨_, rfl⟩, .inl ⟨_, rfl, h⟩⟩
theorem BehQ.part {J Jx : List Int → World → Prop} {bs pre : List Int} {v : Value} {W' : World} (hp : pre <+: bs) (h : Jx pre W') : BehQ J Jx bs (.returned v) W' := ⟨⟨_, rfl⟩, .inr ⟨_, hp, h⟩⟩
/-- What the rounds are to do. -/
def RoundsOk (n l Bc : Nat) (J Jx : List Int → World → Prop) (bs : List Int) : Prop :=
  ∀ pre x W1, J pre W1 → (pre ++ [x]) <+: bs → YieldAt Fence.wide (n - 1) Try.prog l #[.int .i64 x] W1 fun e W' =>
    (e = .returned (.bool true) ∧ J (pre ++ [x]) W' ∧ Kb Bc W1 W') ∨ (e = .returned (.bool false) ∧ Jx (pre ++ [x]) W')

section
variable {n l Bc Bp : Nat} {A : Option Addr} {cap : Nat} {L : List Ins} {W : World} {J Jx : List Int → World → Prop}
set_option maxRecDepth 100000 in
set_option maxHeartbeats 1000000 in
theorem behind_out {pc : Int} (hr : pc < 0 ∨ (L.length : Int) ≤ pc) (hc : W.cell? ⟨Bc, 0, none⟩ = some (.int .i64 pc)) (hp : W.cell? ⟨Bp, 0, none⟩ = some (.slice A L.length cap)) (h0 : J [] W) :
    CallsIn Fence.wide n Try.prog 27 #[.func (.yield l) #[] #[], .pointer (some ⟨Bc, 0, none⟩), .pointer (some ⟨Bp, 0, none⟩)] W (BehQ J Jx []) := by
  rcases hr with hr | hr
  · refine callsIn_of_wp Try.func27 rfl trivial ?_ rfl
    simp only [Try.ntmps27, List.size_toArray, List.length_cons, List.length_nil, Nat.reduceAdd, Nat.reduceSub, Array.replicate_succ, Array.replicate_zero, List.push_toArray, List.append_toArray, List.nil_append, List.cons_append]
    gi_wp2
    refine bodyPost_ret (results_none rfl _ _ _) rfl ?_
    exact BehQ.all h0
  · have h00 : 0 ≤ pc := by omega
    refine callsIn_of_wp Try.func27 rfl trivial ?_ rfl
    simp only [Try.ntmps27, List.size_toArray, List.length_cons, List.length_nil, Nat.reduceAdd, Nat.reduceSub, Array.replicate_succ, Array.replicate_zero, List.push_toArray, List.append_toArray, List.nil_append, List.cons_append]
    gi_wp2
    refine bodyPost_ret (results_none rfl _ _ _) rfl ?_
    exact BehQ.all h0

/-- The instruction's cells. -/
structure At (W : World) (A : Option Addr) (L : List Ins) (k : Nat) (op xa xb xc imm : Int) : Prop where
  at_ : ∃ ad : Addr, A = some ad ∧ W.cell? (ad.add (k * 5)) = some (.int .u8 op) ∧ W.cell? ⟨(ad.add (k * 5)).block, (ad.add (k * 5)).off + 1, none⟩ = some (.int .u8 xa) ∧
    W.cell? ⟨(ad.add (k * 5)).block, (ad.add (k * 5)).off + 2, none⟩ = some (.int .u8 xb) ∧ W.cell? ⟨(ad.add (k * 5)).block, (ad.add (k * 5)).off + 3, none⟩ = some (.int .u8 xc) ∧
    W.cell? ⟨(ad.add (k * 5)).block, (ad.add (k * 5)).off + 4, none⟩ = some (.int .u32 imm)
  op : 0 ≤ op ∧ op ≤ 255
  imm : 0 ≤ imm ∧ imm ≤ 4294967295
  k : k < L.length

set_option maxRecDepth 100000 in
set_option maxHeartbeats 1000000 in
theorem behind_exit {k : Nat} {xa xb xc imm : Int} (hX : At W A L k 15 xa xb xc imm) (hc : W.cell? ⟨Bc, 0, none⟩ = some (.int .i64 (k : Int))) (hp : W.cell? ⟨Bp, 0, none⟩ = some (.slice A L.length cap)) (hlen : L.length ≤ 1000000) (h0 : J [] W) :
    CallsIn Fence.wide n Try.prog 27 #[.func (.yield l) #[] #[], .pointer (some ⟨Bc, 0, none⟩), .pointer (some ⟨Bp, 0, none⟩)] W (BehQ J Jx []) := by
  obtain ⟨⟨ad, rfl, c0, c1, c2, c3, c4⟩, ⟨o0, o1⟩, ⟨m0, m1⟩, hk⟩ := hX
  have hki : (k : Int) < (L.length : Int) := by omega
  refine callsIn_of_wp Try.func27 rfl trivial ?_ rfl
  simp only [Try.ntmps27, List.size_toArray, List.length_cons, List.length_nil, Nat.reduceAdd, Nat.reduceSub, Array.replicate_succ, Array.replicate_zero, List.push_toArray, List.append_toArray, List.nil_append, List.cons_append]
  gi_wp2
  refine bodyPost_ret (results_none rfl _ _ _) rfl ?_
  exact BehQ.all h0

set_option maxRecDepth 100000 in
set_option maxHeartbeats 1000000 in
theorem behind_jmp {k : Nat} {xa xb xc imm : Int} (hn : 1 ≤ n) (hX : At W A L k 5 xa xb xc imm) (hc : W.cell? ⟨Bc, 0, none⟩ = some (.int .i64 (k : Int))) (hp : W.cell? ⟨Bp, 0, none⟩ = some (.slice A L.length cap)) (hlen : L.length ≤ 1000000) (hBc : Bc < W.heap.size)
    (hJ : AbidesFrom W.heap.size J) (hY : RoundsOk n l Bc J Jx [(k : Int) + imm]) (h0 : J [] W) :
    CallsIn Fence.wide n Try.prog 27 #[.func (.yield l) #[] #[], .pointer (some ⟨Bc, 0, none⟩), .pointer (some ⟨Bp, 0, none⟩)] W (BehQ J Jx [(k : Int) + imm]) := by
  obtain ⟨⟨ad, rfl, c0, c1, c2, c3, c4⟩, ⟨o0, o1⟩, ⟨m0, m1⟩, hk⟩ := hX
  have hki : (k : Int) < (L.length : Int) := by omega
  have hJA : J [] (W.alloc (.cells #[.int .u8 5, .int .u8 xa, .int .u8 xb, .int .u8 xc, .int .u32 imm] 37)) := hJ [] W _ none h0 (World.grownBy_alloc W _ none) (fun r e => by cases e)
  obtain ⟨fn, tmps, assign, body, hy, hR⟩ := hY [] ((k : Int) + imm) _ hJA (by simp)
  clear hJ hY
  refine callsIn_of_wp Try.func27 rfl trivial ?_ rfl
  simp only [Try.ntmps27, List.size_toArray, List.length_cons, List.length_nil, Nat.reduceAdd, Nat.reduceSub, Array.replicate_succ, Array.replicate_zero, List.push_toArray, List.append_toArray, List.nil_append, List.cons_append]
  gi_wp2
  refine hR.mono ?_
  rintro e W3 (⟨rfl, hJ3, hk3⟩ | ⟨rfl, hJx3⟩)
  · gi_wp2
    go_end0
    exact BehQ.all hJ3
  · gi_wp2
    go_end0
    exact BehQ.part (List.prefix_refl _) hJx3

set_option maxRecDepth 100000 in
set_option maxHeartbeats 1000000 in
theorem behind_one6 {k : Nat} {xa xb xc imm : Int} (hn : 1 ≤ n) (e1 : imm = 1) (hX : At W A L k 6 xa xb xc imm) (hc : W.cell? ⟨Bc, 0, none⟩ = some (.int .i64 (k : Int))) (hp : W.cell? ⟨Bp, 0, none⟩ = some (.slice A L.length cap)) (hlen : L.length ≤ 1000000) (hBc : Bc < W.heap.size)
    (hJ : AbidesFrom W.heap.size J) (hY : RoundsOk n l Bc J Jx [(k : Int) + 1]) (h0 : J [] W) :
    CallsIn Fence.wide n Try.prog 27 #[.func (.yield l) #[] #[], .pointer (some ⟨Bc, 0, none⟩), .pointer (some ⟨Bp, 0, none⟩)] W (BehQ J Jx [(k : Int) + 1]) := by
  subst e1
  obtain ⟨⟨ad, rfl, c0, c1, c2, c3, c4⟩, ⟨o0, o1⟩, ⟨m0, m1⟩, hk⟩ := hX
  have hki : (k : Int) < (L.length : Int) := by omega
  have hJA : J [] (W.alloc (.cells #[.int .u8 6, .int .u8 xa, .int .u8 xb, .int .u8 xc, .int .u32 1] 37)) := hJ [] W _ none h0 (World.grownBy_alloc W _ none) (fun r e => by cases e)
  have hcA : (W.alloc (.cells #[.int .u8 6, .int .u8 xa, .int .u8 xb, .int .u8 xc, .int .u32 1] 37)).cell? ⟨Bc, 0, none⟩ = some (.int .i64 (k : Int)) := cell_alloc_l _ hc
  obtain ⟨fn, tmps, assign, body, hy, hR⟩ := hY [] ((k : Int) + 1) _ hJA (by simp)
  clear hJ hY
  refine callsIn_of_wp Try.func27 rfl trivial ?_ rfl
  simp only [Try.ntmps27, List.size_toArray, List.length_cons, List.length_nil, Nat.reduceAdd, Nat.reduceSub, Array.replicate_succ, Array.replicate_zero, List.push_toArray, List.append_toArray, List.nil_append, List.cons_append]
  gi_wp2
  refine hR.mono ?_
  rintro e W3 (⟨rfl, hJ3, hk3⟩ | ⟨rfl, hJx3⟩)
  · have hc3 : W3.cell? ⟨Bc, 0, none⟩ = some (.int .i64 (k : Int)) := hk3.trans hcA
    clear hcA hk3
    gi_wp2
    go_end0
    exact BehQ.all hJ3
  · gi_wp2
    go_end0
    exact BehQ.part (List.prefix_refl _) hJx3

set_option maxRecDepth 100000 in
set_option maxHeartbeats 1000000 in
theorem behind_two6 {k : Nat} {xa xb xc imm : Int} (hn : 1 ≤ n) (e1 : imm ≠ 1) (hX : At W A L k 6 xa xb xc imm) (hc : W.cell? ⟨Bc, 0, none⟩ = some (.int .i64 (k : Int))) (hp : W.cell? ⟨Bp, 0, none⟩ = some (.slice A L.length cap)) (hlen : L.length ≤ 1000000) (hBc : Bc < W.heap.size)
    (hJ : AbidesFrom W.heap.size J) (hY : RoundsOk n l Bc J Jx [(k : Int) + 1, (k : Int) + imm]) (h0 : J [] W) :
    CallsIn Fence.wide n Try.prog 27 #[.func (.yield l) #[] #[], .pointer (some ⟨Bc, 0, none⟩), .pointer (some ⟨Bp, 0, none⟩)] W (BehQ J Jx [(k : Int) + 1, (k : Int) + imm]) := by
  obtain ⟨⟨ad, rfl, c0, c1, c2, c3, c4⟩, ⟨o0, o1⟩, ⟨m0, m1⟩, hk⟩ := hX
  have hki : (k : Int) < (L.length : Int) := by omega
  have hne : ((k : Int) + imm != (k : Int) + 1) = true := by rw [bne_iff_ne]; omega
  clear e1
  have hJA : J [] (W.alloc (.cells #[.int .u8 6, .int .u8 xa, .int .u8 xb, .int .u8 xc, .int .u32 imm] 37)) := hJ [] W _ none h0 (World.grownBy_alloc W _ none) (fun r e => by cases e)
  have hcA : (W.alloc (.cells #[.int .u8 6, .int .u8 xa, .int .u8 xb, .int .u8 xc, .int .u32 imm] 37)).cell? ⟨Bc, 0, none⟩ = some (.int .i64 (k : Int)) := cell_alloc_l _ hc
  obtain ⟨fn, tmps, assign, body, hy, hR⟩ := hY [] ((k : Int) + 1) _ hJA (by simp)
  clear hJ
  refine callsIn_of_wp Try.func27 rfl trivial ?_ rfl
  simp only [Try.ntmps27, List.size_toArray, List.length_cons, List.length_nil, Nat.reduceAdd, Nat.reduceSub, Array.replicate_succ, Array.replicate_zero, List.push_toArray, List.append_toArray, List.nil_append, List.cons_append]
  gi_wp2
  refine hR.mono ?_
  rintro e W3 (⟨rfl, hJ3, hk3⟩ | ⟨rfl, hJx3⟩)
  · have hc3 : W3.cell? ⟨Bc, 0, none⟩ = some (.int .i64 (k : Int)) := hk3.trans hcA
    clear hcA hk3
    obtain ⟨fn2, tmps2, assign2, body2, hy2, hR2⟩ := hY _ ((k : Int) + imm) _ hJ3 (by simp)
    clear hY
    gi_wp2
    refine hR2.mono ?_
    rintro e W4 (⟨rfl, hJ4, hk4⟩ | ⟨rfl, hJx4⟩)
    · gi_wp2
      go_end0
      exact BehQ.all hJ4
    · gi_wp2
      go_end0
      exact BehQ.part (List.prefix_refl _) hJx4
  · gi_wp2
    go_end0
    exact BehQ.part (pre := [(k : Int) + 1]) ⟨[(k : Int) + imm], rfl⟩ hJx3

set_option maxRecDepth 100000 in
set_option maxHeartbeats 1000000 in
theorem behind_one7 {k : Nat} {xa xb xc imm : Int} (hn : 1 ≤ n) (e1 : imm = 1) (hX : At W A L k 7 xa xb xc imm) (hc : W.cell? ⟨Bc, 0, none⟩ = some (.int .i64 (k : Int))) (hp : W.cell? ⟨Bp, 0, none⟩ = some (.slice A L.length cap)) (hlen : L.length ≤ 1000000) (hBc : Bc < W.heap.size)
    (hJ : AbidesFrom W.heap.size J) (hY : RoundsOk n l Bc J Jx [(k : Int) + 1]) (h0 : J [] W) :
    CallsIn Fence.wide n Try.prog 27 #[.func (.yield l) #[] #[], .pointer (some ⟨Bc, 0, none⟩), .pointer (some ⟨Bp, 0, none⟩)] W (BehQ J Jx [(k : Int) + 1]) := by
  subst e1
  obtain ⟨⟨ad, rfl, c0, c1, c2, c3, c4⟩, ⟨o0, o1⟩, ⟨m0, m1⟩, hk⟩ := hX
  have hki : (k : Int) < (L.length : Int) := by omega
  have hJA : J [] (W.alloc (.cells #[.int .u8 7, .int .u8 xa, .int .u8 xb, .int .u8 xc, .int .u32 1] 37)) := hJ [] W _ none h0 (World.grownBy_alloc W _ none) (fun r e => by cases e)
  have hcA : (W.alloc (.cells #[.int .u8 7, .int .u8 xa, .int .u8 xb, .int .u8 xc, .int .u32 1] 37)).cell? ⟨Bc, 0, none⟩ = some (.int .i64 (k : Int)) := cell_alloc_l _ hc
  obtain ⟨fn, tmps, assign, body, hy, hR⟩ := hY [] ((k : Int) + 1) _ hJA (by simp)
  clear hJ hY
  refine callsIn_of_wp Try.func27 rfl trivial ?_ rfl
  simp only [Try.ntmps27, List.size_toArray, List.length_cons, List.length_nil, Nat.reduceAdd, Nat.reduceSub, Array.replicate_succ, Array.replicate_zero, List.push_toArray, List.append_toArray, List.nil_append, List.cons_append]
  gi_wp2
  refine hR.mono ?_
  rintro e W3 (⟨rfl, hJ3, hk3⟩ | ⟨rfl, hJx3⟩)
  · have hc3 : W3.cell? ⟨Bc, 0, none⟩ = some (.int .i64 (k : Int)) := hk3.trans hcA
    clear hcA hk3
    gi_wp2
    go_end0
    exact BehQ.all hJ3
  · gi_wp2
    go_end0
    exact BehQ.part (List.prefix_refl _) hJx3

set_option maxRecDepth 100000 in
set_option maxHeartbeats 1000000 in
theorem behind_two7 {k : Nat} {xa xb xc imm : Int} (hn : 1 ≤ n) (e1 : imm ≠ 1) (hX : At W A L k 7 xa xb xc imm) (hc : W.cell? ⟨Bc, 0, none⟩ = some (.int .i64 (k : Int))) (hp : W.cell? ⟨Bp, 0, none⟩ = some (.slice A L.length cap)) (hlen : L.length ≤ 1000000) (hBc : Bc < W.heap.size)
    (hJ : AbidesFrom W.heap.size J) (hY : RoundsOk n l Bc J Jx [(k : Int) + 1, (k : Int) + imm]) (h0 : J [] W) :
    CallsIn Fence.wide n Try.prog 27 #[.func (.yield l) #[] #[], .pointer (some ⟨Bc, 0, none⟩), .pointer (some ⟨Bp, 0, none⟩)] W (BehQ J Jx [(k : Int) + 1, (k : Int) + imm]) := by
  obtain ⟨⟨ad, rfl, c0, c1, c2, c3, c4⟩, ⟨o0, o1⟩, ⟨m0, m1⟩, hk⟩ := hX
  have hki : (k : Int) < (L.length : Int) := by omega
  have hne : ((k : Int) + imm != (k : Int) + 1) = true := by rw [bne_iff_ne]; omega
  clear e1
  have hJA : J [] (W.alloc (.cells #[.int .u8 7, .int .u8 xa, .int .u8 xb, .int .u8 xc, .int .u32 imm] 37)) := hJ [] W _ none h0 (World.grownBy_alloc W _ none) (fun r e => by cases e)
  have hcA : (W.alloc (.cells #[.int .u8 7, .int .u8 xa, .int .u8 xb, .int .u8 xc, .int .u32 imm] 37)).cell? ⟨Bc, 0, none⟩ = some (.int .i64 (k : Int)) := cell_alloc_l _ hc
  obtain ⟨fn, tmps, assign, body, hy, hR⟩ := hY [] ((k : Int) + 1) _ hJA (by simp)
  clear hJ
  refine callsIn_of_wp Try.func27 rfl trivial ?_ rfl
  simp only [Try.ntmps27, List.size_toArray, List.length_cons, List.length_nil, Nat.reduceAdd, Nat.reduceSub, Array.replicate_succ, Array.replicate_zero, List.push_toArray, List.append_toArray, List.nil_append, List.cons_append]
  gi_wp2
  refine hR.mono ?_
  rintro e W3 (⟨rfl, hJ3, hk3⟩ | ⟨rfl, hJx3⟩)
  · have hc3 : W3.cell? ⟨Bc, 0, none⟩ = some (.int .i64 (k : Int)) := hk3.trans hcA
    clear hcA hk3
    obtain ⟨fn2, tmps2, assign2, body2, hy2, hR2⟩ := hY _ ((k : Int) + imm) _ hJ3 (by simp)
    clear hY
    gi_wp2
    refine hR2.mono ?_
    rintro e W4 (⟨rfl, hJ4, hk4⟩ | ⟨rfl, hJx4⟩)
    · gi_wp2
      go_end0
      exact BehQ.all hJ4
    · gi_wp2
      go_end0
      exact BehQ.part (List.prefix_refl _) hJx4
  · gi_wp2
    go_end0
    exact BehQ.part (pre := [(k : Int) + 1]) ⟨[(k : Int) + imm], rfl⟩ hJx3

set_option maxRecDepth 100000 in
set_option maxHeartbeats 1000000 in
theorem behind_on {k : Nat} {op xa xb xc imm : Int} (hn : 1 ≤ n) (e15 : op ≠ 15) (e5 : op ≠ 5) (e6 : op ≠ 6) (e7 : op ≠ 7) (hX : At W A L k op xa xb xc imm) (hc : W.cell? ⟨Bc, 0, none⟩ = some (.int .i64 (k : Int))) (hp : W.cell? ⟨Bp, 0, none⟩ = some (.slice A L.length cap)) (hlen : L.length ≤ 1000000) (hBc : Bc < W.heap.size)
    (hJ : AbidesFrom W.heap.size J) (hY : RoundsOk n l Bc J Jx [(k : Int) + 1]) (h0 : J [] W) :
    CallsIn Fence.wide n Try.prog 27 #[.func (.yield l) #[] #[], .pointer (some ⟨Bc, 0, none⟩), .pointer (some ⟨Bp, 0, none⟩)] W (BehQ J Jx [(k : Int) + 1]) := by
  obtain ⟨⟨ad, rfl, c0, c1, c2, c3, c4⟩, ⟨o0, o1⟩, ⟨m0, m1⟩, hk⟩ := hX
  have hki : (k : Int) < (L.length : Int) := by omega
  have h15 : (op == 15) = false := beq_eq_false_iff_ne.2 e15
  have h5 : (op == 5) = false := beq_eq_false_iff_ne.2 e5
  have h6 : (op == 6) = false := beq_eq_false_iff_ne.2 e6
  have h7 : (op == 7) = false := beq_eq_false_iff_ne.2 e7
  clear e15 e5 e6 e7
  have hJA : J [] (W.alloc (.cells #[.int .u8 op, .int .u8 xa, .int .u8 xb, .int .u8 xc, .int .u32 imm] 37)) := hJ [] W _ none h0 (World.grownBy_alloc W _ none) (fun r e => by cases e)
  have hcA : (W.alloc (.cells #[.int .u8 op, .int .u8 xa, .int .u8 xb, .int .u8 xc, .int .u32 imm] 37)).cell? ⟨Bc, 0, none⟩ = some (.int .i64 (k : Int)) := cell_alloc_l _ hc
  obtain ⟨fn, tmps, assign, body, hy, hR⟩ := hY [] ((k : Int) + 1) _ hJA (by simp)
  clear hJ hY
  refine callsIn_of_wp Try.func27 rfl trivial ?_ rfl
  simp only [Try.ntmps27, List.size_toArray, List.length_cons, List.length_nil, Nat.reduceAdd, Nat.reduceSub, Array.replicate_succ, Array.replicate_zero, List.push_toArray, List.append_toArray, List.nil_append, List.cons_append]
  gi_wp2
  refine hR.mono ?_
  rintro e W3 (⟨rfl, hJ3, hk3⟩ | ⟨rfl, hJx3⟩)
  · have hc3 : W3.cell? ⟨Bc, 0, none⟩ = some (.int .i64 (k : Int)) := hk3.trans hcA
    clear hcA hk3
    gi_wp2
    go_end0
    exact BehQ.all hJ3
  · gi_wp2
    go_end0
    exact BehQ.part (List.prefix_refl _) hJx3
end

/-- The function value that behind makes tells just what stands behind. -/
theorem behind_core (n : Nat) (hn : 1 ≤ n) (Bc Bp : Nat) (A : Option Addr) (cap : Nat) (L : List Ins) (pc : Int) (w : World) (hBc : Bc < w.heap.size) (hBp : Bp < w.heap.size) (hlen : L.length ≤ 1000000)
    (hc : w.cell? ⟨Bc, 0, none⟩ = some (.int .i64 pc)) (hp : w.cell? ⟨Bp, 0, none⟩ = some (.slice A L.length cap)) (hP : Pr w A L) :
    ∀ (l : Nat) (J Jx : List Int → World → Prop) (W : World), Below w.heap.size w W → AbidesFrom W.heap.size J → RoundsOk n l Bc J Jx (beh L pc) → J [] W →
    CallsIn Fence.wide n Try.prog 27 #[.func (.yield l) #[] #[], .pointer (some ⟨Bc, 0, none⟩), .pointer (some ⟨Bp, 0, none⟩)] W (BehQ J Jx (beh L pc)) := by
  intro l J Jx W hW hJ hY' h0
  have hc' := (hW.cell (p := ⟨Bc, 0, none⟩) hBc).trans hc
  have hp' := (hW.cell (p := ⟨Bp, 0, none⟩) hBp).trans hp
  have hP' := hP.below hW
  have hBc' := Nat.lt_of_lt_of_le hBc hW.size
  by_cases hr : pc < 0 ∨ (L.length : Int) ≤ pc
  · have hb : beh L pc = [] := by unfold beh; rw [if_pos hr]
    rw [hb]
    exact behind_out hr hc' hp' h0
  · obtain ⟨k, rfl⟩ := Int.eq_ofNat_of_zero_le (show 0 ≤ pc by omega)
    have hkl : k < L.length := by omega
    obtain ⟨ad, hA, hadl, c0, c1, c2, c3, c4⟩ := hP'.at_ k hkl
    have ok := hP'.okD k
    have hbeh : beh L (k : Int) = if (L.getD k z0).op = 15 then [] else if (L.getD k z0).op = 5 then [(k : Int) + (L.getD k z0).imm] else if (L.getD k z0).op = 6 ∨ (L.getD k z0).op = 7 then (if (L.getD k z0).imm = 1 then [(k : Int) + 1] else [(k : Int) + 1, (k : Int) + (L.getD k z0).imm]) else [(k : Int) + 1] := by
      unfold beh; rw [if_neg hr]; rfl
    have hX : At W A L k (L.getD k z0).op (L.getD k z0).a (L.getD k z0).b (L.getD k z0).c (L.getD k z0).imm := ⟨⟨ad, hA, c0, c1, c2, c3, c4⟩, ok.op, ok.imm, hkl⟩
    rw [hbeh] at hY' ⊢
    by_cases e15 : (L.getD k z0).op = 15
    · rw [if_pos e15]
      rw [e15] at hX
      exact behind_exit hX hc' hp' hlen h0
    rw [if_neg e15] at hY' ⊢
    by_cases e5 : (L.getD k z0).op = 5
    · rw [if_pos e5] at hY' ⊢
      rw [e5] at hX
      exact behind_jmp hn hX hc' hp' hlen hBc' hJ hY' h0
    rw [if_neg e5] at hY' ⊢
    by_cases e6 : (L.getD k z0).op = 6
    · rw [if_pos (.inl e6)] at hY' ⊢
      rw [e6] at hX
      by_cases e1 : (L.getD k z0).imm = 1
      · rw [if_pos e1] at hY' ⊢
        exact behind_one6 hn e1 hX hc' hp' hlen hBc' hJ hY' h0
      · rw [if_neg e1] at hY' ⊢
        exact behind_two6 hn e1 hX hc' hp' hlen hBc' hJ hY' h0
    by_cases e7 : (L.getD k z0).op = 7
    · rw [if_pos (.inr e7)] at hY' ⊢
      rw [e7] at hX
      by_cases e1 : (L.getD k z0).imm = 1
      · rw [if_pos e1] at hY' ⊢
        exact behind_one7 hn e1 hX hc' hp' hlen hBc' hJ hY' h0
      · rw [if_neg e1] at hY' ⊢
        exact behind_two7 hn e1 hX hc' hp' hlen hBc' hJ hY' h0
    rw [if_neg (by rintro (h | h); exact e6 h; exact e7 h)] at hY' ⊢
    exact behind_on hn e15 e5 e6 e7 hX hc' hp' hlen hBc' hJ hY' h0

/-- What stands behind: numbers that do. -/
abbrev BehT (L : List Ins) (pc : Int) := { x : Int // x ∈ beh L pc }
/-- The function value that behind makes tells just what stands behind. -/
theorem behind_stops (n : Nat) (hn : 1 ≤ n) (Bc Bp : Nat) (A : Option Addr) (cap : Nat) (L : List Ins) (pc : Int) (w : World) (hBc : Bc < w.heap.size) (hBp : Bp < w.heap.size) (hlen : L.length ≤ 1000000)
    (hc : w.cell? ⟨Bc, 0, none⟩ = some (.int .i64 pc)) (hp : w.cell? ⟨Bp, 0, none⟩ = some (.slice A L.length cap)) (hP : Pr w A L) :
    SeqStopsK Fence.wide n Try.prog 27 #[.pointer (some ⟨Bc, 0, none⟩), .pointer (some ⟨Bp, 0, none⟩)] (fun x : BehT L pc => #[Value.int .i64 x.1]) (Kb Bc) (fun ys => ys.map (·.1) = beh L pc) (fun pre => pre.map (·.1) <+: beh L pc) (beh L pc).length w := fun l J Jx W hW hJ hJx hY h0 => by
  have hcore := behind_core n hn Bc Bp A cap L pc w hBc hBp hlen hc hp hP l (fun pre W => ∃ q : List (BehT L pc), q.map (·.1) = pre ∧ J q W) (fun pre W => ∃ q : List (BehT L pc), q.map (·.1) = pre ∧ Jx q W) W hW
    (fun s X Y row ⟨q, hq, hs⟩ hg hr => ⟨q, hq, hJ q X Y row hs hg hr⟩)
    (fun pre x W1 ⟨q, hq, hs⟩ hpre => by
      have hx : x ∈ beh L pc := hpre.subset (by simp)
      have hl : q.length < (beh L pc).length := by
        have := hpre.length_le
        rw [← hq] at this
        simp at this
        omega
      obtain ⟨fn, tmps, assign, body, hy, hR⟩ := hY q ⟨x, hx⟩ W1 hs hl
      refine ⟨fn, tmps, assign, body, hy, hR.mono ?_⟩
      rintro e W' (⟨he, hJ', hk⟩ | ⟨he, hJ'⟩)
      · exact .inl ⟨he, ⟨_, by rw [List.map_append, hq]; rfl, hJ'⟩, hk⟩
      · exact .inr ⟨he, ⟨_, by rw [List.map_append, hq]; rfl, hJ'⟩⟩)
    ⟨[], rfl, h0⟩
  refine hcore.mono ?_
  rintro e W' ⟨he, ⟨xs, hxs, q, hq, hJq⟩ | ⟨pre, hpre, q, hq, hJq⟩⟩
  · exact ⟨he, .inl ⟨q, hq.trans hxs, hJq⟩⟩
  · exact ⟨he, .inr ⟨q, by show q.map (fun x => x.1) <+: beh L pc; rw [hq]; exact hpre, hJq⟩⟩

/-- behind itself: two boxes, and the function value. -/
theorem behind_calls (n : Nat) (A : Option Addr) (len cap : Nat) (pc : Int) (w : World) :
    CallsIn Fence.wide n Try.prog 20 #[.slice A len cap, .int .i64 pc] w fun e w' =>
      e = .returned (.func (.func 27) #[] #[.pointer (some ⟨w.heap.size + 1, 0, none⟩), .pointer (some ⟨w.heap.size, 0, none⟩)]) ∧ w' = (w.alloc (.cells #[.slice A len cap] 22)).alloc (.cells #[.int .i64 pc] 3) := by
  refine callsIn_of_wp Try.func20 rfl trivial ?_ rfl
  simp only [Try.ntmps20, List.size_toArray, List.length_cons, List.length_nil, Nat.reduceAdd, Nat.reduceSub, Array.replicate_succ, Array.replicate_zero, List.push_toArray, List.append_toArray, List.nil_append, List.cons_append]
  gi_wp2
  go_ret
  exact ⟨rfl, rfl⟩
/-- A function's contract, marks and all, from its body walked without a fence. -/
theorem calls_marks {P : Program} {f : FuncId} {fn : Func} {c : Code} {args : Array Value} {w : World} {R : Ending → World → Prop} (hf : P.funcs[f]? = some fn) (hb : fn.body = some c)
    (h : c.wp P (bodyPostM Fence.wide 9 P fn R) { tmps := args ++ Array.replicate (fn.ntmps - args.size) undef, defers := [] } w) : Calls P f args w R :=
  (callsIn_wide (n := 9)).1 (callsIn_of_wp_marks hf hb trivial (wpIn_wide.2 h) rfl)
theorem behind_plain (A : Option Addr) (len cap : Nat) (pc : Int) (w : World) :
    Calls Try.prog 20 #[.slice A len cap, .int .i64 pc] w fun e w' =>
      e = .returned (.func (.func 27) #[] #[.pointer (some ⟨w.heap.size + 1, 0, none⟩), .pointer (some ⟨w.heap.size, 0, none⟩)]) ∧ w' = (w.alloc (.cells #[.slice A len cap] 22)).alloc (.cells #[.int .i64 pc] 3) :=
  (callsIn_wide (n := 9)).1 (behind_calls 9 A len cap pc w)
end Go.Proofs.Ytaomlfnffnapmaa
