/- The law InsnChecks (printed by wip/gen/inrk.py). -/
import Derived.Test.YtlomgbackphmmaaDoorInRf3
import Derived.Test.YtlomgbackphmmaaDoorInE
import Derived.Test.YtlomgbackphmmaaDoorRg
import Derived.Test.YtlomgbackphmmaaDoorInEv
set_option linter.unusedVariables false
set_option linter.unusedSimpArgs false
namespace Go.Proofs.YtlomgbackphmmaaDoor
open Go.RowKit Go.Lib

section
variable {Q : Exit → Act → World → Prop} {I : World → Prop} {l : List (Nat × Value)} {a0 : Act} {ops : Array Oper} {i d ty tr : Nat} {o : Oper}
theorem st_loadI {x : Operand} {g : Nat} {xo xa xb xc xi : Int} (ho : o.op = .load 24 x) (hd : o.dst = some d) (hx : l[i]? = some (d, .agg #[.int .u8 xo, .int .u8 xa, .int .u8 xb, .int .u8 xc, .int .u32 xi])) (hg : Yes ops l o)
    (h1 : OpV l a0 o x (.pointer (some ⟨g, 0, none⟩))) (hS : ∀ w, I w → Bx w g ⟨xo, xa, xb, xc, xi⟩) : Settled Tryd.prog ops Q I l a0 i o := by
  refine st_val hd hx hg fun a w he hI => ?_
  have e1 := he x _ h1
  have k0 := (hS w hI).k0
  have k1 := (hS w hI).k1
  have k2 := (hS w hI).k2
  have k3 := (hS w hI).k3
  have k4 := (hS w hI).k4
  clear he hI hS h1 hx hg
  unfold execOp
  rw [ho]
  simp only [e1]
  go_simp
theorem st_eqI {x y : Operand} {k : Int} (ho : o.op = .binOp .eql 3 x y tr) (hd : o.dst = some d) (hx : l[i]? = some (d, .bool true)) (hg : Yes ops l o)
    (h1 : OpV l a0 o x (.int .i64 k)) (h2 : OpV l a0 o y (.int .i64 k)) : Settled Tryd.prog ops Q I l a0 i o := by
  refine st_val hd hx hg fun a w he hI => ?_
  have e1 := he x _ h1
  have e2 := he y _ h2
  clear he hI h1 h2 hx hg
  unfold execOp
  rw [ho]
  simp only [e1, e2]
  go_simp
theorem st_eqS {x y : Operand} {k : ByteArray} (ho : o.op = .binOp .eql 9 x y tr) (hd : o.dst = some d) (hx : l[i]? = some (d, .bool true)) (hg : Yes ops l o)
    (h1 : OpV l a0 o x (.string k)) (h2 : OpV l a0 o y (.string k)) : Settled Tryd.prog ops Q I l a0 i o := by
  refine st_val hd hx hg fun a w he hI => ?_
  have e1 := he x _ h1
  have e2 := he y _ h2
  clear he hI h1 h2 hx hg
  unfold execOp
  rw [ho]
  simp only [e1, e2]
  go_simp
theorem args1 {x : Operand} {a : Value} (h1 : OpV l a0 o x a) : ∀ (k : Nat) u v, #[x][k]? = some u → #[a][k]? = some v → OpV l a0 o u v := by
  intro k u v hu hv
  match k with
  | 0 => simp at hu hv; subst hu; subst hv; exact h1
  | k + 1 => simp at hu
theorem enters_check (vs : Array Value) (w : World) : (callFunc 13 vs).run Tryd.prog w = .ok (.enter 13 vs) w := by go_simp
theorem enters_rcheck (vs : Array Value) (w : World) : (callFunc 14 vs).run Tryd.prog w = .ok (.enter 14 vs) w := by go_simp
end
set_option maxRecDepth 100000 in
set_option maxHeartbeats 4000000 in
theorem InsnChecks_calls (x : Ins) (hx : x.Ok) (w : World) (h : Ev w) :
    Calls Tryd.prog 3 #[.agg x.cells] w fun e w' => e = .returned (.bool true) ∧ Below w.heap.size w w' := by
  have H := Lib.hid h
  have HS := Lib.hid shown_calls
  have HC := Lib.hid (fun w => Check_any x hx w)
  have HR := Lib.hid (fun w => RefC.RCheck x hx w)
  have HT := Lib.hid (fun w hw => Text_any x hx w hw)
  have HU := Lib.hid (fun w => RefC.RText x hx w)
  obtain ⟨xo, xa, xb, xc, xi⟩ := x
  generalize tx ⟨xo, xa, xb, xc, xi⟩ = t1 at *
  generalize chk ⟨xo, xa, xb, xc, xi⟩ = c at *
  clear h hx
  go_enter Tryd.func3, Tryd.ntmps3
  go_wp2_with fail
  have hA : Below w.heap.size w (w.alloc (.cells #[.int .u8 xo, .int .u8 xa, .int .u8 xb, .int .u8 xc, .int .u32 xi] 24)) := (Below.refl _ w).alloc (Nat.le_refl _) _
  refine (HS.out _ (H.out.below hA)).mono ?_
  rintro e w1 ⟨rfl, hB1⟩
  have HX1 := Lib.hid ((Bx.new w ⟨xo, xa, xb, xc, xi⟩).below hB1)
  have HB1 := Lib.hid (hA.trans (hB1.mono hA.size))
  clear hA hB1
  have x0 := HX1.out.k0
  have x1 := HX1.out.k1
  have x2 := HX1.out.k2
  have x3 := HX1.out.k3
  have x4 := HX1.out.k4
  go_wp2_with fail
  refine (HT.out _ (H.out.pw.below HB1.out)).mono ?_
  rintro e w2 ⟨rfl, hB2⟩
  have HX2 := Lib.hid (HX1.out.below hB2)
  have HB2 := Lib.hid (HB1.out.trans (hB2.mono HB1.out.size))
  clear hB2 HX1 HB1 x0 x1 x2 x3 x4
  have x0 := HX2.out.k0
  have x1 := HX2.out.k1
  have x2 := HX2.out.k2
  have x3 := HX2.out.k3
  have x4 := HX2.out.k4
  go_wp2_with fail
  refine (HU.out _).mono ?_
  rintro e w3 ⟨rfl, hB3⟩
  have HX3 := Lib.hid (HX2.out.below hB3)
  have HB3 := Lib.hid (HB2.out.trans (hB3.mono HB2.out.size))
  clear hB3 HX2 HB2 x0 x1 x2 x3 x4
  have HCh : Hid (∀ w', (Bx w' w.heap.size ⟨xo, xa, xb, xc, xi⟩ ∧ Below w.heap.size w w') → Calls Tryd.prog 13 #[.agg #[.int .u8 xo, .int .u8 xa, .int .u8 xb, .int .u8 xc, .int .u32 xi]] w' fun e w'' => e = .returned (.int .i64 c) ∧ (Bx w'' w.heap.size ⟨xo, xa, xb, xc, xi⟩ ∧ Below w.heap.size w w'')) :=
    Lib.hid (fun w' h => (HC.out w').mono fun e w'' ⟨he, hB⟩ => ⟨he, h.1.below hB, h.2.trans (hB.mono h.2.size)⟩)
  have HRh : Hid (∀ w', (Bx w' w.heap.size ⟨xo, xa, xb, xc, xi⟩ ∧ Below w.heap.size w w') → Calls Tryd.prog 14 #[.agg #[.int .u8 xo, .int .u8 xa, .int .u8 xb, .int .u8 xc, .int .u32 xi]] w' fun e w'' => e = .returned (.int .i64 c) ∧ (Bx w'' w.heap.size ⟨xo, xa, xb, xc, xi⟩ ∧ Below w.heap.size w w'')) :=
    Lib.hid (fun w' h => (HR.out w').mono fun e w'' ⟨he, hB⟩ => ⟨he, h.1.below hB, h.2.trans (hB.mono h.2.size)⟩)
  go_wp2_with fail
  refine region_settled (by kernel_rfl) [(19, .bool true), (20, .bool true), (21, .agg #[.int .u8 xo, .int .u8 xa, .int .u8 xb, .int .u8 xc, .int .u32 xi]), (22, .int .i64 c), (23, .agg #[.int .u8 xo, .int .u8 xa, .int .u8 xb, .int .u8 xc, .int .u32 xi]), (24, .int .i64 c), (25, .bool true), (26, .bool true), (27, .bool true), (28, .string t1), (29, .string t1), (30, .bool true), (31, .bool true), (32, .bool true), (33, .int .i64 c), (34, .int .i64 c), (35, .bool true), (36, .bool true), (2, .bool true)] (fun w' => Bx w' w.heap.size ⟨xo, xa, xb, xc, xi⟩ ∧ Below w.heap.size w w') rfl (by simp) rfl (edges_all (by kernel_rfl)) ⟨HX3.out.below (Below.refl _ _).drew, HB3.out.drew⟩ (settled_all (And.intro (st_move rfl rfl rfl (.inl rfl) (.inr ⟨3, rfl, .inl ⟨rfl, rfl⟩⟩))
    (And.intro (st_move rfl rfl rfl (.inl rfl) (.inr ⟨19, rfl, .inr ⟨0, by kernel_rfl, rfl⟩⟩))
    (And.intro (st_loadI rfl rfl rfl (.inr ⟨1, true, _, 20, rfl, rfl, rfl, rfl, by kernel_rfl⟩) (.inr ⟨1, rfl, .inl ⟨rfl, rfl⟩⟩) (fun _ h => h.1))
    (And.intro (st_call (f := 13) (vs := #[.agg #[.int .u8 xo, .int .u8 xa, .int .u8 xb, .int .u8 xc, .int .u32 xi]]) rfl rfl rfl (.inr ⟨1, true, _, 20, rfl, rfl, rfl, rfl, by kernel_rfl⟩) rfl (args1 (.inr ⟨21, rfl, .inr ⟨2, by kernel_rfl, rfl⟩⟩)) (enters_check _) (fun w h => HCh.out w h))
    (And.intro (st_loadI rfl rfl rfl (.inr ⟨1, true, _, 20, rfl, rfl, rfl, rfl, by kernel_rfl⟩) (.inr ⟨1, rfl, .inl ⟨rfl, rfl⟩⟩) (fun _ h => h.1))
    (And.intro (st_call (f := 14) (vs := #[.agg #[.int .u8 xo, .int .u8 xa, .int .u8 xb, .int .u8 xc, .int .u32 xi]]) rfl rfl rfl (.inr ⟨1, true, _, 20, rfl, rfl, rfl, rfl, by kernel_rfl⟩) rfl (args1 (.inr ⟨23, rfl, .inr ⟨4, by kernel_rfl, rfl⟩⟩)) (enters_rcheck _) (fun w h => HRh.out w h))
    (And.intro (st_eqI rfl rfl rfl (.inr ⟨1, true, _, 20, rfl, rfl, rfl, rfl, by kernel_rfl⟩) (.inr ⟨22, rfl, .inr ⟨3, by kernel_rfl, rfl⟩⟩) (.inr ⟨24, rfl, .inr ⟨5, by kernel_rfl, rfl⟩⟩))
    (And.intro (st_pick (b := true) rfl rfl rfl (.inl rfl) (.inr ⟨20, rfl, .inr ⟨1, by kernel_rfl, rfl⟩⟩) (.inr ⟨25, rfl, .inr ⟨6, by kernel_rfl, rfl⟩⟩))
    (And.intro (st_move rfl rfl rfl (.inl rfl) (.inr ⟨26, rfl, .inr ⟨7, by kernel_rfl, rfl⟩⟩))
    (And.intro (st_move rfl rfl rfl (.inr ⟨8, true, _, 27, rfl, rfl, rfl, rfl, by kernel_rfl⟩) (.inr ⟨4, rfl, .inl ⟨rfl, rfl⟩⟩))
    (And.intro (st_move rfl rfl rfl (.inr ⟨8, true, _, 27, rfl, rfl, rfl, rfl, by kernel_rfl⟩) (.inr ⟨6, rfl, .inl ⟨rfl, rfl⟩⟩))
    (And.intro (st_eqS rfl rfl rfl (.inr ⟨8, true, _, 27, rfl, rfl, rfl, rfl, by kernel_rfl⟩) (.inr ⟨28, rfl, .inr ⟨9, by kernel_rfl, rfl⟩⟩) (.inr ⟨29, rfl, .inr ⟨10, by kernel_rfl, rfl⟩⟩))
    (And.intro (st_pick (b := true) rfl rfl rfl (.inl rfl) (.inr ⟨27, rfl, .inr ⟨8, by kernel_rfl, rfl⟩⟩) (.inr ⟨30, rfl, .inr ⟨11, by kernel_rfl, rfl⟩⟩))
    (And.intro (st_move rfl rfl rfl (.inl rfl) (.inr ⟨31, rfl, .inr ⟨12, by kernel_rfl, rfl⟩⟩))
    (And.intro (st_move rfl rfl rfl (.inr ⟨13, true, _, 32, rfl, rfl, rfl, rfl, by kernel_rfl⟩) (.inr ⟨5, rfl, .inl ⟨rfl, rfl⟩⟩))
    (And.intro (st_move rfl rfl rfl (.inr ⟨13, true, _, 32, rfl, rfl, rfl, rfl, by kernel_rfl⟩) (.inr ⟨7, rfl, .inl ⟨rfl, rfl⟩⟩))
    (And.intro (st_eqI rfl rfl rfl (.inr ⟨13, true, _, 32, rfl, rfl, rfl, rfl, by kernel_rfl⟩) (.inr ⟨33, rfl, .inr ⟨14, by kernel_rfl, rfl⟩⟩) (.inr ⟨34, rfl, .inr ⟨15, by kernel_rfl, rfl⟩⟩))
    (And.intro (st_pick (b := true) rfl rfl rfl (.inl rfl) (.inr ⟨32, rfl, .inr ⟨13, by kernel_rfl, rfl⟩⟩) (.inr ⟨35, rfl, .inr ⟨16, by kernel_rfl, rfl⟩⟩))
    (And.intro (st_assign rfl rfl rfl (.inl rfl) (.inr ⟨36, rfl, .inr ⟨17, by kernel_rfl, rfl⟩⟩))
    trivial)))))))))))))))))))) ?_
  intro w4 ⟨_, hB4⟩
  have HB4 := Lib.hid hB4
  clear hB4
  simp only [puts, List.foldl_cons, List.foldl_nil, Act.put, List.setIfInBounds_toArray, List.set_cons_zero, List.set_cons_succ]
  go_wp2
  go_ret
  exact ⟨rfl, HB4.out⟩
end Go.Proofs.YtlomgbackphmmaaDoor
