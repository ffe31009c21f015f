/- Lemmas of the claim TreePlays. -/
import Derived.Test.YthkppnkhiimaeaaTrRf0
import Derived.Test.YthkppnkhiimaeaaTrRf1
import Derived.Test.YthkppnkhiimaeaaTrRf2
import Derived.Test.YthkppnkhiimaeaaTrRf3
/- The reference of layer 11 (began as a printed text, which falls). -/
namespace Go.Proofs.Ythkppnkhiimaeaa.PTreePlays
open Go.RowKit Go.Proofs.YthkppnkhiimaeaaW.PrintWords Go.Proofs.YthkppnkhiimaeaaW.PrintLast Go.Proofs.YthkppnkhiimaeaaW.PrintMore
attribute [local go_sem] fld80_0 fld80_1 fld80_2 fld80_3 fld80_4 fld80_5 max2_int min2_int max_two min_two max_three min_three max_four min_four   -- for this text's walks alone
set_option linter.unusedVariables false
set_option linter.unusedSimpArgs false
/-! ### turnbuckleref11_Remove: function 23 -/
mutual
def turnbuckleref11_Remove.j0 : Nat → Int → Int → Int → Bool → Bool → List (S80) → Int → Int → Int → Int → Int → Bool → Bool → Option ((List (S80)) × Int × Int)
 | 0, _, _, _, _, _, _, _, _, _, _, _, _, _ => none
 | k + 1, x1, x7, x8, x9, x31, x357000, x357001, x365000, x365001, x365002, x365003, x365004, x365005 => if x31 = true then (turnbuckleref11_Remove.j1 k x1 x365001 x8 x9 x357000 x357001 x365000 x365001 x365002 x365003 x365004 x365005) else (turnbuckleref11_Remove.j1 k x1 x7 x8 x9 x357000 x357001 x365000 x365001 x365002 x365003 x365004 x365005)
def turnbuckleref11_Remove.j1 : Nat → Int → Int → Int → Bool → List (S80) → Int → Int → Int → Int → Int → Bool → Bool → Option ((List (S80)) × Int × Int)
 | 0, _, _, _, _, _, _, _, _, _, _, _, _ => none
 | k + 1, x1, x7, x8, x9, x357000, x357001, x365000, x365001, x365002, x365003, x365004, x365005 => if x365001 = 0 then (turnbuckleref11_Remove.j2 k x1 x7 x8 x9 true x357000 x357001 x365000 x365001 x365002 x365003 x365004 x365005) else (turnbuckleref11_Remove.j2 k x1 x7 x8 x9 (x365002 == 0) x357000 x357001 x365000 x365001 x365002 x365003 x365004 x365005)
def turnbuckleref11_Remove.j2 : Nat → Int → Int → Int → Bool → Bool → List (S80) → Int → Int → Int → Int → Int → Bool → Bool → Option ((List (S80)) × Int × Int)
 | 0, _, _, _, _, _, _, _, _, _, _, _, _, _ => none
 | k + 1, x1, x7, x8, x9, x41, x357000, x357001, x365000, x365001, x365002, x365003, x365004, x365005 => if x41 = true then ((turnbuckleref11_place.f x357000 x357001 x1 x7).bind fun bt365 => (turnbuckleref11_Remove.j4 k x1 x7 x8 x9 bt365.1 bt365.2 x365000 x365001 x365002 x365003 x365004 x365005)) else ((turnbuckleref11_Lowest.f k x357000 x357001 x365002).bind fun t369 => ((turnbuckleref11_Of.f x357000 x357001 t369).bind fun bt370 => ((turnbuckleref11_Of.f x357000 x357001 t369).bind fun bt376 => (if t369 = x365002 then (turnbuckleref11_Remove.j3 k x1 bt370.2.2.1 t369 bt376.2.2.2.2.2 t369 x357000 x357001 x365000 x365001 x365002 x365003 x365004 x365005) else ((turnbuckleref11_Of.f x357000 x357001 t369).bind fun bt382 => ((turnbuckleref11_place.f x357000 x357001 t369 bt370.2.2.1).bind fun bt388 => ((turnbuckleref11_Of.f bt388.1 bt388.2 x1).bind fun bt392 => ((turnbuckleref11_join.f bt388.1 bt388.2 t369 true bt392.2.2.1).bind fun bt398 => (turnbuckleref11_Remove.j3 k x1 bt370.2.2.1 bt382.2.2.2.1 bt376.2.2.2.2.2 t369 bt398.1 bt398.2 x365000 x365001 x365002 x365003 x365004 x365005)))))))))
def turnbuckleref11_Remove.j4 : Nat → Int → Int → Int → Bool → List (S80) → Int → Int → Int → Int → Int → Bool → Bool → Option ((List (S80)) × Int × Int)
 | 0, _, _, _, _, _, _, _, _, _, _, _, _ => none
 | k + 1, x1, x7, x8, x9, x357000, x357001, x365000, x365001, x365002, x365003, x365004, x365005 => (turnbuckleref11_With.f x357000 x357001 x1 x365000 0 0 0 false false).bind fun bt420 => (if x9 = true then (some (bt420.1, bt420.2, 0)) else ((turnbuckleref11_fix.f k bt420.1 bt420.2 x7 x8).bind fun bt424 => (some (bt424.1, bt424.2, 0))))
def turnbuckleref11_Remove.j3 : Nat → Int → Int → Int → Bool → Int → List (S80) → Int → Int → Int → Int → Int → Bool → Bool → Option ((List (S80)) × Int × Int)
 | 0, _, _, _, _, _, _, _, _, _, _, _, _, _ => none
 | k + 1, x1, x7, x8, x9, x10, x357000, x357001, x365000, x365001, x365002, x365003, x365004, x365005 => (turnbuckleref11_place.f x357000 x357001 x1 x10).bind fun bt402 => ((turnbuckleref11_Of.f bt402.1 bt402.2 x1).bind fun bt406 => ((turnbuckleref11_join.f bt402.1 bt402.2 x10 false bt406.2.1).bind fun bt412 => ((turnbuckleref11_paint.f bt412.1 bt412.2 x10 x365005).bind fun bt416 => (turnbuckleref11_Remove.j4 k x1 x7 x8 x9 bt416.1 bt416.2 x365000 x365001 x365002 x365003 x365004 x365005))))
end
def turnbuckleref11_Remove.f (k : Nat) (l0_0 : List (S80)) (a0_1 : Int) (a1 : Int) : Option ((List (S80)) × Int × Int) := (turnbuckleref11_Of.f l0_0 a0_1 a1).bind fun bt358 => (if bt358.2.2.2.2.1 = true then (if bt358.2.1 = 0 then (turnbuckleref11_Remove.j0 k a1 bt358.2.2.1 bt358.2.2.2.1 bt358.2.2.2.2.2 false l0_0 a0_1 bt358.1 bt358.2.1 bt358.2.2.1 bt358.2.2.2.1 bt358.2.2.2.2.1 bt358.2.2.2.2.2) else (turnbuckleref11_Remove.j0 k a1 bt358.2.2.1 bt358.2.2.2.1 bt358.2.2.2.2.2 (bt358.2.2.1 == 0) l0_0 a0_1 bt358.1 bt358.2.1 bt358.2.2.1 bt358.2.2.2.1 bt358.2.2.2.2.1 bt358.2.2.2.2.2)) else (some (l0_0, a0_1, 8)))
theorem turnbuckleref11_Remove.mono_l : ∀ k, (∀ y0 y1 y2 y3 y4 y5 y6 y7 y8 y9 y10 y11 y12, LeO (turnbuckleref11_Remove.j0 k y0 y1 y2 y3 y4 y5 y6 y7 y8 y9 y10 y11 y12) (turnbuckleref11_Remove.j0 (k + 1) y0 y1 y2 y3 y4 y5 y6 y7 y8 y9 y10 y11 y12)) ∧ (∀ y0 y1 y2 y3 y4 y5 y6 y7 y8 y9 y10 y11, LeO (turnbuckleref11_Remove.j1 k y0 y1 y2 y3 y4 y5 y6 y7 y8 y9 y10 y11) (turnbuckleref11_Remove.j1 (k + 1) y0 y1 y2 y3 y4 y5 y6 y7 y8 y9 y10 y11)) ∧ (∀ y0 y1 y2 y3 y4 y5 y6 y7 y8 y9 y10 y11 y12, LeO (turnbuckleref11_Remove.j2 k y0 y1 y2 y3 y4 y5 y6 y7 y8 y9 y10 y11 y12) (turnbuckleref11_Remove.j2 (k + 1) y0 y1 y2 y3 y4 y5 y6 y7 y8 y9 y10 y11 y12)) ∧ (∀ y0 y1 y2 y3 y4 y5 y6 y7 y8 y9 y10 y11, LeO (turnbuckleref11_Remove.j4 k y0 y1 y2 y3 y4 y5 y6 y7 y8 y9 y10 y11) (turnbuckleref11_Remove.j4 (k + 1) y0 y1 y2 y3 y4 y5 y6 y7 y8 y9 y10 y11)) ∧ (∀ y0 y1 y2 y3 y4 y5 y6 y7 y8 y9 y10 y11 y12, LeO (turnbuckleref11_Remove.j3 k y0 y1 y2 y3 y4 y5 y6 y7 y8 y9 y10 y11 y12) (turnbuckleref11_Remove.j3 (k + 1) y0 y1 y2 y3 y4 y5 y6 y7 y8 y9 y10 y11 y12))
 | 0 => ⟨fun _ _ _ _ _ _ _ _ _ _ _ _ _ r h => by simp [turnbuckleref11_Remove.j0] at h, fun _ _ _ _ _ _ _ _ _ _ _ _ r h => by simp [turnbuckleref11_Remove.j1] at h, fun _ _ _ _ _ _ _ _ _ _ _ _ _ r h => by simp [turnbuckleref11_Remove.j2] at h, fun _ _ _ _ _ _ _ _ _ _ _ _ r h => by simp [turnbuckleref11_Remove.j4] at h, fun _ _ _ _ _ _ _ _ _ _ _ _ _ r h => by simp [turnbuckleref11_Remove.j3] at h⟩
 | k + 1 => by
  obtain ⟨ih0, ih1, ih2, ih3, ih4⟩ := turnbuckleref11_Remove.mono_l k
  refine ⟨?_, ?_, ?_, ?_, ?_⟩
  ·intro y0 y1 y2 y3 y4 y5 y6 y7 y8 y9 y10 y11 y12
   unfold turnbuckleref11_Remove.j0
   repeat' first
   | (with_reducible exact ih0 _ _ _ _ _ _ _ _ _ _ _ _ _)
   | (with_reducible exact ih1 _ _ _ _ _ _ _ _ _ _ _ _)
   | (with_reducible exact ih2 _ _ _ _ _ _ _ _ _ _ _ _ _)
   | (with_reducible exact ih3 _ _ _ _ _ _ _ _ _ _ _ _)
   | (with_reducible exact ih4 _ _ _ _ _ _ _ _ _ _ _ _ _)
   | (with_reducible exact turnbuckleref11_Lowest.mono _ _ _ _)
   | (with_reducible exact turnbuckleref11_fix.mono _ _ _ _ _)
   | (with_reducible exact LeO.refl _)
   | (with_reducible exact LeO.none _)
   | (with_reducible refine LeO.ite ?_ ?_)
   | (with_reducible refine LeO.bind ?_ (fun _ => ?_))
   | exact ih0 _ _ _ _ _ _ _ _ _ _ _ _ _
   | exact ih1 _ _ _ _ _ _ _ _ _ _ _ _
   | exact ih2 _ _ _ _ _ _ _ _ _ _ _ _ _
   | exact ih3 _ _ _ _ _ _ _ _ _ _ _ _
   | exact ih4 _ _ _ _ _ _ _ _ _ _ _ _ _
   | exact turnbuckleref11_Lowest.mono _ _ _ _
   | exact turnbuckleref11_fix.mono _ _ _ _ _
   | exact LeO.none _
   | refine LeO.ite ?_ ?_
   | refine LeO.bind ?_ (fun _ => ?_)
  ·intro y0 y1 y2 y3 y4 y5 y6 y7 y8 y9 y10 y11
   unfold turnbuckleref11_Remove.j1
   repeat' first
   | (with_reducible exact ih0 _ _ _ _ _ _ _ _ _ _ _ _ _)
   | (with_reducible exact ih1 _ _ _ _ _ _ _ _ _ _ _ _)
   | (with_reducible exact ih2 _ _ _ _ _ _ _ _ _ _ _ _ _)
   | (with_reducible exact ih3 _ _ _ _ _ _ _ _ _ _ _ _)
   | (with_reducible exact ih4 _ _ _ _ _ _ _ _ _ _ _ _ _)
   | (with_reducible exact turnbuckleref11_Lowest.mono _ _ _ _)
   | (with_reducible exact turnbuckleref11_fix.mono _ _ _ _ _)
   | (with_reducible exact LeO.refl _)
   | (with_reducible exact LeO.none _)
   | (with_reducible refine LeO.ite ?_ ?_)
   | (with_reducible refine LeO.bind ?_ (fun _ => ?_))
   | exact ih0 _ _ _ _ _ _ _ _ _ _ _ _ _
   | exact ih1 _ _ _ _ _ _ _ _ _ _ _ _
   | exact ih2 _ _ _ _ _ _ _ _ _ _ _ _ _
   | exact ih3 _ _ _ _ _ _ _ _ _ _ _ _
   | exact ih4 _ _ _ _ _ _ _ _ _ _ _ _ _
   | exact turnbuckleref11_Lowest.mono _ _ _ _
   | exact turnbuckleref11_fix.mono _ _ _ _ _
   | exact LeO.none _
   | refine LeO.ite ?_ ?_
   | refine LeO.bind ?_ (fun _ => ?_)
  ·intro y0 y1 y2 y3 y4 y5 y6 y7 y8 y9 y10 y11 y12
   unfold turnbuckleref11_Remove.j2
   repeat' first
   | (with_reducible exact ih0 _ _ _ _ _ _ _ _ _ _ _ _ _)
   | (with_reducible exact ih1 _ _ _ _ _ _ _ _ _ _ _ _)
   | (with_reducible exact ih2 _ _ _ _ _ _ _ _ _ _ _ _ _)
   | (with_reducible exact ih3 _ _ _ _ _ _ _ _ _ _ _ _)
   | (with_reducible exact ih4 _ _ _ _ _ _ _ _ _ _ _ _ _)
   | (with_reducible exact turnbuckleref11_Lowest.mono _ _ _ _)
   | (with_reducible exact turnbuckleref11_fix.mono _ _ _ _ _)
   | (with_reducible exact LeO.refl _)
   | (with_reducible exact LeO.none _)
   | (with_reducible refine LeO.ite ?_ ?_)
   | (with_reducible refine LeO.bind ?_ (fun _ => ?_))
   | exact ih0 _ _ _ _ _ _ _ _ _ _ _ _ _
   | exact ih1 _ _ _ _ _ _ _ _ _ _ _ _
   | exact ih2 _ _ _ _ _ _ _ _ _ _ _ _ _
   | exact ih3 _ _ _ _ _ _ _ _ _ _ _ _
   | exact ih4 _ _ _ _ _ _ _ _ _ _ _ _ _
   | exact turnbuckleref11_Lowest.mono _ _ _ _
   | exact turnbuckleref11_fix.mono _ _ _ _ _
   | exact LeO.none _
   | refine LeO.ite ?_ ?_
   | refine LeO.bind ?_ (fun _ => ?_)
  ·intro y0 y1 y2 y3 y4 y5 y6 y7 y8 y9 y10 y11
   unfold turnbuckleref11_Remove.j4
   repeat' first
   | (with_reducible exact ih0 _ _ _ _ _ _ _ _ _ _ _ _ _)
   | (with_reducible exact ih1 _ _ _ _ _ _ _ _ _ _ _ _)
   | (with_reducible exact ih2 _ _ _ _ _ _ _ _ _ _ _ _ _)
   | (with_reducible exact ih3 _ _ _ _ _ _ _ _ _ _ _ _)
   | (with_reducible exact ih4 _ _ _ _ _ _ _ _ _ _ _ _ _)
   | (with_reducible exact turnbuckleref11_Lowest.mono _ _ _ _)
   | (with_reducible exact turnbuckleref11_fix.mono _ _ _ _ _)
   | (with_reducible exact LeO.refl _)
   | (with_reducible exact LeO.none _)
   | (with_reducible refine LeO.ite ?_ ?_)
   | (with_reducible refine LeO.bind ?_ (fun _ => ?_))
   | exact ih0 _ _ _ _ _ _ _ _ _ _ _ _ _
   | exact ih1 _ _ _ _ _ _ _ _ _ _ _ _
   | exact ih2 _ _ _ _ _ _ _ _ _ _ _ _ _
   | exact ih3 _ _ _ _ _ _ _ _ _ _ _ _
   | exact ih4 _ _ _ _ _ _ _ _ _ _ _ _ _
   | exact turnbuckleref11_Lowest.mono _ _ _ _
   | exact turnbuckleref11_fix.mono _ _ _ _ _
   | exact LeO.none _
   | refine LeO.ite ?_ ?_
   | refine LeO.bind ?_ (fun _ => ?_)
  ·intro y0 y1 y2 y3 y4 y5 y6 y7 y8 y9 y10 y11 y12
   unfold turnbuckleref11_Remove.j3
   repeat' first
   | (with_reducible exact ih0 _ _ _ _ _ _ _ _ _ _ _ _ _)
   | (with_reducible exact ih1 _ _ _ _ _ _ _ _ _ _ _ _)
   | (with_reducible exact ih2 _ _ _ _ _ _ _ _ _ _ _ _ _)
   | (with_reducible exact ih3 _ _ _ _ _ _ _ _ _ _ _ _)
   | (with_reducible exact ih4 _ _ _ _ _ _ _ _ _ _ _ _ _)
   | (with_reducible exact turnbuckleref11_Lowest.mono _ _ _ _)
   | (with_reducible exact turnbuckleref11_fix.mono _ _ _ _ _)
   | (with_reducible exact LeO.refl _)
   | (with_reducible exact LeO.none _)
   | (with_reducible refine LeO.ite ?_ ?_)
   | (with_reducible refine LeO.bind ?_ (fun _ => ?_))
   | exact ih0 _ _ _ _ _ _ _ _ _ _ _ _ _
   | exact ih1 _ _ _ _ _ _ _ _ _ _ _ _
   | exact ih2 _ _ _ _ _ _ _ _ _ _ _ _ _
   | exact ih3 _ _ _ _ _ _ _ _ _ _ _ _
   | exact ih4 _ _ _ _ _ _ _ _ _ _ _ _ _
   | exact turnbuckleref11_Lowest.mono _ _ _ _
   | exact turnbuckleref11_fix.mono _ _ _ _ _
   | exact LeO.none _
   | refine LeO.ite ?_ ?_
   | refine LeO.bind ?_ (fun _ => ?_)
theorem turnbuckleref11_Remove.mono : ∀ a0 a1 a2 k, LeO (turnbuckleref11_Remove.f k a0 a1 a2) (turnbuckleref11_Remove.f (k + 1) a0 a1 a2) := by
 intro a0 a1 a2 k
 obtain ⟨ih0, ih1, ih2, ih3, ih4⟩ := turnbuckleref11_Remove.mono_l k
 unfold turnbuckleref11_Remove.f
 repeat' first
  | (with_reducible exact ih0 _ _ _ _ _ _ _ _ _ _ _ _ _)
  | (with_reducible exact ih1 _ _ _ _ _ _ _ _ _ _ _ _)
  | (with_reducible exact ih2 _ _ _ _ _ _ _ _ _ _ _ _ _)
  | (with_reducible exact ih3 _ _ _ _ _ _ _ _ _ _ _ _)
  | (with_reducible exact ih4 _ _ _ _ _ _ _ _ _ _ _ _ _)
  | (with_reducible exact turnbuckleref11_Lowest.mono _ _ _ _)
  | (with_reducible exact turnbuckleref11_fix.mono _ _ _ _ _)
  | (with_reducible exact LeO.refl _)
  | (with_reducible exact LeO.none _)
  | (with_reducible refine LeO.ite ?_ ?_)
  | (with_reducible refine LeO.bind ?_ (fun _ => ?_))
  | exact ih0 _ _ _ _ _ _ _ _ _ _ _ _ _
  | exact ih1 _ _ _ _ _ _ _ _ _ _ _ _
  | exact ih2 _ _ _ _ _ _ _ _ _ _ _ _ _
  | exact ih3 _ _ _ _ _ _ _ _ _ _ _ _
  | exact ih4 _ _ _ _ _ _ _ _ _ _ _ _ _
  | exact turnbuckleref11_Lowest.mono _ _ _ _
  | exact turnbuckleref11_fix.mono _ _ _ _ _
  | exact LeO.none _
  | refine LeO.ite ?_ ?_
  | refine LeO.bind ?_ (fun _ => ?_)
def turnbuckleref11_Remove.T18 : Bool × List (List Nat × List Nat) := (true, [([], []), ([], []), ([], []), ([], []), ([2, 3], [2, 3]), ([4], [4]), ([0, 1, 5, 4], [0, 1, 5]), ([6, 6, 0, 1, 2, 3, 4, 5, 6], [6])])
def turnbuckleref11_Remove.B18 : List Nat := [0, 0, 0, 0, 12, 28, 63, 127]
theorem turnbuckleref11_Remove.tab18 : rtab .any (opsOf Try.f23 18) = turnbuckleref11_Remove.T18 := by kernel_rfl
theorem turnbuckleref11_Remove.bits18 : waitsOk turnbuckleref11_Remove.T18.2 turnbuckleref11_Remove.B18 = true := by kernel_rfl
def turnbuckleref11_Remove.T20 : Bool × List (List Nat × List Nat) := (true, [([], []), ([], []), ([], []), ([], []), ([2, 3], [2, 3]), ([4], [4]), ([0, 1, 5, 4], [0, 1, 5]), ([6, 6, 0, 1, 2, 3, 4, 5, 6], [6])])
def turnbuckleref11_Remove.B20 : List Nat := [0, 0, 0, 0, 12, 28, 63, 127]
theorem turnbuckleref11_Remove.tab20 : rtab .any (opsOf Try.f23 20) = turnbuckleref11_Remove.T20 := by kernel_rfl
theorem turnbuckleref11_Remove.bits20 : waitsOk turnbuckleref11_Remove.T20.2 turnbuckleref11_Remove.B20 = true := by kernel_rfl
set_option maxHeartbeats 8000000 in
set_option maxRecDepth 100000 in
theorem turnbuckleref11_Remove.calls (k : Nat) (P0_0_ : Nat → Prop) (u9000_ : Value) (l0_0 : List (S80)) (a0_1 : Int) (a1 : Int) (r1 : List (S80)) (r2 : Int) (r3 : Int) (w0 w : World) (hB : Below w0.heap.size w0 w) (ho0_0 : Kd.R k80 80 w w0.heap.size P0_0_ u9000_ l0_0) (h : turnbuckleref11_Remove.f k l0_0 a0_1 a1 = some (r1, r2, r3)) :
  Calls Try.prog 23 #[.agg #[u9000_, .int .i64 a0_1], .int .i64 a1] w fun e w' => ∃ v0_ : Value, e = .returned (.tuple #[.agg #[v0_, .int .i64 r2], .int .i64 r3]) ∧ Kd.R k80 80 w' w0.heap.size (fun k_ => (P0_0_ k_ ∨ w.heap.size ≤ k_)) v0_ r1 ∧ Below w0.heap.size w0 w' ∧ Kept w w' (fun k_ => P0_0_ k_) := by
 have hu49 := Try.underlying49
 have hu80 := Try.underlying80
 have HO0_0 := Aside0.mk (show Kd.R k80 80 w w0.heap.size (fun k_ => (P0_0_ k_ ∨ w.heap.size ≤ k_)) u9000_ l0_0 from Kd.R_mono ho0_0 (fun k_ hk => (.inl hk)))
 have HK := Aside0.mk (Kept.refl w (fun k_ => P0_0_ k_))
 have HW0 := Aside0.mk hB.size
 have HB := Aside0.mk hB
 clear hB
 have H : ((turnbuckleref11_Of.f l0_0 a0_1 a1).bind fun bt358 => (if bt358.2.2.2.2.1 = true then (if bt358.2.1 = 0 then (turnbuckleref11_Remove.j0 k a1 bt358.2.2.1 bt358.2.2.2.1 bt358.2.2.2.2.2 false l0_0 a0_1 bt358.1 bt358.2.1 bt358.2.2.1 bt358.2.2.2.1 bt358.2.2.2.2.1 bt358.2.2.2.2.2) else (turnbuckleref11_Remove.j0 k a1 bt358.2.2.1 bt358.2.2.2.1 bt358.2.2.2.2.2 (bt358.2.2.1 == 0) l0_0 a0_1 bt358.1 bt358.2.1 bt358.2.2.1 bt358.2.2.2.1 bt358.2.2.2.2.1 bt358.2.2.2.2.2)) else (some (l0_0, a0_1, 8)))) = some (r1, r2, r3) := h
 clear h
 replace H := Option.bind_eq_some_iff.mp H
 obtain ⟨⟨t358, t359, t360, t361, t362, t363⟩, A30, H⟩ := H
 replace H : (if t362 = true then (if t359 = 0 then (turnbuckleref11_Remove.j0 k a1 t360 t361 t363 false l0_0 a0_1 t358 t359 t360 t361 t362 t363) else (turnbuckleref11_Remove.j0 k a1 t360 t361 t363 (t360 == 0) l0_0 a0_1 t358 t359 t360 t361 t362 t363)) else (some (l0_0, a0_1, 8))) = some (r1, r2, r3) := H
 have A3 := Aside0.mk A30
 clear A30
 by_cases c4 : t362 = true
 ·subst c4
  have H1 : (if t359 = 0 then (turnbuckleref11_Remove.j0 k a1 t360 t361 t363 false l0_0 a0_1 t358 t359 t360 t361 true t363) else (turnbuckleref11_Remove.j0 k a1 t360 t361 t363 (t360 == 0) l0_0 a0_1 t358 t359 t360 t361 true t363)) = some (r1, r2, r3) := by rw [if_pos rfl] at H; exact H
  clear H
  have H := H1
  clear H1
  have HC5 := Aside0.mk H
  clear H
  obtain ⟨Ao6, co6, eo6⟩ := Kd.R_slice HO0_0.out
  subst eo6
  go_enter Try.func23, Try.ntmps23
  go_upto_region 7 with (first | ((with_reducible refine gate_dst (N := 2) rfl ?_); refine box_event ?hg (N := 2) ?hd (cs := #[.slice Ao6 l0_0.length co6, .int .i64 a0_1]) (t := 49) ?hr ?_; (case hd => rfl); (case hg => rfl); (case hr => first | (go_simp; done) | (go_simp; rfl)); intro gb356 hg w7 hbox hb; have BK356 := Aside0.mk (hbox); have GW356 := Aside0.mk ((by rw [hg]; exact HK.out.1 : w.heap.size ≤ gb356)); have GE356 := Aside0.mk ((by rw [hg]; exact (below_size HB.out) : w0.heap.size ≤ gb356)); replace HO0_0 := Aside0.mk (Kd.R_below HO0_0.out hb); replace HK := Aside0.mk (Kept.below (S := (fun k_ => P0_0_ k_)) HK.out hb); replace HB := Aside0.mk (below_step HB.out hb); clear hb hbox hg) | ((with_reducible refine gate_dst (N := 4) rfl ?_); refine box_event ?hg (N := 4) ?hd (cs := #[.slice none 0 0, .int .i64 0]) (t := 49) ?hr ?_; (case hd => rfl); (case hg => rfl); (case hr => first | (go_simp; done) | (go_simp; rfl)); intro gb357 hg w8 hbox hb; have BK357 := Aside0.mk (hbox); have GW357 := Aside0.mk ((by rw [hg]; exact HK.out.1 : w.heap.size ≤ gb357)); have GE357 := Aside0.mk ((by rw [hg]; exact (below_size HB.out) : w0.heap.size ≤ gb357)); have NB356_357 := Aside0.mk ((by rw [hg]; exact Nat.ne_of_lt (blk_lt BK356.out) : gb356 ≠ gb357)); have NB357_356 := Aside0.mk ((by rw [hg]; exact Nat.ne_of_gt (blk_lt BK356.out) : gb357 ≠ gb356)); replace HO0_0 := Aside0.mk (Kd.R_below HO0_0.out hb); replace BK356 := Aside0.mk (blk_below BK356.out hb); replace HK := Aside0.mk (Kept.below (S := (fun k_ => P0_0_ k_)) HK.out hb); replace HB := Aside0.mk (below_step HB.out hb); clear hb hbox hg; have hnb9 := NB356_357.out; have hnc9 := NB357_356.out; have hcz10_0 : w8.cell? ⟨gb356, 0, none⟩ = some (.slice Ao6 l0_0.length co6) := (blk_cell BK356.out 0).trans rfl; have hcz10_1 : w8.cell? ⟨gb356, 1, none⟩ = some (.int .i64 a0_1) := (blk_cell BK356.out 1).trans rfl; have hfz10_0 := blk_frozen BK356.out 0; have hfz10_1 := blk_frozen BK356.out 1) | ((with_reducible refine gate_callee (f := 51) rfl ?_); refine goesL_ (some 13) rfl rfl Try.func51 (by kernel_rfl) rfl #[.agg #[.slice Ao6 l0_0.length co6, .int .i64 a0_1], .int .i64 a1] rfl (by (try simp only [List.map_toArray, List.map_cons, List.map_nil]); try rfl) ?_; (with_reducible refine (turnbuckleref11_Of.calls _ _ l0_0 a0_1 a1 t358 t359 t360 t361 true t363 _ ?side1 ?side2 A3.out).mono ?_); (case side1 => repeat (first | exact (Kd.R_reads' HO0_0.out).2.2 | (with_reducible refine Kd.C_alloc ?_ _) | (with_reducible refine Kd.C_drewN ?_ _) | (with_reducible refine Kd.C_drew ?_))); (case side2 => exact (Kd.R_reads' HO0_0.out).2.1); rintro e w11 ⟨rfl, hb⟩; refine ⟨_, rfl, ?_⟩; replace HO0_0 := Aside0.mk (Kd.R_below HO0_0.out hb); replace BK356 := Aside0.mk (blk_below BK356.out hb); replace BK357 := Aside0.mk (blk_below BK357.out hb); replace HK := Aside0.mk (Kept.below (S := (fun k_ => P0_0_ k_)) HK.out hb); replace HB := Aside0.mk (below_step HB.out hb); (try clear hb); (try clear hb2); (try clear hk); (try clear hi)) | ((with_reducible refine gate_dst (N := 6) rfl ?_); refine box_event ?hg (N := 6) ?hd (cs := #[.int .u64 0, .int .i64 0, .int .i64 0, .int .i64 0, .bool false, .bool false]) (t := 80) ?hr ?_; (case hd => rfl); (case hg => rfl); (case hr => first | (go_simp; done) | (go_simp; rfl)); intro gb364 hg w12 hbox hb; have BK364 := Aside0.mk (hbox); have GW364 := Aside0.mk ((by rw [hg]; exact HK.out.1 : w.heap.size ≤ gb364)); have GE364 := Aside0.mk ((by rw [hg]; exact (below_size HB.out) : w0.heap.size ≤ gb364)); have NB356_364 := Aside0.mk ((by rw [hg]; exact Nat.ne_of_lt (blk_lt BK356.out) : gb356 ≠ gb364)); have NB364_356 := Aside0.mk ((by rw [hg]; exact Nat.ne_of_gt (blk_lt BK356.out) : gb364 ≠ gb356)); have NB357_364 := Aside0.mk ((by rw [hg]; exact Nat.ne_of_lt (blk_lt BK357.out) : gb357 ≠ gb364)); have NB364_357 := Aside0.mk ((by rw [hg]; exact Nat.ne_of_gt (blk_lt BK357.out) : gb364 ≠ gb357)); replace HO0_0 := Aside0.mk (Kd.R_below (Kd.R_elderB HO0_0.out gb364 (Nat.le_of_eq hg.symm)) hb); replace BK356 := Aside0.mk (blk_below BK356.out hb); replace BK357 := Aside0.mk (blk_below BK357.out hb); replace HK := Aside0.mk (Kept.below (S := (fun k_ => P0_0_ k_)) HK.out hb); replace HB := Aside0.mk (below_step HB.out hb); clear hb hbox hg; have hnb13 := NB364_356.out; have hnc13 := NB356_364.out; have hnb14 := NB364_357.out; have hnc14 := NB357_364.out; have hcz15_0 : w12.cell? ⟨gb364, 0, none⟩ = some (.int .u64 0) := (blk_cell BK364.out 0).trans rfl; have hcz15_1 : w12.cell? ⟨gb364, 1, none⟩ = some (.int .i64 0) := (blk_cell BK364.out 1).trans rfl; have hcz15_2 : w12.cell? ⟨gb364, 2, none⟩ = some (.int .i64 0) := (blk_cell BK364.out 2).trans rfl; have hcz15_3 : w12.cell? ⟨gb364, 3, none⟩ = some (.int .i64 0) := (blk_cell BK364.out 3).trans rfl; have hcz15_4 : w12.cell? ⟨gb364, 4, none⟩ = some (.bool false) := (blk_cell BK364.out 4).trans rfl; have hcz15_5 : w12.cell? ⟨gb364, 5, none⟩ = some (.bool false) := (blk_cell BK364.out 5).trans rfl; have hfz15_0 := blk_frozen BK364.out 0; have hfz15_1 := blk_frozen BK364.out 1; have hfz15_2 := blk_frozen BK364.out 2; have hfz15_3 := blk_frozen BK364.out 3; have hfz15_4 := blk_frozen BK364.out 4; have hfz15_5 := blk_frozen BK364.out 5))
  (try simp only [Act.put, List.setIfInBounds_toArray, List.set_cons_zero, List.set_cons_succ])
  go_cut [31] (fun v31 wc => ∃ (kq : Nat) (x31_4 : Bool), v31 = .bool x31_4 ∧ Aside0 (turnbuckleref11_Remove.j0 kq a1 t360 t361 t363 x31_4 l0_0 a0_1 t358 t359 t360 t361 true t363 = some (r1, r2, r3)) ∧ Aside0 (kq ≤ k) ∧ Aside0 (Kd.R k80 80 wc w0.heap.size (fun k_ => (P0_0_ k_ ∨ w.heap.size ≤ k_) ∧ k_ ≠ gb364) (.slice Ao6 l0_0.length co6) l0_0) ∧ Aside0 (wc.heap[gb356]? = some (.cells #[(.slice Ao6 l0_0.length co6), .int .i64 a0_1] 49 (0, 0))) ∧ Aside0 (wc.heap[gb357]? = some (.cells #[(.slice none 0 0), .int .i64 0] 49 (0, 0))) ∧ Aside0 (wc.heap[gb364]? = some (.cells #[.int .u64 t358, .int .i64 t359, .int .i64 t360, .int .i64 t361, .bool true, .bool t363] 80 (0, 0))) ∧ Aside0 (Kept w wc (fun k_ => P0_0_ k_)) ∧ Aside0 (Below w0.heap.size w0 wc))
  case first =>
   have H := HC5.out
   clear HC5
   by_cases c16 : t359 = 0
   ·rw [if_pos c16] at H
    have c16b0 : (t359 == 0) = true := beq_iff_eq.mpr c16
    have c16b1 : (t359 != 0) = false := bne_eq_false_iff_eq.mpr c16
    clear c16
    (first | rw [c16b0] | (simp only [i64_w, i32_w]; rw [c16b0]) | skip)
    have H' := Aside0.mk H
    clear H
    have hnb17 := NB364_356.out
    have hnc17 := NB356_364.out
    have hnb18 := NB364_357.out
    have hnc18 := NB357_364.out
    have hcz19_0 : w12.cell? ⟨gb364, 0, none⟩ = some (.int .u64 0) := (blk_cell BK364.out 0).trans rfl
    have hcz19_1 : w12.cell? ⟨gb364, 1, none⟩ = some (.int .i64 0) := (blk_cell BK364.out 1).trans rfl
    have hcz19_2 : w12.cell? ⟨gb364, 2, none⟩ = some (.int .i64 0) := (blk_cell BK364.out 2).trans rfl
    have hcz19_3 : w12.cell? ⟨gb364, 3, none⟩ = some (.int .i64 0) := (blk_cell BK364.out 3).trans rfl
    have hcz19_4 : w12.cell? ⟨gb364, 4, none⟩ = some (.bool false) := (blk_cell BK364.out 4).trans rfl
    have hcz19_5 : w12.cell? ⟨gb364, 5, none⟩ = some (.bool false) := (blk_cell BK364.out 5).trans rfl
    have hfz19_0 := blk_frozen BK364.out 0
    have hfz19_1 := blk_frozen BK364.out 1
    have hfz19_2 := blk_frozen BK364.out 2
    have hfz19_3 := blk_frozen BK364.out 3
    have hfz19_4 := blk_frozen BK364.out 4
    have hfz19_5 := blk_frozen BK364.out 5
    go_wp2
    go_meet
    case rel => exact ⟨_, (false), (by first | rfl | (simp; done) | (simp [*]; done)), H', ⟨by first | omega | exact Nat.le_refl _⟩, ⟨by exact Kd.R_mono (Kd.R_far (p := ⟨gb364, 5, none⟩) (Kd.R_far (p := ⟨gb364, 4, none⟩) (Kd.R_far (p := ⟨gb364, 3, none⟩) (Kd.R_far (p := ⟨gb364, 2, none⟩) (Kd.R_far (p := ⟨gb364, 1, none⟩) (Kd.R_far (p := ⟨gb364, 0, none⟩) (Kd.R_mono HO0_0.out (fun k_ hk => (⟨hk, hk.2⟩ : _ ∧ k_ ≠ gb364))) (fun _ hk => hk.2) (.int .u64 t358)) (fun _ hk => hk.2) (.int .i64 t359)) (fun _ hk => hk.2) (.int .i64 t360)) (fun _ hk => hk.2) (.int .i64 t361)) (fun _ hk => hk.2) (.bool true)) (fun _ hk => hk.2) (.bool t363)) (fun _ hk => ⟨hk.1.1, hk.1.2⟩)⟩, ⟨by refine blk_far ?_ NB356_364.out _; refine blk_far ?_ NB356_364.out _; refine blk_far ?_ NB356_364.out _; refine blk_far ?_ NB356_364.out _; refine blk_far ?_ NB356_364.out _; refine blk_far ?_ NB356_364.out _; exact BK356.out⟩, ⟨by refine blk_far ?_ NB357_364.out _; refine blk_far ?_ NB357_364.out _; refine blk_far ?_ NB357_364.out _; refine blk_far ?_ NB357_364.out _; refine blk_far ?_ NB357_364.out _; refine blk_far ?_ NB357_364.out _; exact BK357.out⟩, ⟨by refine blk_put (cs := #[.int .u64 t358, .int .i64 t359, .int .i64 t360, .int .i64 t361, .bool true, .bool false]) ?_ 5 _ rfl; refine blk_put (cs := #[.int .u64 t358, .int .i64 t359, .int .i64 t360, .int .i64 t361, .bool false, .bool false]) ?_ 4 _ rfl; refine blk_put (cs := #[.int .u64 t358, .int .i64 t359, .int .i64 t360, .int .i64 0, .bool false, .bool false]) ?_ 3 _ rfl; refine blk_put (cs := #[.int .u64 t358, .int .i64 t359, .int .i64 0, .int .i64 0, .bool false, .bool false]) ?_ 2 _ rfl; refine blk_put (cs := #[.int .u64 t358, .int .i64 0, .int .i64 0, .int .i64 0, .bool false, .bool false]) ?_ 1 _ rfl; refine blk_put (cs := #[.int .u64 0, .int .i64 0, .int .i64 0, .int .i64 0, .bool false, .bool false]) ?_ 0 _ rfl; exact BK364.out⟩, ⟨by repeat (first | (with_reducible first | exact HK.out | refine Kept.setCell ?_ (.inr GW356.out) _ | refine Kept.setCell ?_ (.inr GW357.out) _ | refine Kept.setCell ?_ (.inr GW364.out) _) | exact HK.out)⟩, ⟨by repeat (first | (with_reducible first | exact HB.out | refine below_set ?_ GE356.out | refine below_set ?_ GE357.out | refine below_set ?_ GE364.out) | exact HB.out)⟩⟩
   ·rw [if_neg c16] at H
    have c16b0 : (t359 == 0) = false := beq_eq_false_iff_ne.mpr c16
    have c16b1 : (t359 != 0) = true := bne_iff_ne.mpr c16
    (first | rw [c16b0] | (simp only [i64_w, i32_w]; rw [c16b0]) | skip)
    have H' := Aside0.mk H
    clear H
    have hnb20 := NB364_356.out
    have hnc20 := NB356_364.out
    have hnb21 := NB364_357.out
    have hnc21 := NB357_364.out
    have hcz22_0 : w12.cell? ⟨gb364, 0, none⟩ = some (.int .u64 0) := (blk_cell BK364.out 0).trans rfl
    have hcz22_1 : w12.cell? ⟨gb364, 1, none⟩ = some (.int .i64 0) := (blk_cell BK364.out 1).trans rfl
    have hcz22_2 : w12.cell? ⟨gb364, 2, none⟩ = some (.int .i64 0) := (blk_cell BK364.out 2).trans rfl
    have hcz22_3 : w12.cell? ⟨gb364, 3, none⟩ = some (.int .i64 0) := (blk_cell BK364.out 3).trans rfl
    have hcz22_4 : w12.cell? ⟨gb364, 4, none⟩ = some (.bool false) := (blk_cell BK364.out 4).trans rfl
    have hcz22_5 : w12.cell? ⟨gb364, 5, none⟩ = some (.bool false) := (blk_cell BK364.out 5).trans rfl
    have hfz22_0 := blk_frozen BK364.out 0
    have hfz22_1 := blk_frozen BK364.out 1
    have hfz22_2 := blk_frozen BK364.out 2
    have hfz22_3 := blk_frozen BK364.out 3
    have hfz22_4 := blk_frozen BK364.out 4
    have hfz22_5 := blk_frozen BK364.out 5
    go_wp2
    go_meet
    case rel => exact ⟨_, ((t360 == 0)), (by first | rfl | (simp; done) | (simp [*]; done)), H', ⟨by first | omega | exact Nat.le_refl _⟩, ⟨by exact Kd.R_mono (Kd.R_far (p := ⟨gb364, 5, none⟩) (Kd.R_far (p := ⟨gb364, 4, none⟩) (Kd.R_far (p := ⟨gb364, 3, none⟩) (Kd.R_far (p := ⟨gb364, 2, none⟩) (Kd.R_far (p := ⟨gb364, 1, none⟩) (Kd.R_far (p := ⟨gb364, 0, none⟩) (Kd.R_mono HO0_0.out (fun k_ hk => (⟨hk, hk.2⟩ : _ ∧ k_ ≠ gb364))) (fun _ hk => hk.2) (.int .u64 t358)) (fun _ hk => hk.2) (.int .i64 t359)) (fun _ hk => hk.2) (.int .i64 t360)) (fun _ hk => hk.2) (.int .i64 t361)) (fun _ hk => hk.2) (.bool true)) (fun _ hk => hk.2) (.bool t363)) (fun _ hk => ⟨hk.1.1, hk.1.2⟩)⟩, ⟨by refine blk_far ?_ NB356_364.out _; refine blk_far ?_ NB356_364.out _; refine blk_far ?_ NB356_364.out _; refine blk_far ?_ NB356_364.out _; refine blk_far ?_ NB356_364.out _; refine blk_far ?_ NB356_364.out _; exact BK356.out⟩, ⟨by refine blk_far ?_ NB357_364.out _; refine blk_far ?_ NB357_364.out _; refine blk_far ?_ NB357_364.out _; refine blk_far ?_ NB357_364.out _; refine blk_far ?_ NB357_364.out _; refine blk_far ?_ NB357_364.out _; exact BK357.out⟩, ⟨by refine blk_put (cs := #[.int .u64 t358, .int .i64 t359, .int .i64 t360, .int .i64 t361, .bool true, .bool false]) ?_ 5 _ rfl; refine blk_put (cs := #[.int .u64 t358, .int .i64 t359, .int .i64 t360, .int .i64 t361, .bool false, .bool false]) ?_ 4 _ rfl; refine blk_put (cs := #[.int .u64 t358, .int .i64 t359, .int .i64 t360, .int .i64 0, .bool false, .bool false]) ?_ 3 _ rfl; refine blk_put (cs := #[.int .u64 t358, .int .i64 t359, .int .i64 0, .int .i64 0, .bool false, .bool false]) ?_ 2 _ rfl; refine blk_put (cs := #[.int .u64 t358, .int .i64 0, .int .i64 0, .int .i64 0, .bool false, .bool false]) ?_ 1 _ rfl; refine blk_put (cs := #[.int .u64 0, .int .i64 0, .int .i64 0, .int .i64 0, .bool false, .bool false]) ?_ 0 _ rfl; exact BK364.out⟩, ⟨by repeat (first | (with_reducible first | exact HK.out | refine Kept.setCell ?_ (.inr GW356.out) _ | refine Kept.setCell ?_ (.inr GW357.out) _ | refine Kept.setCell ?_ (.inr GW364.out) _) | exact HK.out)⟩, ⟨by repeat (first | (with_reducible first | exact HB.out | refine below_set ?_ GE356.out | refine below_set ?_ GE357.out | refine below_set ?_ GE364.out) | exact HB.out)⟩⟩
  case rest =>
   clear HC5
   try clear c1
   try clear c2
   try clear p2
   try clear c4
   try clear c5
   try clear c9
   try clear c13
   try clear c14
   try clear c16
   try clear c16b0
   try clear c16b1
   try clear c17
   try clear c18
   try clear c20
   try clear c21
   try clear hcz10_0
   try clear hcz10_1
   try clear hcz15_0
   try clear hcz15_1
   try clear hcz15_2
   try clear hcz15_3
   try clear hcz15_4
   try clear hcz15_5
   try clear hcz19_0
   try clear hcz19_1
   try clear hcz19_2
   try clear hcz19_3
   try clear hcz19_4
   try clear hcz19_5
   try clear hcz22_0
   try clear hcz22_1
   try clear hcz22_2
   try clear hcz22_3
   try clear hcz22_4
   try clear hcz22_5
   try clear hfz10_0
   try clear hfz10_1
   try clear hfz15_0
   try clear hfz15_1
   try clear hfz15_2
   try clear hfz15_3
   try clear hfz15_4
   try clear hfz15_5
   try clear hfz19_0
   try clear hfz19_1
   try clear hfz19_2
   try clear hfz19_3
   try clear hfz19_4
   try clear hfz19_5
   try clear hfz22_0
   try clear hfz22_1
   try clear hfz22_2
   try clear hfz22_3
   try clear hfz22_4
   try clear hfz22_5
   obtain ⟨kq, x31_4, rfl, HA, HJ4, HO_357000, BK356, BK357, BK364, HK, HB⟩ := hcut
   cases kq with
   | zero => exact absurd HA.out (by simp [turnbuckleref11_Remove.j0])
   | succ kj4 =>
    have H := HA.out
    clear HA
    simp only [turnbuckleref11_Remove.j0] at H
    have HC23 := Aside0.mk H
    clear H
    go_upto_if 31 with (fail)
    go_cut [7] (fun v7 wc => ∃ (kq : Nat) (x7_22 : Int), v7 = .int .i64 x7_22 ∧ Aside0 (turnbuckleref11_Remove.j1 kq a1 x7_22 t361 t363 l0_0 a0_1 t358 t359 t360 t361 true t363 = some (r1, r2, r3)) ∧ Aside0 (kq ≤ kj4) ∧ Aside0 (Kd.R k80 80 wc w0.heap.size (fun k_ => (P0_0_ k_ ∨ w.heap.size ≤ k_) ∧ k_ ≠ gb364) (.slice Ao6 l0_0.length co6) l0_0) ∧ Aside0 (wc.heap[gb356]? = some (.cells #[(.slice Ao6 l0_0.length co6), .int .i64 a0_1] 49 (0, 0))) ∧ Aside0 (wc.heap[gb357]? = some (.cells #[(.slice none 0 0), .int .i64 0] 49 (0, 0))) ∧ Aside0 (wc.heap[gb364]? = some (.cells #[.int .u64 t358, .int .i64 t359, .int .i64 t360, .int .i64 t361, .bool true, .bool t363] 80 (0, 0))) ∧ Aside0 (Kept w wc (fun k_ => P0_0_ k_)) ∧ Aside0 (Below w0.heap.size w0 wc))
    case first =>
     have H := HC23.out
     clear HC23
     by_cases c24 : x31_4 = true
     ·subst c24
      have H1 : (turnbuckleref11_Remove.j1 kj4 a1 t359 t361 t363 l0_0 a0_1 t358 t359 t360 t361 true t363) = some (r1, r2, r3) := by rw [if_pos rfl] at H; exact H
      clear H
      have H := H1
      clear H1
      have H' := Aside0.mk H
      clear H
      have hnb25 := NB364_356.out
      have hnc25 := NB356_364.out
      have hnb26 := NB364_357.out
      have hnc26 := NB357_364.out
      have hcz27_0 : wc.cell? ⟨gb364, 0, none⟩ = some (.int .u64 t358) := (blk_cell BK364.out 0).trans rfl
      have hcz27_1 : wc.cell? ⟨gb364, 1, none⟩ = some (.int .i64 t359) := (blk_cell BK364.out 1).trans rfl
      have hcz27_2 : wc.cell? ⟨gb364, 2, none⟩ = some (.int .i64 t360) := (blk_cell BK364.out 2).trans rfl
      have hcz27_3 : wc.cell? ⟨gb364, 3, none⟩ = some (.int .i64 t361) := (blk_cell BK364.out 3).trans rfl
      have hcz27_4 : wc.cell? ⟨gb364, 4, none⟩ = some (.bool true) := (blk_cell BK364.out 4).trans rfl
      have hcz27_5 : wc.cell? ⟨gb364, 5, none⟩ = some (.bool t363) := (blk_cell BK364.out 5).trans rfl
      have hfz27_0 := blk_frozen BK364.out 0
      have hfz27_1 := blk_frozen BK364.out 1
      have hfz27_2 := blk_frozen BK364.out 2
      have hfz27_3 := blk_frozen BK364.out 3
      have hfz27_4 := blk_frozen BK364.out 4
      have hfz27_5 := blk_frozen BK364.out 5
      go_wp2
      go_meet
      case rel => exact ⟨_, (t359), (by first | rfl | (simp; done) | (simp [*]; done)), H', ⟨by have := HJ4.out; first | omega | exact Nat.le_refl _⟩, ⟨by exact HO_357000.out⟩, ⟨by exact BK356.out⟩, ⟨by exact BK357.out⟩, ⟨by exact BK364.out⟩, ⟨by repeat (first | (with_reducible first | exact HK.out | refine Kept.setCell ?_ (.inr GW356.out) _ | refine Kept.setCell ?_ (.inr GW357.out) _ | refine Kept.setCell ?_ (.inr GW364.out) _) | exact HK.out)⟩, ⟨by repeat (first | (with_reducible first | exact HB.out | refine below_set ?_ GE356.out | refine below_set ?_ GE357.out | refine below_set ?_ GE364.out) | exact HB.out)⟩⟩
     ·replace c24 := Bool.eq_false_iff.mpr c24
      subst c24
      have H1 : (turnbuckleref11_Remove.j1 kj4 a1 t360 t361 t363 l0_0 a0_1 t358 t359 t360 t361 true t363) = some (r1, r2, r3) := by rw [if_neg (show ¬ (false = true) by decide)] at H; exact H
      clear H
      have H := H1
      clear H1
      have H' := Aside0.mk H
      clear H
      go_wp2
      go_meet
      case rel => exact ⟨_, (t360), (by first | rfl | (simp; done) | (simp [*]; done)), H', ⟨by have := HJ4.out; first | omega | exact Nat.le_refl _⟩, ⟨by exact HO_357000.out⟩, ⟨by exact BK356.out⟩, ⟨by exact BK357.out⟩, ⟨by exact BK364.out⟩, ⟨by repeat (first | (with_reducible first | exact HK.out | refine Kept.setCell ?_ (.inr GW356.out) _ | refine Kept.setCell ?_ (.inr GW357.out) _ | refine Kept.setCell ?_ (.inr GW364.out) _) | exact HK.out)⟩, ⟨by repeat (first | (with_reducible first | exact HB.out | refine below_set ?_ GE356.out | refine below_set ?_ GE357.out | refine below_set ?_ GE364.out) | exact HB.out)⟩⟩
    case rest =>
     clear HC23
     try clear c1
     try clear c2
     try clear p2
     try clear c4
     try clear c5
     try clear c9
     try clear c13
     try clear c14
     try clear c16
     try clear c16b0
     try clear c16b1
     try clear c17
     try clear c18
     try clear c20
     try clear c21
     try clear c23
     try clear c24
     try clear c25
     try clear c26
     try clear hcz10_0
     try clear hcz10_1
     try clear hcz15_0
     try clear hcz15_1
     try clear hcz15_2
     try clear hcz15_3
     try clear hcz15_4
     try clear hcz15_5
     try clear hcz19_0
     try clear hcz19_1
     try clear hcz19_2
     try clear hcz19_3
     try clear hcz19_4
     try clear hcz19_5
     try clear hcz22_0
     try clear hcz22_1
     try clear hcz22_2
     try clear hcz22_3
     try clear hcz22_4
     try clear hcz22_5
     try clear hcz27_0
     try clear hcz27_1
     try clear hcz27_2
     try clear hcz27_3
     try clear hcz27_4
     try clear hcz27_5
     try clear hfz10_0
     try clear hfz10_1
     try clear hfz15_0
     try clear hfz15_1
     try clear hfz15_2
     try clear hfz15_3
     try clear hfz15_4
     try clear hfz15_5
     try clear hfz19_0
     try clear hfz19_1
     try clear hfz19_2
     try clear hfz19_3
     try clear hfz19_4
     try clear hfz19_5
     try clear hfz22_0
     try clear hfz22_1
     try clear hfz22_2
     try clear hfz22_3
     try clear hfz22_4
     try clear hfz22_5
     try clear hfz27_0
     try clear hfz27_1
     try clear hfz27_2
     try clear hfz27_3
     try clear hfz27_4
     try clear hfz27_5
     try clear p2
     obtain ⟨kq, x7_22, rfl, HA, HJ22, HO_357000, BK356, BK357, BK364, HK, HB⟩ := hcut
     cases kq with
     | zero => exact absurd HA.out (by simp [turnbuckleref11_Remove.j1])
     | succ kj22 =>
      have H := HA.out
      clear HA
      simp only [turnbuckleref11_Remove.j1] at H
      have HC28 := Aside0.mk H
      clear H
      go_upto_region 9 with (fail)
      go_cut [41] (fun v41 wc => ∃ (kq : Nat) (x41_27 : Bool), v41 = .bool x41_27 ∧ Aside0 (turnbuckleref11_Remove.j2 kq a1 x7_22 t361 t363 x41_27 l0_0 a0_1 t358 t359 t360 t361 true t363 = some (r1, r2, r3)) ∧ Aside0 (kq ≤ kj22) ∧ Aside0 (Kd.R k80 80 wc w0.heap.size (fun k_ => (P0_0_ k_ ∨ w.heap.size ≤ k_) ∧ k_ ≠ gb364) (.slice Ao6 l0_0.length co6) l0_0) ∧ Aside0 (wc.heap[gb356]? = some (.cells #[(.slice Ao6 l0_0.length co6), .int .i64 a0_1] 49 (0, 0))) ∧ Aside0 (wc.heap[gb357]? = some (.cells #[(.slice none 0 0), .int .i64 0] 49 (0, 0))) ∧ Aside0 (wc.heap[gb364]? = some (.cells #[.int .u64 t358, .int .i64 t359, .int .i64 t360, .int .i64 t361, .bool true, .bool t363] 80 (0, 0))) ∧ Aside0 (Kept w wc (fun k_ => P0_0_ k_)) ∧ Aside0 (Below w0.heap.size w0 wc))
      case first =>
       have H := HC28.out
       clear HC28
       by_cases c29 : t359 = 0
       ·rw [if_pos c29] at H
        have c29b0 : (t359 == 0) = true := beq_iff_eq.mpr c29
        have c29b1 : (t359 != 0) = false := bne_eq_false_iff_eq.mpr c29
        clear c29
        (first | rw [c29b0] | (simp only [i64_w, i32_w]; rw [c29b0]) | skip)
        have H' := Aside0.mk H
        clear H
        have hnb30 := NB364_356.out
        have hnc30 := NB356_364.out
        have hnb31 := NB364_357.out
        have hnc31 := NB357_364.out
        have hcz32_0 : wc.cell? ⟨gb364, 0, none⟩ = some (.int .u64 t358) := (blk_cell BK364.out 0).trans rfl
        have hcz32_1 : wc.cell? ⟨gb364, 1, none⟩ = some (.int .i64 t359) := (blk_cell BK364.out 1).trans rfl
        have hcz32_2 : wc.cell? ⟨gb364, 2, none⟩ = some (.int .i64 t360) := (blk_cell BK364.out 2).trans rfl
        have hcz32_3 : wc.cell? ⟨gb364, 3, none⟩ = some (.int .i64 t361) := (blk_cell BK364.out 3).trans rfl
        have hcz32_4 : wc.cell? ⟨gb364, 4, none⟩ = some (.bool true) := (blk_cell BK364.out 4).trans rfl
        have hcz32_5 : wc.cell? ⟨gb364, 5, none⟩ = some (.bool t363) := (blk_cell BK364.out 5).trans rfl
        have hfz32_0 := blk_frozen BK364.out 0
        have hfz32_1 := blk_frozen BK364.out 1
        have hfz32_2 := blk_frozen BK364.out 2
        have hfz32_3 := blk_frozen BK364.out 3
        have hfz32_4 := blk_frozen BK364.out 4
        have hfz32_5 := blk_frozen BK364.out 5
        go_wp2
        go_meet
        case rel => exact ⟨_, (true), (by first | rfl | (simp; done) | (simp [*]; done)), H', ⟨by have := HJ4.out; have := HJ22.out; first | omega | exact Nat.le_refl _⟩, ⟨by exact HO_357000.out⟩, ⟨by exact BK356.out⟩, ⟨by exact BK357.out⟩, ⟨by exact BK364.out⟩, ⟨by repeat (first | (with_reducible first | exact HK.out | refine Kept.setCell ?_ (.inr GW356.out) _ | refine Kept.setCell ?_ (.inr GW357.out) _ | refine Kept.setCell ?_ (.inr GW364.out) _) | exact HK.out)⟩, ⟨by repeat (first | (with_reducible first | exact HB.out | refine below_set ?_ GE356.out | refine below_set ?_ GE357.out | refine below_set ?_ GE364.out) | exact HB.out)⟩⟩
       ·rw [if_neg c29] at H
        have c29b0 : (t359 == 0) = false := beq_eq_false_iff_ne.mpr c29
        have c29b1 : (t359 != 0) = true := bne_iff_ne.mpr c29
        (first | rw [c29b0] | (simp only [i64_w, i32_w]; rw [c29b0]) | skip)
        have H' := Aside0.mk H
        clear H
        have hnb33 := NB364_356.out
        have hnc33 := NB356_364.out
        have hnb34 := NB364_357.out
        have hnc34 := NB357_364.out
        have hcz35_0 : wc.cell? ⟨gb364, 0, none⟩ = some (.int .u64 t358) := (blk_cell BK364.out 0).trans rfl
        have hcz35_1 : wc.cell? ⟨gb364, 1, none⟩ = some (.int .i64 t359) := (blk_cell BK364.out 1).trans rfl
        have hcz35_2 : wc.cell? ⟨gb364, 2, none⟩ = some (.int .i64 t360) := (blk_cell BK364.out 2).trans rfl
        have hcz35_3 : wc.cell? ⟨gb364, 3, none⟩ = some (.int .i64 t361) := (blk_cell BK364.out 3).trans rfl
        have hcz35_4 : wc.cell? ⟨gb364, 4, none⟩ = some (.bool true) := (blk_cell BK364.out 4).trans rfl
        have hcz35_5 : wc.cell? ⟨gb364, 5, none⟩ = some (.bool t363) := (blk_cell BK364.out 5).trans rfl
        have hfz35_0 := blk_frozen BK364.out 0
        have hfz35_1 := blk_frozen BK364.out 1
        have hfz35_2 := blk_frozen BK364.out 2
        have hfz35_3 := blk_frozen BK364.out 3
        have hfz35_4 := blk_frozen BK364.out 4
        have hfz35_5 := blk_frozen BK364.out 5
        go_wp2
        go_meet
        case rel => exact ⟨_, ((t360 == 0)), (by first | rfl | (simp; done) | (simp [*]; done)), H', ⟨by have := HJ4.out; have := HJ22.out; first | omega | exact Nat.le_refl _⟩, ⟨by exact HO_357000.out⟩, ⟨by exact BK356.out⟩, ⟨by exact BK357.out⟩, ⟨by exact BK364.out⟩, ⟨by repeat (first | (with_reducible first | exact HK.out | refine Kept.setCell ?_ (.inr GW356.out) _ | refine Kept.setCell ?_ (.inr GW357.out) _ | refine Kept.setCell ?_ (.inr GW364.out) _) | exact HK.out)⟩, ⟨by repeat (first | (with_reducible first | exact HB.out | refine below_set ?_ GE356.out | refine below_set ?_ GE357.out | refine below_set ?_ GE364.out) | exact HB.out)⟩⟩
      case rest =>
       clear HC28
       try clear c1
       try clear c2
       try clear p2
       try clear c3
       try clear c4
       try clear c5
       try clear c9
       try clear c13
       try clear c14
       try clear c16
       try clear c16b0
       try clear c16b1
       try clear c17
       try clear c18
       try clear c20
       try clear c21
       try clear c23
       try clear c24
       try clear c25
       try clear c26
       try clear c29
       try clear c29b0
       try clear c29b1
       try clear c30
       try clear c31
       try clear c33
       try clear c34
       try clear hcz10_0
       try clear hcz10_1
       try clear hcz15_0
       try clear hcz15_1
       try clear hcz15_2
       try clear hcz15_3
       try clear hcz15_4
       try clear hcz15_5
       try clear hcz19_0
       try clear hcz19_1
       try clear hcz19_2
       try clear hcz19_3
       try clear hcz19_4
       try clear hcz19_5
       try clear hcz22_0
       try clear hcz22_1
       try clear hcz22_2
       try clear hcz22_3
       try clear hcz22_4
       try clear hcz22_5
       try clear hcz27_0
       try clear hcz27_1
       try clear hcz27_2
       try clear hcz27_3
       try clear hcz27_4
       try clear hcz27_5
       try clear hcz32_0
       try clear hcz32_1
       try clear hcz32_2
       try clear hcz32_3
       try clear hcz32_4
       try clear hcz32_5
       try clear hcz35_0
       try clear hcz35_1
       try clear hcz35_2
       try clear hcz35_3
       try clear hcz35_4
       try clear hcz35_5
       try clear hfz10_0
       try clear hfz10_1
       try clear hfz15_0
       try clear hfz15_1
       try clear hfz15_2
       try clear hfz15_3
       try clear hfz15_4
       try clear hfz15_5
       try clear hfz19_0
       try clear hfz19_1
       try clear hfz19_2
       try clear hfz19_3
       try clear hfz19_4
       try clear hfz19_5
       try clear hfz22_0
       try clear hfz22_1
       try clear hfz22_2
       try clear hfz22_3
       try clear hfz22_4
       try clear hfz22_5
       try clear hfz27_0
       try clear hfz27_1
       try clear hfz27_2
       try clear hfz27_3
       try clear hfz27_4
       try clear hfz27_5
       try clear hfz32_0
       try clear hfz32_1
       try clear hfz32_2
       try clear hfz32_3
       try clear hfz32_4
       try clear hfz32_5
       try clear hfz35_0
       try clear hfz35_1
       try clear hfz35_2
       try clear hfz35_3
       try clear hfz35_4
       try clear hfz35_5
       try clear p2
       obtain ⟨kq, x41_27, rfl, HA, HJ27, HO_357000, BK356, BK357, BK364, HK, HB⟩ := hcut
       cases kq with
       | zero => exact absurd HA.out (by simp [turnbuckleref11_Remove.j2])
       | succ kj27 =>
        have H := HA.out
        clear HA
        simp only [turnbuckleref11_Remove.j2] at H
        have HC36 := Aside0.mk H
        clear H
        go_upto_if 41 with (fail)
        go_cut [7, 8, 9] (fun v7 v8 v9 wc => ∃ (kq : Nat) (x7_35 : Int) (x8_35 : Int) (x9_35 : Bool) (x357000_35 : List (S80)) (x357001_35 : Int) (u357000 : Value), v7 = .int .i64 x7_35 ∧ v8 = .int .i64 x8_35 ∧ v9 = .bool x9_35 ∧ Aside0 (turnbuckleref11_Remove.j4 kq a1 x7_35 x8_35 x9_35 x357000_35 x357001_35 t358 t359 t360 t361 true t363 = some (r1, r2, r3)) ∧ Aside0 (kq ≤ kj27) ∧ Aside0 (Kd.R k80 80 wc w0.heap.size (fun k_ => (P0_0_ k_ ∨ w.heap.size ≤ k_) ∧ k_ ≠ gb364) u357000 x357000_35) ∧ Aside0 (wc.heap[gb356]? = some (.cells #[u357000, .int .i64 x357001_35] 49 (0, 0))) ∧ Aside0 (wc.heap[gb357]? = some (.cells #[(.slice none 0 0), .int .i64 0] 49 (0, 0))) ∧ Aside0 (wc.heap[gb364]? = some (.cells #[.int .u64 t358, .int .i64 t359, .int .i64 t360, .int .i64 t361, .bool true, .bool t363] 80 (0, 0))) ∧ Aside0 (Kept w wc (fun k_ => P0_0_ k_)) ∧ Aside0 (Below w0.heap.size w0 wc))
        case first =>
         have H := HC36.out
         clear HC36
         by_cases c37 : x41_27 = true
         ·subst c37
          have H1 : ((turnbuckleref11_place.f l0_0 a0_1 a1 x7_22).bind fun bt365 => (turnbuckleref11_Remove.j4 kj27 a1 x7_22 t361 t363 bt365.1 bt365.2 t358 t359 t360 t361 true t363)) = some (r1, r2, r3) := by rw [if_pos rfl] at H; exact H
          clear H
          have H := H1
          clear H1
          replace H := Option.bind_eq_some_iff.mp H
          obtain ⟨⟨t365, t368⟩, A380, H⟩ := H
          replace H : (turnbuckleref11_Remove.j4 kj27 a1 x7_22 t361 t363 t365 t368 t358 t359 t360 t361 true t363) = some (r1, r2, r3) := H
          have A38 := Aside0.mk A380
          clear A380
          have H' := Aside0.mk H
          clear H
          have hnb39 := NB356_357.out
          have hnc39 := NB357_356.out
          have hnb40 := NB356_364.out
          have hnc40 := NB364_356.out
          have hcz41_0 : wc.cell? ⟨gb356, 0, none⟩ = some (.slice Ao6 l0_0.length co6) := (blk_cell BK356.out 0).trans rfl
          have hcz41_1 : wc.cell? ⟨gb356, 1, none⟩ = some (.int .i64 a0_1) := (blk_cell BK356.out 1).trans rfl
          have hfz41_0 := blk_frozen BK356.out 0
          have hfz41_1 := blk_frozen BK356.out 1
          go_wp2_with (first | ((with_reducible refine gate_callee (f := 52) rfl ?_); refine goesL_ (some 45) rfl rfl Try.func52 (by kernel_rfl) rfl #[.agg #[.slice Ao6 l0_0.length co6, .int .i64 a0_1], .int .i64 a1, .int .i64 x7_22] rfl (by (try simp only [List.map_toArray, List.map_cons, List.map_nil]); try rfl) ?_; (with_reducible refine (turnbuckleref11_place.calls (fun k_ => some k_ = (.slice Ao6 l0_0.length co6 : Value).ownBlock) (.slice Ao6 l0_0.length co6) l0_0 a0_1 a1 x7_22 t365 t368 w0 _ ?side1 ?side2 A38.out).mono ?_); (case side1 => repeat (first | (with_reducible first | exact HB.out | refine below_set ?_ GE356.out | refine below_set ?_ GE357.out | refine below_set ?_ GE364.out) | exact HB.out)); (case side2 => exact Kd.R_tight rfl HO_357000.out); rintro e w42 ⟨v366, rfl, ho0, hb, hkp⟩; refine ⟨_, rfl, ?_⟩; have HO367 := Aside0.mk (Kd.R_mono (ok' := fun k_ => (P0_0_ k_ ∨ w.heap.size ≤ k_) ∧ k_ ≠ gb364) ho0 (fun k_ hk_ => ⟨Or.elim hk_ (fun hs_ => (HO_357000.out.1 k_ (hs_).symm).1) (fun hn_ => (.inr (Nat.le_trans HK.out.1 hn_))), Or.elim hk_ (fun hs_ => fun e_ => (Kd.R_away HO_357000.out (fun _ hk => hk.2)) (by rw [← e_]; exact hs_)) (fun hn_ => (Kd.freshB BK364.out k_ hn_))⟩)); replace BK356 := Aside0.mk (blk_kept BK356.out hkp (fun hs_ => (fun e_ => (Kd.R_ne HO_357000.out BK356.out (by decide)) e_) hs_)); replace BK357 := Aside0.mk (blk_kept BK357.out hkp (fun hs_ => (fun e_ => (Kd.R_ne HO_357000.out BK357.out (by decide)) e_) hs_)); replace BK364 := Aside0.mk (blk_kept BK364.out hkp (fun hs_ => (fun e_ => (Kd.R_away HO_357000.out (fun _ hk => hk.2)) e_) hs_)); replace HK := Aside0.mk (Kept.then_ (S := (fun k_ => P0_0_ k_)) HK.out hkp (fun k_ hs_ => (fun e_ => (HO_357000.out.1 k_ e_.symm).1) hs_)); replace HB := Aside0.mk (hb); clear HO_357000; (try clear hb); (try clear hkp); (try clear ho0); obtain ⟨Ao43, co43, eo43⟩ := Kd.R_slice HO367.out; subst eo43; have hcz44_0 : w42.cell? ⟨gb356, 0, none⟩ = some (.slice Ao6 l0_0.length co6) := (blk_cell BK356.out 0).trans rfl; have hcz44_1 : w42.cell? ⟨gb356, 1, none⟩ = some (.int .i64 a0_1) := (blk_cell BK356.out 1).trans rfl; have hfz44_0 := blk_frozen BK356.out 0; have hfz44_1 := blk_frozen BK356.out 1))
          go_meet
          case rel => exact ⟨_, (x7_22), (t361), (t363), (t365), (t368), (.slice Ao43 t365.length co43), (by first | rfl | (simp; done) | (simp [*]; done)), (by first | rfl | (simp; done) | (simp [*]; done)), (by first | rfl | (simp; done) | (simp [*]; done)), H', ⟨by have := HJ4.out; have := HJ22.out; have := HJ27.out; first | omega | exact Nat.le_refl _⟩, ⟨by exact Kd.R_mono (Kd.R_far (p := ⟨gb356, 1, none⟩) (Kd.R_far (p := ⟨gb356, 0, none⟩) (Kd.R_types HO367.out BK356.out (by decide)) (fun _ hk => hk.2) (.slice Ao43 t365.length co43)) (fun _ hk => hk.2) (.int .i64 t368)) (fun _ hk => ⟨hk.1.1, hk.1.2⟩)⟩, ⟨by refine blk_put (cs := #[.slice Ao43 t365.length co43, .int .i64 a0_1]) ?_ 1 _ rfl; refine blk_put (cs := #[.slice Ao6 l0_0.length co6, .int .i64 a0_1]) ?_ 0 _ rfl; exact BK356.out⟩, ⟨by refine blk_far ?_ NB357_356.out _; refine blk_far ?_ NB357_356.out _; exact BK357.out⟩, ⟨by refine blk_far ?_ NB364_356.out _; refine blk_far ?_ NB364_356.out _; exact BK364.out⟩, ⟨by repeat (first | (with_reducible first | exact HK.out | refine Kept.setCell ?_ (.inr GW356.out) _ | refine Kept.setCell ?_ (.inr GW357.out) _ | refine Kept.setCell ?_ (.inr GW364.out) _) | exact HK.out)⟩, ⟨by repeat (first | (with_reducible first | exact HB.out | refine below_set ?_ GE356.out | refine below_set ?_ GE357.out | refine below_set ?_ GE364.out) | exact HB.out)⟩⟩
         ·replace c37 := Bool.eq_false_iff.mpr c37
          subst c37
          have H1 : ((turnbuckleref11_Lowest.f kj27 l0_0 a0_1 t360).bind fun t369 => ((turnbuckleref11_Of.f l0_0 a0_1 t369).bind fun bt370 => ((turnbuckleref11_Of.f l0_0 a0_1 t369).bind fun bt376 => (if t369 = t360 then (turnbuckleref11_Remove.j3 kj27 a1 bt370.2.2.1 t369 bt376.2.2.2.2.2 t369 l0_0 a0_1 t358 t359 t360 t361 true t363) else ((turnbuckleref11_Of.f l0_0 a0_1 t369).bind fun bt382 => ((turnbuckleref11_place.f l0_0 a0_1 t369 bt370.2.2.1).bind fun bt388 => ((turnbuckleref11_Of.f bt388.1 bt388.2 a1).bind fun bt392 => ((turnbuckleref11_join.f bt388.1 bt388.2 t369 true bt392.2.2.1).bind fun bt398 => (turnbuckleref11_Remove.j3 kj27 a1 bt370.2.2.1 bt382.2.2.2.1 bt376.2.2.2.2.2 t369 bt398.1 bt398.2 t358 t359 t360 t361 true t363))))))))) = some (r1, r2, r3) := by rw [if_neg (show ¬ (false = true) by decide)] at H; exact H
          clear H
          have H := H1
          clear H1
          replace H := Option.bind_eq_some_iff.mp H
          obtain ⟨t369, A450, H⟩ := H
          replace H : ((turnbuckleref11_Of.f l0_0 a0_1 t369).bind fun bt370 => ((turnbuckleref11_Of.f l0_0 a0_1 t369).bind fun bt376 => (if t369 = t360 then (turnbuckleref11_Remove.j3 kj27 a1 bt370.2.2.1 t369 bt376.2.2.2.2.2 t369 l0_0 a0_1 t358 t359 t360 t361 true t363) else ((turnbuckleref11_Of.f l0_0 a0_1 t369).bind fun bt382 => ((turnbuckleref11_place.f l0_0 a0_1 t369 bt370.2.2.1).bind fun bt388 => ((turnbuckleref11_Of.f bt388.1 bt388.2 a1).bind fun bt392 => ((turnbuckleref11_join.f bt388.1 bt388.2 t369 true bt392.2.2.1).bind fun bt398 => (turnbuckleref11_Remove.j3 kj27 a1 bt370.2.2.1 bt382.2.2.2.1 bt376.2.2.2.2.2 t369 bt398.1 bt398.2 t358 t359 t360 t361 true t363)))))))) = some (r1, r2, r3) := H
          have A45 := Aside0.mk A450
          clear A450
          replace H := Option.bind_eq_some_iff.mp H
          obtain ⟨⟨t370, t371, t372, t373, t374, t375⟩, A460, H⟩ := H
          replace H : ((turnbuckleref11_Of.f l0_0 a0_1 t369).bind fun bt376 => (if t369 = t360 then (turnbuckleref11_Remove.j3 kj27 a1 t372 t369 bt376.2.2.2.2.2 t369 l0_0 a0_1 t358 t359 t360 t361 true t363) else ((turnbuckleref11_Of.f l0_0 a0_1 t369).bind fun bt382 => ((turnbuckleref11_place.f l0_0 a0_1 t369 t372).bind fun bt388 => ((turnbuckleref11_Of.f bt388.1 bt388.2 a1).bind fun bt392 => ((turnbuckleref11_join.f bt388.1 bt388.2 t369 true bt392.2.2.1).bind fun bt398 => (turnbuckleref11_Remove.j3 kj27 a1 t372 bt382.2.2.2.1 bt376.2.2.2.2.2 t369 bt398.1 bt398.2 t358 t359 t360 t361 true t363))))))) = some (r1, r2, r3) := H
          have A46 := Aside0.mk A460
          clear A460
          replace H := Option.bind_eq_some_iff.mp H
          obtain ⟨⟨t376, t377, t378, t379, t380, t381⟩, A470, H⟩ := H
          replace H : (if t369 = t360 then (turnbuckleref11_Remove.j3 kj27 a1 t372 t369 t381 t369 l0_0 a0_1 t358 t359 t360 t361 true t363) else ((turnbuckleref11_Of.f l0_0 a0_1 t369).bind fun bt382 => ((turnbuckleref11_place.f l0_0 a0_1 t369 t372).bind fun bt388 => ((turnbuckleref11_Of.f bt388.1 bt388.2 a1).bind fun bt392 => ((turnbuckleref11_join.f bt388.1 bt388.2 t369 true bt392.2.2.1).bind fun bt398 => (turnbuckleref11_Remove.j3 kj27 a1 t372 bt382.2.2.2.1 t381 t369 bt398.1 bt398.2 t358 t359 t360 t361 true t363)))))) = some (r1, r2, r3) := H
          have A47 := Aside0.mk A470
          clear A470
          have HC48 := Aside0.mk H
          clear H
          have hnb49 := NB356_357.out
          have hnc49 := NB357_356.out
          have hnb50 := NB356_364.out
          have hnc50 := NB364_356.out
          have hcz51_0 : wc.cell? ⟨gb356, 0, none⟩ = some (.slice Ao6 l0_0.length co6) := (blk_cell BK356.out 0).trans rfl
          have hcz51_1 : wc.cell? ⟨gb356, 1, none⟩ = some (.int .i64 a0_1) := (blk_cell BK356.out 1).trans rfl
          have hfz51_0 := blk_frozen BK356.out 0
          have hfz51_1 := blk_frozen BK356.out 1
          have hnb52 := NB364_357.out
          have hnc52 := NB357_364.out
          have hcz53_0 : wc.cell? ⟨gb364, 0, none⟩ = some (.int .u64 t358) := (blk_cell BK364.out 0).trans rfl
          have hcz53_1 : wc.cell? ⟨gb364, 1, none⟩ = some (.int .i64 t359) := (blk_cell BK364.out 1).trans rfl
          have hcz53_2 : wc.cell? ⟨gb364, 2, none⟩ = some (.int .i64 t360) := (blk_cell BK364.out 2).trans rfl
          have hcz53_3 : wc.cell? ⟨gb364, 3, none⟩ = some (.int .i64 t361) := (blk_cell BK364.out 3).trans rfl
          have hcz53_4 : wc.cell? ⟨gb364, 4, none⟩ = some (.bool true) := (blk_cell BK364.out 4).trans rfl
          have hcz53_5 : wc.cell? ⟨gb364, 5, none⟩ = some (.bool t363) := (blk_cell BK364.out 5).trans rfl
          have hfz53_0 := blk_frozen BK364.out 0
          have hfz53_1 := blk_frozen BK364.out 1
          have hfz53_2 := blk_frozen BK364.out 2
          have hfz53_3 := blk_frozen BK364.out 3
          have hfz53_4 := blk_frozen BK364.out 4
          have hfz53_5 := blk_frozen BK364.out 5
          go_upto_if 62 with (first | ((with_reducible refine gate_callee (f := 26) rfl ?_); refine goesL_ (some 49) rfl rfl Try.func26 (by kernel_rfl) rfl #[.agg #[.slice Ao6 l0_0.length co6, .int .i64 a0_1], .int .i64 t360] rfl (by (try simp only [List.map_toArray, List.map_cons, List.map_nil]); try rfl) ?_; (with_reducible refine (turnbuckleref11_Lowest.calls kj27 _ _ l0_0 a0_1 t360 t369 _ ?side1 ?side2 A45.out).mono ?_); (case side1 => repeat (first | exact (Kd.R_reads' HO_357000.out).2.2 | (with_reducible refine Kd.C_alloc ?_ _) | (with_reducible refine Kd.C_drewN ?_ _) | (with_reducible refine Kd.C_drew ?_))); (case side2 => exact (Kd.R_reads' HO_357000.out).2.1); rintro e w54 ⟨rfl, hb⟩; refine ⟨_, rfl, ?_⟩; replace HO_357000 := Aside0.mk (Kd.R_below HO_357000.out hb); replace BK356 := Aside0.mk (blk_below BK356.out hb); replace BK357 := Aside0.mk (blk_below BK357.out hb); replace BK364 := Aside0.mk (blk_below BK364.out hb); replace HK := Aside0.mk (Kept.below (S := (fun k_ => P0_0_ k_)) HK.out hb); replace HB := Aside0.mk (below_step HB.out hb); (try clear hb); (try clear hb2); (try clear hk); (try clear hi); have hcz55_0 : w54.cell? ⟨gb356, 0, none⟩ = some (.slice Ao6 l0_0.length co6) := (blk_cell BK356.out 0).trans rfl; have hcz55_1 : w54.cell? ⟨gb356, 1, none⟩ = some (.int .i64 a0_1) := (blk_cell BK356.out 1).trans rfl; have hfz55_0 := blk_frozen BK356.out 0; have hfz55_1 := blk_frozen BK356.out 1) | ((with_reducible refine gate_callee (f := 51) rfl ?_); refine goesL_ (some 52) rfl rfl Try.func51 (by kernel_rfl) rfl #[.agg #[.slice Ao6 l0_0.length co6, .int .i64 a0_1], .int .i64 t369] rfl (by (try simp only [List.map_toArray, List.map_cons, List.map_nil]); try rfl) ?_; (with_reducible refine (turnbuckleref11_Of.calls _ _ l0_0 a0_1 t369 t370 t371 t372 t373 t374 t375 _ ?side1 ?side2 A46.out).mono ?_); (case side1 => repeat (first | exact (Kd.R_reads' HO_357000.out).2.2 | (with_reducible refine Kd.C_alloc ?_ _) | (with_reducible refine Kd.C_drewN ?_ _) | (with_reducible refine Kd.C_drew ?_))); (case side2 => exact (Kd.R_reads' HO_357000.out).2.1); rintro e w56 ⟨rfl, hb⟩; refine ⟨_, rfl, ?_⟩; replace HO_357000 := Aside0.mk (Kd.R_below HO_357000.out hb); replace BK356 := Aside0.mk (blk_below BK356.out hb); replace BK357 := Aside0.mk (blk_below BK357.out hb); replace BK364 := Aside0.mk (blk_below BK364.out hb); replace HK := Aside0.mk (Kept.below (S := (fun k_ => P0_0_ k_)) HK.out hb); replace HB := Aside0.mk (below_step HB.out hb); (try clear hb); (try clear hb2); (try clear hk); (try clear hi); have hcz57_0 : w56.cell? ⟨gb356, 0, none⟩ = some (.slice Ao6 l0_0.length co6) := (blk_cell BK356.out 0).trans rfl; have hcz57_1 : w56.cell? ⟨gb356, 1, none⟩ = some (.int .i64 a0_1) := (blk_cell BK356.out 1).trans rfl; have hfz57_0 := blk_frozen BK356.out 0; have hfz57_1 := blk_frozen BK356.out 1) | ((with_reducible refine gate_callee (f := 51) rfl ?_); refine goesL_ (some 57) rfl rfl Try.func51 (by kernel_rfl) rfl #[.agg #[.slice Ao6 l0_0.length co6, .int .i64 a0_1], .int .i64 t369] rfl (by (try simp only [List.map_toArray, List.map_cons, List.map_nil]); try rfl) ?_; (with_reducible refine (turnbuckleref11_Of.calls _ _ l0_0 a0_1 t369 t376 t377 t378 t379 t380 t381 _ ?side1 ?side2 A47.out).mono ?_); (case side1 => repeat (first | exact (Kd.R_reads' HO_357000.out).2.2 | (with_reducible refine Kd.C_alloc ?_ _) | (with_reducible refine Kd.C_drewN ?_ _) | (with_reducible refine Kd.C_drew ?_))); (case side2 => exact (Kd.R_reads' HO_357000.out).2.1); rintro e w58 ⟨rfl, hb⟩; refine ⟨_, rfl, ?_⟩; replace HO_357000 := Aside0.mk (Kd.R_below HO_357000.out hb); replace BK356 := Aside0.mk (blk_below BK356.out hb); replace BK357 := Aside0.mk (blk_below BK357.out hb); replace BK364 := Aside0.mk (blk_below BK364.out hb); replace HK := Aside0.mk (Kept.below (S := (fun k_ => P0_0_ k_)) HK.out hb); replace HB := Aside0.mk (below_step HB.out hb); (try clear hb); (try clear hb2); (try clear hk); (try clear hi); have hcz59_0 : w58.cell? ⟨gb364, 0, none⟩ = some (.int .u64 t358) := (blk_cell BK364.out 0).trans rfl; have hcz59_1 : w58.cell? ⟨gb364, 1, none⟩ = some (.int .i64 t359) := (blk_cell BK364.out 1).trans rfl; have hcz59_2 : w58.cell? ⟨gb364, 2, none⟩ = some (.int .i64 t360) := (blk_cell BK364.out 2).trans rfl; have hcz59_3 : w58.cell? ⟨gb364, 3, none⟩ = some (.int .i64 t361) := (blk_cell BK364.out 3).trans rfl; have hcz59_4 : w58.cell? ⟨gb364, 4, none⟩ = some (.bool true) := (blk_cell BK364.out 4).trans rfl; have hcz59_5 : w58.cell? ⟨gb364, 5, none⟩ = some (.bool t363) := (blk_cell BK364.out 5).trans rfl; have hfz59_0 := blk_frozen BK364.out 0; have hfz59_1 := blk_frozen BK364.out 1; have hfz59_2 := blk_frozen BK364.out 2; have hfz59_3 := blk_frozen BK364.out 3; have hfz59_4 := blk_frozen BK364.out 4; have hfz59_5 := blk_frozen BK364.out 5))
          (try simp only [Act.put, List.setIfInBounds_toArray, List.set_cons_zero, List.set_cons_succ])
          go_cut [8] (fun v8 wc => ∃ (kq : Nat) (x8_47 : Int) (x357000_47 : List (S80)) (x357001_47 : Int) (u357000 : Value), v8 = .int .i64 x8_47 ∧ Aside0 (turnbuckleref11_Remove.j3 kq a1 t372 x8_47 t381 t369 x357000_47 x357001_47 t358 t359 t360 t361 true t363 = some (r1, r2, r3)) ∧ Aside0 (kq ≤ kj27) ∧ Aside0 (Kd.R k80 80 wc w0.heap.size (fun k_ => (P0_0_ k_ ∨ w.heap.size ≤ k_) ∧ k_ ≠ gb364) u357000 x357000_47) ∧ Aside0 (wc.heap[gb356]? = some (.cells #[u357000, .int .i64 x357001_47] 49 (0, 0))) ∧ Aside0 (wc.heap[gb357]? = some (.cells #[(.slice none 0 0), .int .i64 0] 49 (0, 0))) ∧ Aside0 (wc.heap[gb364]? = some (.cells #[.int .u64 t358, .int .i64 t359, .int .i64 t360, .int .i64 t361, .bool true, .bool t363] 80 (0, 0))) ∧ Aside0 (Kept w wc (fun k_ => P0_0_ k_)) ∧ Aside0 (Below w0.heap.size w0 wc))
          case first =>
           have H := HC48.out
           clear HC48
           by_cases c60 : t369 = t360
           ·rw [if_pos c60] at H
            have c60b0 : (t369 == t360) = true := beq_iff_eq.mpr c60
            have c60b1 : (t369 != t360) = false := bne_eq_false_iff_eq.mpr c60
            clear c60
            (first | rw [c60b0] | (simp only [i64_w, i32_w]; rw [c60b0]) | skip)
            have H' := Aside0.mk H
            clear H
            go_wp2
            go_meet
            case rel => exact ⟨_, (t369), (l0_0), (a0_1), (.slice Ao6 l0_0.length co6), (by first | rfl | (simp; done) | (simp [*]; done)), H', ⟨by have := HJ4.out; have := HJ22.out; have := HJ27.out; first | omega | exact Nat.le_refl _⟩, ⟨by exact HO_357000.out⟩, ⟨by exact BK356.out⟩, ⟨by exact BK357.out⟩, ⟨by exact BK364.out⟩, ⟨by repeat (first | (with_reducible first | exact HK.out | refine Kept.setCell ?_ (.inr GW356.out) _ | refine Kept.setCell ?_ (.inr GW357.out) _ | refine Kept.setCell ?_ (.inr GW364.out) _) | exact HK.out)⟩, ⟨by repeat (first | (with_reducible first | exact HB.out | refine below_set ?_ GE356.out | refine below_set ?_ GE357.out | refine below_set ?_ GE364.out) | exact HB.out)⟩⟩
           ·rw [if_neg c60] at H
            have c60b0 : (t369 == t360) = false := beq_eq_false_iff_ne.mpr c60
            have c60b1 : (t369 != t360) = true := bne_iff_ne.mpr c60
            (first | rw [c60b0] | (simp only [i64_w, i32_w]; rw [c60b0]) | skip)
            replace H := Option.bind_eq_some_iff.mp H
            obtain ⟨⟨t382, t383, t384, t385, t386, t387⟩, A610, H⟩ := H
            replace H : ((turnbuckleref11_place.f l0_0 a0_1 t369 t372).bind fun bt388 => ((turnbuckleref11_Of.f bt388.1 bt388.2 a1).bind fun bt392 => ((turnbuckleref11_join.f bt388.1 bt388.2 t369 true bt392.2.2.1).bind fun bt398 => (turnbuckleref11_Remove.j3 kj27 a1 t372 t385 t381 t369 bt398.1 bt398.2 t358 t359 t360 t361 true t363)))) = some (r1, r2, r3) := H
            have A61 := Aside0.mk A610
            clear A610
            replace H := Option.bind_eq_some_iff.mp H
            obtain ⟨⟨t388, t391⟩, A620, H⟩ := H
            replace H : ((turnbuckleref11_Of.f t388 t391 a1).bind fun bt392 => ((turnbuckleref11_join.f t388 t391 t369 true bt392.2.2.1).bind fun bt398 => (turnbuckleref11_Remove.j3 kj27 a1 t372 t385 t381 t369 bt398.1 bt398.2 t358 t359 t360 t361 true t363))) = some (r1, r2, r3) := H
            have A62 := Aside0.mk A620
            clear A620
            replace H := Option.bind_eq_some_iff.mp H
            obtain ⟨⟨t392, t393, t394, t395, t396, t397⟩, A630, H⟩ := H
            replace H : ((turnbuckleref11_join.f t388 t391 t369 true t394).bind fun bt398 => (turnbuckleref11_Remove.j3 kj27 a1 t372 t385 t381 t369 bt398.1 bt398.2 t358 t359 t360 t361 true t363)) = some (r1, r2, r3) := H
            have A63 := Aside0.mk A630
            clear A630
            replace H := Option.bind_eq_some_iff.mp H
            obtain ⟨⟨t398, t401⟩, A640, H⟩ := H
            replace H : (turnbuckleref11_Remove.j3 kj27 a1 t372 t385 t381 t369 t398 t401 t358 t359 t360 t361 true t363) = some (r1, r2, r3) := H
            have A64 := Aside0.mk A640
            clear A640
            have H' := Aside0.mk H
            clear H
            have hnb65 := NB356_357.out
            have hnc65 := NB357_356.out
            have hnb66 := NB356_364.out
            have hnc66 := NB364_356.out
            have hcz67_0 : w58.cell? ⟨gb356, 0, none⟩ = some (.slice Ao6 l0_0.length co6) := (blk_cell BK356.out 0).trans rfl
            have hcz67_1 : w58.cell? ⟨gb356, 1, none⟩ = some (.int .i64 a0_1) := (blk_cell BK356.out 1).trans rfl
            have hfz67_0 := blk_frozen BK356.out 0
            have hfz67_1 := blk_frozen BK356.out 1
            try go_wp2_with (first | ((with_reducible refine gate_callee (f := 51) rfl ?_); refine goesL_ (some 65) rfl rfl Try.func51 (by kernel_rfl) rfl #[.agg #[.slice Ao6 l0_0.length co6, .int .i64 a0_1], .int .i64 t369] rfl (by (try simp only [List.map_toArray, List.map_cons, List.map_nil]); try rfl) ?_; (with_reducible refine (turnbuckleref11_Of.calls _ _ l0_0 a0_1 t369 t382 t383 t384 t385 t386 t387 _ ?side1 ?side2 A61.out).mono ?_); (case side1 => repeat (first | exact (Kd.R_reads' HO_357000.out).2.2 | (with_reducible refine Kd.C_alloc ?_ _) | (with_reducible refine Kd.C_drewN ?_ _) | (with_reducible refine Kd.C_drew ?_))); (case side2 => exact (Kd.R_reads' HO_357000.out).2.1); rintro e w68 ⟨rfl, hb⟩; refine ⟨_, rfl, ?_⟩; replace HO_357000 := Aside0.mk (Kd.R_below HO_357000.out hb); replace BK356 := Aside0.mk (blk_below BK356.out hb); replace BK357 := Aside0.mk (blk_below BK357.out hb); replace BK364 := Aside0.mk (blk_below BK364.out hb); replace HK := Aside0.mk (Kept.below (S := (fun k_ => P0_0_ k_)) HK.out hb); replace HB := Aside0.mk (below_step HB.out hb); (try clear hb); (try clear hb2); (try clear hk); (try clear hi); have hcz69_0 : w68.cell? ⟨gb356, 0, none⟩ = some (.slice Ao6 l0_0.length co6) := (blk_cell BK356.out 0).trans rfl; have hcz69_1 : w68.cell? ⟨gb356, 1, none⟩ = some (.int .i64 a0_1) := (blk_cell BK356.out 1).trans rfl; have hfz69_0 := blk_frozen BK356.out 0; have hfz69_1 := blk_frozen BK356.out 1) | ((with_reducible refine gate_callee (f := 52) rfl ?_); refine goesL_ (some 70) rfl rfl Try.func52 (by kernel_rfl) rfl #[.agg #[.slice Ao6 l0_0.length co6, .int .i64 a0_1], .int .i64 t369, .int .i64 t372] rfl (by (try simp only [List.map_toArray, List.map_cons, List.map_nil]); try rfl) ?_; (with_reducible refine (turnbuckleref11_place.calls (fun k_ => some k_ = (.slice Ao6 l0_0.length co6 : Value).ownBlock) (.slice Ao6 l0_0.length co6) l0_0 a0_1 t369 t372 t388 t391 w0 _ ?side1 ?side2 A62.out).mono ?_); (case side1 => repeat (first | (with_reducible first | exact HB.out | refine below_set ?_ GE356.out | refine below_set ?_ GE357.out | refine below_set ?_ GE364.out) | exact HB.out)); (case side2 => exact Kd.R_tight rfl HO_357000.out); rintro e w70 ⟨v389, rfl, ho0, hb, hkp⟩; refine ⟨_, rfl, ?_⟩; have HO390 := Aside0.mk (Kd.R_mono (ok' := fun k_ => (P0_0_ k_ ∨ w.heap.size ≤ k_) ∧ k_ ≠ gb364) ho0 (fun k_ hk_ => ⟨Or.elim hk_ (fun hs_ => (HO_357000.out.1 k_ (hs_).symm).1) (fun hn_ => (.inr (Nat.le_trans HK.out.1 hn_))), Or.elim hk_ (fun hs_ => fun e_ => (Kd.R_away HO_357000.out (fun _ hk => hk.2)) (by rw [← e_]; exact hs_)) (fun hn_ => (Kd.freshB BK364.out k_ hn_))⟩)); replace BK356 := Aside0.mk (blk_kept BK356.out hkp (fun hs_ => (fun e_ => (Kd.R_ne HO_357000.out BK356.out (by decide)) e_) hs_)); replace BK357 := Aside0.mk (blk_kept BK357.out hkp (fun hs_ => (fun e_ => (Kd.R_ne HO_357000.out BK357.out (by decide)) e_) hs_)); replace BK364 := Aside0.mk (blk_kept BK364.out hkp (fun hs_ => (fun e_ => (Kd.R_away HO_357000.out (fun _ hk => hk.2)) e_) hs_)); replace HK := Aside0.mk (Kept.then_ (S := (fun k_ => P0_0_ k_)) HK.out hkp (fun k_ hs_ => (fun e_ => (HO_357000.out.1 k_ e_.symm).1) hs_)); replace HB := Aside0.mk (hb); clear HO_357000; (try clear hb); (try clear hkp); (try clear ho0); obtain ⟨Ao71, co71, eo71⟩ := Kd.R_slice HO390.out; subst eo71; have hcz72_0 : w70.cell? ⟨gb356, 0, none⟩ = some (.slice Ao6 l0_0.length co6) := (blk_cell BK356.out 0).trans rfl; have hcz72_1 : w70.cell? ⟨gb356, 1, none⟩ = some (.int .i64 a0_1) := (blk_cell BK356.out 1).trans rfl; have hfz72_0 := blk_frozen BK356.out 0; have hfz72_1 := blk_frozen BK356.out 1))
            have n0_ : Aside0 (Kd.R k80 80 ((w70.setCell ⟨gb356, 0, none⟩ (.slice Ao71 t388.length co71)).setCell ⟨gb356, 1, none⟩ (.int .i64 t391)) w0.heap.size (fun k_ => (P0_0_ k_ ∨ w.heap.size ≤ k_) ∧ k_ ≠ gb364) (.slice Ao71 t388.length co71) t388) := ⟨by exact Kd.R_mono (Kd.R_far (p := ⟨gb356, 1, none⟩) (Kd.R_far (p := ⟨gb356, 0, none⟩) (Kd.R_types HO390.out BK356.out (by decide)) (fun _ hk => hk.2) (.slice Ao71 t388.length co71)) (fun _ hk => hk.2) (.int .i64 t391)) (fun _ hk => ⟨hk.1.1, hk.1.2⟩)⟩
            have n1_ : Aside0 (((w70.setCell ⟨gb356, 0, none⟩ (.slice Ao71 t388.length co71)).setCell ⟨gb356, 1, none⟩ (.int .i64 t391)).heap[gb356]? = some (.cells #[.slice Ao71 t388.length co71, .int .i64 t391] 49 (0, 0))) := ⟨by refine blk_put (cs := #[.slice Ao71 t388.length co71, .int .i64 a0_1]) ?_ 1 _ rfl; refine blk_put (cs := #[.slice Ao6 l0_0.length co6, .int .i64 a0_1]) ?_ 0 _ rfl; exact BK356.out⟩
            have n2_ : Aside0 (((w70.setCell ⟨gb356, 0, none⟩ (.slice Ao71 t388.length co71)).setCell ⟨gb356, 1, none⟩ (.int .i64 t391)).heap[gb357]? = some (.cells #[.slice none 0 0, .int .i64 0] 49 (0, 0))) := ⟨by refine blk_far ?_ NB357_356.out _; refine blk_far ?_ NB357_356.out _; exact BK357.out⟩
            have n3_ : Aside0 (((w70.setCell ⟨gb356, 0, none⟩ (.slice Ao71 t388.length co71)).setCell ⟨gb356, 1, none⟩ (.int .i64 t391)).heap[gb364]? = some (.cells #[.int .u64 t358, .int .i64 t359, .int .i64 t360, .int .i64 t361, .bool true, .bool t363] 80 (0, 0))) := ⟨by refine blk_far ?_ NB364_356.out _; refine blk_far ?_ NB364_356.out _; exact BK364.out⟩
            have n4_ : Aside0 (Kept w ((w70.setCell ⟨gb356, 0, none⟩ (.slice Ao71 t388.length co71)).setCell ⟨gb356, 1, none⟩ (.int .i64 t391)) (fun k_ => P0_0_ k_)) := ⟨by repeat (first | (with_reducible first | exact HK.out | refine Kept.setCell ?_ (.inr GW356.out) _ | refine Kept.setCell ?_ (.inr GW357.out) _ | refine Kept.setCell ?_ (.inr GW364.out) _) | exact HK.out)⟩
            have n5_ : Aside0 (Below w0.heap.size w0 ((w70.setCell ⟨gb356, 0, none⟩ (.slice Ao71 t388.length co71)).setCell ⟨gb356, 1, none⟩ (.int .i64 t391))) := ⟨by repeat (first | (with_reducible first | exact HB.out | refine below_set ?_ GE356.out | refine below_set ?_ GE357.out | refine below_set ?_ GE364.out) | exact HB.out)⟩
            (try clear HO390)
            (try clear BK356)
            (try clear BK357)
            (try clear BK364)
            (try clear HK)
            (try clear HB)
            generalize ((w70.setCell ⟨gb356, 0, none⟩ (.slice Ao71 t388.length co71)).setCell ⟨gb356, 1, none⟩ (.int .i64 t391)) = w73 at n0_ n1_ n2_ n3_ n4_ n5_ ⊢
            have HO390 := n0_
            have BK356 := n1_
            have BK357 := n2_
            have BK364 := n3_
            have HK := n4_
            have HB := n5_
            clear n0_ n1_ n2_ n3_ n4_ n5_
            have n0_ := Aside0.mk (Kd.R_drew HO390.out)
            have n1_ := Aside0.mk (blk_drew BK356.out)
            have n2_ := Aside0.mk (blk_drew BK357.out)
            have n3_ := Aside0.mk (blk_drew BK364.out)
            have n4_ := Aside0.mk (Kept.drew HK.out)
            have n5_ := Aside0.mk (below_drew1 HB.out)
            clear HO390
            clear BK356
            clear BK357
            clear BK364
            clear HK
            clear HB
            have HO390 := n0_
            have BK356 := n1_
            have BK357 := n2_
            have BK364 := n3_
            have HK := n4_
            have HB := n5_
            clear n0_ n1_ n2_ n3_ n4_ n5_
            refine start_ (n := 8) (S := fun w' => w'.cell? ⟨gb356, 0, none⟩ = some (.slice Ao71 t388.length co71) ∧ w'.cell? ⟨gb356, 1, none⟩ = some (.int .i64 t391)) (ds := [7]) #[false, false, false, false, false, false, false, false] (by kernel_rfl) rfl rfl ⟨(blk_cell BK356.out 0).trans rfl, (blk_cell BK356.out 1).trans rfl⟩ (fun hHeld => ?_); refine with_tabW turnbuckleref11_Remove.tab18 turnbuckleref11_Remove.bits18 (fun HT_ HW_ => ?_)
            generalize w73.drew = w74 at HO390 BK356 BK357 BK364 HK HB hHeld ⊢
            refine pure_ (i := 1) (N := some 72) (v := ?_) (a' := ?_) #[false, true, false, false, false, false, false, false] rfl rfl (any_of HT_.out (by kernel_rfl)) (fun _ _ _ h => h) (Or.inl ⟨by rfl, ?_⟩) ?_ ?_
            rotate_left
            ·intro w'
             go_simp
             with_reducible rfl
            rotate_left
            ·simp only [Act.put, List.setIfInBounds_toArray, List.set_cons_zero, List.set_cons_succ, i64_w, i32_w]
             rfl
            refine pure_ (i := 3) (N := some 74) (v := ?_) (a' := ?_) #[false, true, false, true, false, false, false, false] rfl rfl (any_of HT_.out (by kernel_rfl)) (fun _ _ _ h => h) (Or.inl ⟨by rfl, ?_⟩) ?_ ?_
            rotate_left
            ·intro w'
             go_simp
             with_reducible rfl
            rotate_left
            ·simp only [Act.put, List.setIfInBounds_toArray, List.set_cons_zero, List.set_cons_succ, i64_w, i32_w]
             rfl
            refine take_ (i := 0) (N := some 71) (v := ?_) (a' := ?_) #[true, true, false, true, false, false, false, false] rfl rfl (take_ofW HT_.out HW_.out (by kernel_rfl)) (fun _ _ _ h => h) (Or.inl ⟨by rfl, ?_⟩) hHeld ?_ ?_
            rotate_left
            ·rintro w' ⟨s0, s1⟩
             go_simp
             with_reducible rfl
            rotate_left
            ·simp only [Act.put, List.setIfInBounds_toArray, List.set_cons_zero, List.set_cons_succ, i64_w, i32_w]
             rfl
            refine take_ (i := 2) (N := some 73) (v := ?_) (a' := ?_) #[true, true, true, true, false, false, false, false] rfl rfl (take_ofW HT_.out HW_.out (by kernel_rfl)) (fun _ _ _ h => h) (Or.inl ⟨by rfl, ?_⟩) hHeld ?_ ?_
            rotate_left
            ·rintro w' ⟨s0, s1⟩
             go_simp
             with_reducible rfl
            rotate_left
            ·simp only [Act.put, List.setIfInBounds_toArray, List.set_cons_zero, List.set_cons_succ, i64_w, i32_w]
             rfl
            refine one_ (i := 4) (N := some 75) #[true, true, true, true, true, false, false, false] rfl rfl (one_of HT_.out (by kernel_rfl)) (by decide) (fun K hK => ?_)
            refine goes_ Try.func51 (by kernel_rfl) rfl #[.agg #[.slice Ao71 t388.length co71, .int .i64 t391], .int .i64 a1] (by rfl) rfl rfl (by (try simp only [List.map_toArray, List.map_cons, List.map_nil]); try rfl) ?_
            with_reducible refine (turnbuckleref11_Of.calls _ _ t388 t391 a1 t392 t393 t394 t395 t396 t397 _ ?side1 ?side2 A63.out).mono ?_
            (case side1 => repeat (first | exact (Kd.R_reads' HO390.out).2.2 | (with_reducible refine Kd.C_alloc ?_ _) | (with_reducible refine Kd.C_drewN ?_ _) | (with_reducible refine Kd.C_drew ?_)))
            (case side2 => exact (Kd.R_reads' HO390.out).2.1)
            rintro e w75 ⟨rfl, hb⟩
            refine ⟨_, rfl, ?_⟩
            have n0_ := Aside0.mk (Kd.R_below HO390.out hb)
            have n1_ := Aside0.mk (blk_below BK356.out hb)
            have n2_ := Aside0.mk (blk_below BK357.out hb)
            have n3_ := Aside0.mk (blk_below BK364.out hb)
            have n4_ := Aside0.mk (Kept.below (S := (fun k_ => P0_0_ k_)) HK.out hb)
            have n5_ := Aside0.mk (below_step HB.out hb)
            clear HO390
            clear BK356
            clear BK357
            clear BK364
            clear HK
            clear HB
            have HO390 := n0_
            have BK356 := n1_
            have BK357 := n2_
            have BK364 := n3_
            have HK := n4_
            have HB := n5_
            clear n0_ n1_ n2_ n3_ n4_ n5_
            (try clear hb)
            (try clear hb2)
            (try clear hk)
            (try clear hi)
            refine hK.out _ _ ⟨(blk_cell BK356.out 0).trans rfl, (blk_cell BK356.out 1).trans rfl⟩ (fun hHeld => ?_)
            clear hK K
            refine norm_ (a' := ?_) ?_ ?_
            rotate_left
            ·show Act.put _ (some 75) _ = _
             simp only [Act.put, List.setIfInBounds_toArray, List.set_cons_zero, List.set_cons_succ, i64_w, i32_w]
             rfl
            refine pure_ (i := 5) (N := some 76) (v := ?_) (a' := ?_) #[true, true, true, true, true, true, false, false] rfl rfl (any_of HT_.out (by kernel_rfl)) (fun _ _ _ h => h) (Or.inl ⟨by rfl, ?_⟩) ?_ ?_
            rotate_left
            ·intro w'
             go_simp
             with_reducible rfl
            rotate_left
            ·simp only [Act.put, List.setIfInBounds_toArray, List.set_cons_zero, List.set_cons_succ, i64_w, i32_w]
             rfl
            refine one_ (i := 6) (N := some 77) #[true, true, true, true, true, true, true, false] rfl rfl (one_of HT_.out (by kernel_rfl)) (by decide) (fun K hK => ?_)
            refine goes_ Try.func53 (by kernel_rfl) rfl #[.agg #[.slice Ao71 t388.length co71, .int .i64 t391], .int .i64 t369, .bool true, .int .i64 t394] (by rfl) rfl rfl (by (try simp only [List.map_toArray, List.map_cons, List.map_nil]); try rfl) ?_
            with_reducible refine (turnbuckleref11_join.calls (fun k_ => some k_ = (.slice Ao71 t388.length co71 : Value).ownBlock) (.slice Ao71 t388.length co71) t388 t391 t369 true t394 t398 t401 w0 _ ?side1 ?side2 A64.out).mono ?_
            (case side1 => repeat (first | (with_reducible first | exact HB.out | refine below_set ?_ GE356.out | refine below_set ?_ GE357.out | refine below_set ?_ GE364.out) | exact HB.out))
            (case side2 => exact Kd.R_tight rfl HO390.out)
            rintro e w76 ⟨v399, rfl, ho0, hb, hkp⟩
            refine ⟨_, rfl, ?_⟩
            have n0_ := Aside0.mk (blk_kept BK356.out hkp (fun hs_ => (fun e_ => (Kd.R_ne HO390.out BK356.out (by decide)) e_) hs_))
            have n1_ := Aside0.mk (blk_kept BK357.out hkp (fun hs_ => (fun e_ => (Kd.R_ne HO390.out BK357.out (by decide)) e_) hs_))
            have n2_ := Aside0.mk (blk_kept BK364.out hkp (fun hs_ => (fun e_ => (Kd.R_away HO390.out (fun _ hk => hk.2)) e_) hs_))
            have n3_ := Aside0.mk (Kd.R_mono (ok' := fun k_ => (P0_0_ k_ ∨ w.heap.size ≤ k_) ∧ k_ ≠ gb364) ho0 (fun k_ hk_ => ⟨Or.elim hk_ (fun hs_ => (HO390.out.1 k_ (hs_).symm).1) (fun hn_ => (.inr (Nat.le_trans HK.out.1 hn_))), Or.elim hk_ (fun hs_ => fun e_ => (Kd.R_away HO390.out (fun _ hk => hk.2)) (by rw [← e_]; exact hs_)) (fun hn_ => (Kd.freshB BK364.out k_ hn_))⟩))
            have n4_ := Aside0.mk (Kept.then_ (S := (fun k_ => P0_0_ k_)) HK.out hkp (fun k_ hs_ => (fun e_ => (HO390.out.1 k_ e_.symm).1) hs_))
            have n5_ := Aside0.mk (hb)
            clear BK356
            clear BK357
            clear BK364
            clear HK
            clear HB
            clear HO390
            have BK356 := n0_
            have BK357 := n1_
            have BK364 := n2_
            have HO400 := n3_
            have HK := n4_
            have HB := n5_
            clear n0_ n1_ n2_ n3_ n4_ n5_
            (try clear hb)
            (try clear hkp)
            (try clear ho0)
            obtain ⟨Ao77, co77, eo77⟩ := Kd.R_slice HO400.out
            (first | subst eo77 | (injection eo77 with f1_ f2_ f3_; have f4_ := f1_.symm; have f5_ := f3_.symm; clear f1_ f2_ f3_; subst f4_; subst f5_))
            refine hK.out _ _ ⟨(blk_cell BK356.out 0).trans rfl, (blk_cell BK356.out 1).trans rfl⟩ (fun hHeld => ?_)
            clear hK K
            refine norm_ (a' := ?_) ?_ ?_
            rotate_left
            ·show Act.put _ (some 77) _ = _
             simp only [Act.put, List.setIfInBounds_toArray, List.set_cons_zero, List.set_cons_succ, i64_w, i32_w]
             rfl
            refine last_ (i := 7) (N := none) #[true, true, true, true, true, true, true, true] rfl rfl (one_of HT_.out (by kernel_rfl)) (by decide) (fun K hK => ?_)
            have hs78 : w76.cell? ⟨gb356, 0, none⟩ = some (.slice Ao71 t388.length co71) := (blk_cell BK356.out 0).trans rfl
            have hfs78 := blk_frozen BK356.out 0
            have hns78_1 := NB357_356.out
            have hns78_2 := NB364_356.out
            have hms78_1 := NB356_357.out
            have hms78_2 := NB356_364.out
            have hs79 : w76.cell? ⟨gb356, 1, none⟩ = some (.int .i64 t391) := (blk_cell BK356.out 1).trans rfl
            have hfs79 := blk_frozen BK356.out 1
            have hns79_1 := NB357_356.out
            have hns79_2 := NB364_356.out
            have hms79_1 := NB356_357.out
            have hms79_2 := NB356_364.out
            refine skip_ (w1 := ?_) (by rfl) rfl ?_ ?_
            rotate_left
            ·go_simp
             rfl
            refine hK.out _ _ ?_
            clear hK K
            refine done_ (done_of HT_.out (by kernel_rfl)) ?_
            try go_wp2
            go_meet
            case rel => exact ⟨_, (t385), (t398), (t401), (.slice Ao77 t398.length co77), (by first | rfl | (simp; done) | (simp [*]; done)), H', ⟨by have := HJ4.out; have := HJ22.out; have := HJ27.out; first | omega | exact Nat.le_refl _⟩, ⟨by exact Kd.R_mono (Kd.R_far (p := ⟨gb356, 1, none⟩) (Kd.R_far (p := ⟨gb356, 0, none⟩) (Kd.R_types HO400.out BK356.out (by decide)) (fun _ hk => hk.2) (.slice Ao77 t398.length co77)) (fun _ hk => hk.2) (.int .i64 t401)) (fun _ hk => ⟨hk.1.1, hk.1.2⟩)⟩, ⟨by refine blk_put (cs := #[.slice Ao77 t398.length co77, .int .i64 t391]) ?_ 1 _ rfl; refine blk_put (cs := #[.slice Ao71 t388.length co71, .int .i64 t391]) ?_ 0 _ rfl; exact BK356.out⟩, ⟨by refine blk_far ?_ NB357_356.out _; refine blk_far ?_ NB357_356.out _; exact BK357.out⟩, ⟨by refine blk_far ?_ NB364_356.out _; refine blk_far ?_ NB364_356.out _; exact BK364.out⟩, ⟨by repeat (first | (with_reducible first | exact HK.out | refine Kept.setCell ?_ (.inr GW356.out) _ | refine Kept.setCell ?_ (.inr GW357.out) _ | refine Kept.setCell ?_ (.inr GW364.out) _) | exact HK.out)⟩, ⟨by repeat (first | (with_reducible first | exact HB.out | refine below_set ?_ GE356.out | refine below_set ?_ GE357.out | refine below_set ?_ GE364.out) | exact HB.out)⟩⟩
          case rest =>
           clear HC48
           try clear c1
           try clear c2
           try clear p2
           try clear c3
           try clear c4
           try clear c5
           try clear c6
           try clear c9
           try clear c13
           try clear c14
           try clear c16
           try clear c16b0
           try clear c16b1
           try clear c17
           try clear c18
           try clear c20
           try clear c21
           try clear c23
           try clear c24
           try clear c25
           try clear c26
           try clear c29
           try clear c29b0
           try clear c29b1
           try clear c30
           try clear c31
           try clear c33
           try clear c34
           try clear c37
           try clear c39
           try clear c40
           try clear c49
           try clear c50
           try clear c51
           try clear c52
           try clear c53
           try clear c60
           try clear c60b0
           try clear c60b1
           try clear c65
           try clear c66
           try clear hcz10_0
           try clear hcz10_1
           try clear hcz15_0
           try clear hcz15_1
           try clear hcz15_2
           try clear hcz15_3
           try clear hcz15_4
           try clear hcz15_5
           try clear hcz19_0
           try clear hcz19_1
           try clear hcz19_2
           try clear hcz19_3
           try clear hcz19_4
           try clear hcz19_5
           try clear hcz22_0
           try clear hcz22_1
           try clear hcz22_2
           try clear hcz22_3
           try clear hcz22_4
           try clear hcz22_5
           try clear hcz27_0
           try clear hcz27_1
           try clear hcz27_2
           try clear hcz27_3
           try clear hcz27_4
           try clear hcz27_5
           try clear hcz32_0
           try clear hcz32_1
           try clear hcz32_2
           try clear hcz32_3
           try clear hcz32_4
           try clear hcz32_5
           try clear hcz35_0
           try clear hcz35_1
           try clear hcz35_2
           try clear hcz35_3
           try clear hcz35_4
           try clear hcz35_5
           try clear hcz41_0
           try clear hcz41_1
           try clear hcz44_0
           try clear hcz44_1
           try clear hcz51_0
           try clear hcz51_1
           try clear hcz53_0
           try clear hcz53_1
           try clear hcz53_2
           try clear hcz53_3
           try clear hcz53_4
           try clear hcz53_5
           try clear hcz55_0
           try clear hcz55_1
           try clear hcz57_0
           try clear hcz57_1
           try clear hcz59_0
           try clear hcz59_1
           try clear hcz59_2
           try clear hcz59_3
           try clear hcz59_4
           try clear hcz59_5
           try clear hcz67_0
           try clear hcz67_1
           try clear hcz69_0
           try clear hcz69_1
           try clear hcz72_0
           try clear hcz72_1
           try clear hfz10_0
           try clear hfz10_1
           try clear hfz15_0
           try clear hfz15_1
           try clear hfz15_2
           try clear hfz15_3
           try clear hfz15_4
           try clear hfz15_5
           try clear hfz19_0
           try clear hfz19_1
           try clear hfz19_2
           try clear hfz19_3
           try clear hfz19_4
           try clear hfz19_5
           try clear hfz22_0
           try clear hfz22_1
           try clear hfz22_2
           try clear hfz22_3
           try clear hfz22_4
           try clear hfz22_5
           try clear hfz27_0
           try clear hfz27_1
           try clear hfz27_2
           try clear hfz27_3
           try clear hfz27_4
           try clear hfz27_5
           try clear hfz32_0
           try clear hfz32_1
           try clear hfz32_2
           try clear hfz32_3
           try clear hfz32_4
           try clear hfz32_5
           try clear hfz35_0
           try clear hfz35_1
           try clear hfz35_2
           try clear hfz35_3
           try clear hfz35_4
           try clear hfz35_5
           try clear hfz41_0
           try clear hfz41_1
           try clear hfz44_0
           try clear hfz44_1
           try clear hfz51_0
           try clear hfz51_1
           try clear hfz53_0
           try clear hfz53_1
           try clear hfz53_2
           try clear hfz53_3
           try clear hfz53_4
           try clear hfz53_5
           try clear hfz55_0
           try clear hfz55_1
           try clear hfz57_0
           try clear hfz57_1
           try clear hfz59_0
           try clear hfz59_1
           try clear hfz59_2
           try clear hfz59_3
           try clear hfz59_4
           try clear hfz59_5
           try clear hfz67_0
           try clear hfz67_1
           try clear hfz69_0
           try clear hfz69_1
           try clear hfz72_0
           try clear hfz72_1
           try clear p2
           obtain ⟨kq, x8_47, x357000_47, x357001_47, u357000, rfl, HA, HJ47, HO_357000, BK356, BK357, BK364, HK, HB⟩ := hcut
           cases kq with
           | zero => exact absurd HA.out (by simp [turnbuckleref11_Remove.j3])
           | succ kj47 =>
            have H := HA.out
            clear HA
            simp only [turnbuckleref11_Remove.j3] at H
            replace H := Option.bind_eq_some_iff.mp H
            obtain ⟨⟨t402, t405⟩, A800, H⟩ := H
            replace H : ((turnbuckleref11_Of.f t402 t405 a1).bind fun bt406 => ((turnbuckleref11_join.f t402 t405 t369 false bt406.2.1).bind fun bt412 => ((turnbuckleref11_paint.f bt412.1 bt412.2 t369 t363).bind fun bt416 => (turnbuckleref11_Remove.j4 kj47 a1 t372 x8_47 t381 bt416.1 bt416.2 t358 t359 t360 t361 true t363)))) = some (r1, r2, r3) := H
            have A80 := Aside0.mk A800
            clear A800
            replace H := Option.bind_eq_some_iff.mp H
            obtain ⟨⟨t406, t407, t408, t409, t410, t411⟩, A810, H⟩ := H
            replace H : ((turnbuckleref11_join.f t402 t405 t369 false t407).bind fun bt412 => ((turnbuckleref11_paint.f bt412.1 bt412.2 t369 t363).bind fun bt416 => (turnbuckleref11_Remove.j4 kj47 a1 t372 x8_47 t381 bt416.1 bt416.2 t358 t359 t360 t361 true t363))) = some (r1, r2, r3) := H
            have A81 := Aside0.mk A810
            clear A810
            replace H := Option.bind_eq_some_iff.mp H
            obtain ⟨⟨t412, t415⟩, A820, H⟩ := H
            replace H : ((turnbuckleref11_paint.f t412 t415 t369 t363).bind fun bt416 => (turnbuckleref11_Remove.j4 kj47 a1 t372 x8_47 t381 bt416.1 bt416.2 t358 t359 t360 t361 true t363)) = some (r1, r2, r3) := H
            have A82 := Aside0.mk A820
            clear A820
            replace H := Option.bind_eq_some_iff.mp H
            obtain ⟨⟨t416, t419⟩, A830, H⟩ := H
            replace H : (turnbuckleref11_Remove.j4 kj47 a1 t372 x8_47 t381 t416 t419 t358 t359 t360 t361 true t363) = some (r1, r2, r3) := H
            have A83 := Aside0.mk A830
            clear A830
            have H' := Aside0.mk H
            clear H
            have hnb84 := NB356_357.out
            have hnc84 := NB357_356.out
            have hnb85 := NB356_364.out
            have hnc85 := NB364_356.out
            have hcz86_0 : wc.cell? ⟨gb356, 0, none⟩ = some (u357000) := (blk_cell BK356.out 0).trans rfl
            have hcz86_1 : wc.cell? ⟨gb356, 1, none⟩ = some (.int .i64 x357001_47) := (blk_cell BK356.out 1).trans rfl
            have hfz86_0 := blk_frozen BK356.out 0
            have hfz86_1 := blk_frozen BK356.out 1
            obtain ⟨Ao87, co87, eo87⟩ := Kd.R_slice HO_357000.out
            subst eo87
            try go_wp2_with (first | ((with_reducible refine gate_callee (f := 52) rfl ?_); refine goesL_ (some 81) rfl rfl Try.func52 (by kernel_rfl) rfl #[.agg #[.slice Ao87 x357000_47.length co87, .int .i64 x357001_47], .int .i64 a1, .int .i64 t369] rfl (by (try simp only [List.map_toArray, List.map_cons, List.map_nil]); try rfl) ?_; (with_reducible refine (turnbuckleref11_place.calls (fun k_ => some k_ = (.slice Ao87 x357000_47.length co87 : Value).ownBlock) (.slice Ao87 x357000_47.length co87) x357000_47 x357001_47 a1 t369 t402 t405 w0 _ ?side1 ?side2 A80.out).mono ?_); (case side1 => repeat (first | (with_reducible first | exact HB.out | refine below_set ?_ GE356.out | refine below_set ?_ GE357.out | refine below_set ?_ GE364.out) | exact HB.out)); (case side2 => exact Kd.R_tight rfl HO_357000.out); rintro e w88 ⟨v403, rfl, ho0, hb, hkp⟩; refine ⟨_, rfl, ?_⟩; have HO404 := Aside0.mk (Kd.R_mono (ok' := fun k_ => (P0_0_ k_ ∨ w.heap.size ≤ k_) ∧ k_ ≠ gb364) ho0 (fun k_ hk_ => ⟨Or.elim hk_ (fun hs_ => (HO_357000.out.1 k_ (hs_).symm).1) (fun hn_ => (.inr (Nat.le_trans HK.out.1 hn_))), Or.elim hk_ (fun hs_ => fun e_ => (Kd.R_away HO_357000.out (fun _ hk => hk.2)) (by rw [← e_]; exact hs_)) (fun hn_ => (Kd.freshB BK364.out k_ hn_))⟩)); replace BK356 := Aside0.mk (blk_kept BK356.out hkp (fun hs_ => (fun e_ => (Kd.R_ne HO_357000.out BK356.out (by decide)) e_) hs_)); replace BK357 := Aside0.mk (blk_kept BK357.out hkp (fun hs_ => (fun e_ => (Kd.R_ne HO_357000.out BK357.out (by decide)) e_) hs_)); replace BK364 := Aside0.mk (blk_kept BK364.out hkp (fun hs_ => (fun e_ => (Kd.R_away HO_357000.out (fun _ hk => hk.2)) e_) hs_)); replace HK := Aside0.mk (Kept.then_ (S := (fun k_ => P0_0_ k_)) HK.out hkp (fun k_ hs_ => (fun e_ => (HO_357000.out.1 k_ e_.symm).1) hs_)); replace HB := Aside0.mk (hb); clear HO_357000; (try clear hb); (try clear hkp); (try clear ho0); obtain ⟨Ao89, co89, eo89⟩ := Kd.R_slice HO404.out; subst eo89; have hcz90_0 : w88.cell? ⟨gb356, 0, none⟩ = some (.slice Ao87 x357000_47.length co87) := (blk_cell BK356.out 0).trans rfl; have hcz90_1 : w88.cell? ⟨gb356, 1, none⟩ = some (.int .i64 x357001_47) := (blk_cell BK356.out 1).trans rfl; have hfz90_0 := blk_frozen BK356.out 0; have hfz90_1 := blk_frozen BK356.out 1))
            have n0_ : Aside0 (Kd.R k80 80 ((w88.setCell ⟨gb356, 0, none⟩ (.slice Ao89 t402.length co89)).setCell ⟨gb356, 1, none⟩ (.int .i64 t405)) w0.heap.size (fun k_ => (P0_0_ k_ ∨ w.heap.size ≤ k_) ∧ k_ ≠ gb364) (.slice Ao89 t402.length co89) t402) := ⟨by exact Kd.R_mono (Kd.R_far (p := ⟨gb356, 1, none⟩) (Kd.R_far (p := ⟨gb356, 0, none⟩) (Kd.R_types HO404.out BK356.out (by decide)) (fun _ hk => hk.2) (.slice Ao89 t402.length co89)) (fun _ hk => hk.2) (.int .i64 t405)) (fun _ hk => ⟨hk.1.1, hk.1.2⟩)⟩
            have n1_ : Aside0 (((w88.setCell ⟨gb356, 0, none⟩ (.slice Ao89 t402.length co89)).setCell ⟨gb356, 1, none⟩ (.int .i64 t405)).heap[gb356]? = some (.cells #[.slice Ao89 t402.length co89, .int .i64 t405] 49 (0, 0))) := ⟨by refine blk_put (cs := #[.slice Ao89 t402.length co89, .int .i64 x357001_47]) ?_ 1 _ rfl; refine blk_put (cs := #[.slice Ao87 x357000_47.length co87, .int .i64 x357001_47]) ?_ 0 _ rfl; exact BK356.out⟩
            have n2_ : Aside0 (((w88.setCell ⟨gb356, 0, none⟩ (.slice Ao89 t402.length co89)).setCell ⟨gb356, 1, none⟩ (.int .i64 t405)).heap[gb357]? = some (.cells #[.slice none 0 0, .int .i64 0] 49 (0, 0))) := ⟨by refine blk_far ?_ NB357_356.out _; refine blk_far ?_ NB357_356.out _; exact BK357.out⟩
            have n3_ : Aside0 (((w88.setCell ⟨gb356, 0, none⟩ (.slice Ao89 t402.length co89)).setCell ⟨gb356, 1, none⟩ (.int .i64 t405)).heap[gb364]? = some (.cells #[.int .u64 t358, .int .i64 t359, .int .i64 t360, .int .i64 t361, .bool true, .bool t363] 80 (0, 0))) := ⟨by refine blk_far ?_ NB364_356.out _; refine blk_far ?_ NB364_356.out _; exact BK364.out⟩
            have n4_ : Aside0 (Kept w ((w88.setCell ⟨gb356, 0, none⟩ (.slice Ao89 t402.length co89)).setCell ⟨gb356, 1, none⟩ (.int .i64 t405)) (fun k_ => P0_0_ k_)) := ⟨by repeat (first | (with_reducible first | exact HK.out | refine Kept.setCell ?_ (.inr GW356.out) _ | refine Kept.setCell ?_ (.inr GW357.out) _ | refine Kept.setCell ?_ (.inr GW364.out) _) | exact HK.out)⟩
            have n5_ : Aside0 (Below w0.heap.size w0 ((w88.setCell ⟨gb356, 0, none⟩ (.slice Ao89 t402.length co89)).setCell ⟨gb356, 1, none⟩ (.int .i64 t405))) := ⟨by repeat (first | (with_reducible first | exact HB.out | refine below_set ?_ GE356.out | refine below_set ?_ GE357.out | refine below_set ?_ GE364.out) | exact HB.out)⟩
            (try clear HO404)
            (try clear BK356)
            (try clear BK357)
            (try clear BK364)
            (try clear HK)
            (try clear HB)
            generalize ((w88.setCell ⟨gb356, 0, none⟩ (.slice Ao89 t402.length co89)).setCell ⟨gb356, 1, none⟩ (.int .i64 t405)) = w91 at n0_ n1_ n2_ n3_ n4_ n5_ ⊢
            have HO404 := n0_
            have BK356 := n1_
            have BK357 := n2_
            have BK364 := n3_
            have HK := n4_
            have HB := n5_
            clear n0_ n1_ n2_ n3_ n4_ n5_
            have n0_ := Aside0.mk (Kd.R_drew HO404.out)
            have n1_ := Aside0.mk (blk_drew BK356.out)
            have n2_ := Aside0.mk (blk_drew BK357.out)
            have n3_ := Aside0.mk (blk_drew BK364.out)
            have n4_ := Aside0.mk (Kept.drew HK.out)
            have n5_ := Aside0.mk (below_drew1 HB.out)
            clear HO404
            clear BK356
            clear BK357
            clear BK364
            clear HK
            clear HB
            have HO404 := n0_
            have BK356 := n1_
            have BK357 := n2_
            have BK364 := n3_
            have HK := n4_
            have HB := n5_
            clear n0_ n1_ n2_ n3_ n4_ n5_
            refine start_ (n := 8) (S := fun w' => w'.cell? ⟨gb356, 0, none⟩ = some (.slice Ao89 t402.length co89) ∧ w'.cell? ⟨gb356, 1, none⟩ = some (.int .i64 t405)) (ds := [7]) #[false, false, false, false, false, false, false, false] (by kernel_rfl) rfl rfl ⟨(blk_cell BK356.out 0).trans rfl, (blk_cell BK356.out 1).trans rfl⟩ (fun hHeld => ?_); refine with_tabW turnbuckleref11_Remove.tab20 turnbuckleref11_Remove.bits20 (fun HT_ HW_ => ?_)
            generalize w91.drew = w92 at HO404 BK356 BK357 BK364 HK HB hHeld ⊢
            refine pure_ (i := 1) (N := some 83) (v := ?_) (a' := ?_) #[false, true, false, false, false, false, false, false] rfl rfl (any_of HT_.out (by kernel_rfl)) (fun _ _ _ h => h) (Or.inl ⟨by rfl, ?_⟩) ?_ ?_
            rotate_left
            ·intro w'
             go_simp
             with_reducible rfl
            rotate_left
            ·simp only [Act.put, List.setIfInBounds_toArray, List.set_cons_zero, List.set_cons_succ, i64_w, i32_w]
             rfl
            refine pure_ (i := 3) (N := some 85) (v := ?_) (a' := ?_) #[false, true, false, true, false, false, false, false] rfl rfl (any_of HT_.out (by kernel_rfl)) (fun _ _ _ h => h) (Or.inl ⟨by rfl, ?_⟩) ?_ ?_
            rotate_left
            ·intro w'
             go_simp
             with_reducible rfl
            rotate_left
            ·simp only [Act.put, List.setIfInBounds_toArray, List.set_cons_zero, List.set_cons_succ, i64_w, i32_w]
             rfl
            refine take_ (i := 0) (N := some 82) (v := ?_) (a' := ?_) #[true, true, false, true, false, false, false, false] rfl rfl (take_ofW HT_.out HW_.out (by kernel_rfl)) (fun _ _ _ h => h) (Or.inl ⟨by rfl, ?_⟩) hHeld ?_ ?_
            rotate_left
            ·rintro w' ⟨s0, s1⟩
             go_simp
             with_reducible rfl
            rotate_left
            ·simp only [Act.put, List.setIfInBounds_toArray, List.set_cons_zero, List.set_cons_succ, i64_w, i32_w]
             rfl
            refine take_ (i := 2) (N := some 84) (v := ?_) (a' := ?_) #[true, true, true, true, false, false, false, false] rfl rfl (take_ofW HT_.out HW_.out (by kernel_rfl)) (fun _ _ _ h => h) (Or.inl ⟨by rfl, ?_⟩) hHeld ?_ ?_
            rotate_left
            ·rintro w' ⟨s0, s1⟩
             go_simp
             with_reducible rfl
            rotate_left
            ·simp only [Act.put, List.setIfInBounds_toArray, List.set_cons_zero, List.set_cons_succ, i64_w, i32_w]
             rfl
            refine one_ (i := 4) (N := some 86) #[true, true, true, true, true, false, false, false] rfl rfl (one_of HT_.out (by kernel_rfl)) (by decide) (fun K hK => ?_)
            refine goes_ Try.func51 (by kernel_rfl) rfl #[.agg #[.slice Ao89 t402.length co89, .int .i64 t405], .int .i64 a1] (by rfl) rfl rfl (by (try simp only [List.map_toArray, List.map_cons, List.map_nil]); try rfl) ?_
            with_reducible refine (turnbuckleref11_Of.calls _ _ t402 t405 a1 t406 t407 t408 t409 t410 t411 _ ?side1 ?side2 A81.out).mono ?_
            (case side1 => repeat (first | exact (Kd.R_reads' HO404.out).2.2 | (with_reducible refine Kd.C_alloc ?_ _) | (with_reducible refine Kd.C_drewN ?_ _) | (with_reducible refine Kd.C_drew ?_)))
            (case side2 => exact (Kd.R_reads' HO404.out).2.1)
            rintro e w93 ⟨rfl, hb⟩
            refine ⟨_, rfl, ?_⟩
            have n0_ := Aside0.mk (Kd.R_below HO404.out hb)
            have n1_ := Aside0.mk (blk_below BK356.out hb)
            have n2_ := Aside0.mk (blk_below BK357.out hb)
            have n3_ := Aside0.mk (blk_below BK364.out hb)
            have n4_ := Aside0.mk (Kept.below (S := (fun k_ => P0_0_ k_)) HK.out hb)
            have n5_ := Aside0.mk (below_step HB.out hb)
            clear HO404
            clear BK356
            clear BK357
            clear BK364
            clear HK
            clear HB
            have HO404 := n0_
            have BK356 := n1_
            have BK357 := n2_
            have BK364 := n3_
            have HK := n4_
            have HB := n5_
            clear n0_ n1_ n2_ n3_ n4_ n5_
            (try clear hb)
            (try clear hb2)
            (try clear hk)
            (try clear hi)
            refine hK.out _ _ ⟨(blk_cell BK356.out 0).trans rfl, (blk_cell BK356.out 1).trans rfl⟩ (fun hHeld => ?_)
            clear hK K
            refine norm_ (a' := ?_) ?_ ?_
            rotate_left
            ·show Act.put _ (some 86) _ = _
             simp only [Act.put, List.setIfInBounds_toArray, List.set_cons_zero, List.set_cons_succ, i64_w, i32_w]
             rfl
            refine pure_ (i := 5) (N := some 87) (v := ?_) (a' := ?_) #[true, true, true, true, true, true, false, false] rfl rfl (any_of HT_.out (by kernel_rfl)) (fun _ _ _ h => h) (Or.inl ⟨by rfl, ?_⟩) ?_ ?_
            rotate_left
            ·intro w'
             go_simp
             with_reducible rfl
            rotate_left
            ·simp only [Act.put, List.setIfInBounds_toArray, List.set_cons_zero, List.set_cons_succ, i64_w, i32_w]
             rfl
            refine one_ (i := 6) (N := some 88) #[true, true, true, true, true, true, true, false] rfl rfl (one_of HT_.out (by kernel_rfl)) (by decide) (fun K hK => ?_)
            refine goes_ Try.func53 (by kernel_rfl) rfl #[.agg #[.slice Ao89 t402.length co89, .int .i64 t405], .int .i64 t369, .bool false, .int .i64 t407] (by rfl) rfl rfl (by (try simp only [List.map_toArray, List.map_cons, List.map_nil]); try rfl) ?_
            with_reducible refine (turnbuckleref11_join.calls (fun k_ => some k_ = (.slice Ao89 t402.length co89 : Value).ownBlock) (.slice Ao89 t402.length co89) t402 t405 t369 false t407 t412 t415 w0 _ ?side1 ?side2 A82.out).mono ?_
            (case side1 => repeat (first | (with_reducible first | exact HB.out | refine below_set ?_ GE356.out | refine below_set ?_ GE357.out | refine below_set ?_ GE364.out) | exact HB.out))
            (case side2 => exact Kd.R_tight rfl HO404.out)
            rintro e w94 ⟨v413, rfl, ho0, hb, hkp⟩
            refine ⟨_, rfl, ?_⟩
            have n0_ := Aside0.mk (blk_kept BK356.out hkp (fun hs_ => (fun e_ => (Kd.R_ne HO404.out BK356.out (by decide)) e_) hs_))
            have n1_ := Aside0.mk (blk_kept BK357.out hkp (fun hs_ => (fun e_ => (Kd.R_ne HO404.out BK357.out (by decide)) e_) hs_))
            have n2_ := Aside0.mk (blk_kept BK364.out hkp (fun hs_ => (fun e_ => (Kd.R_away HO404.out (fun _ hk => hk.2)) e_) hs_))
            have n3_ := Aside0.mk (Kd.R_mono (ok' := fun k_ => (P0_0_ k_ ∨ w.heap.size ≤ k_) ∧ k_ ≠ gb364) ho0 (fun k_ hk_ => ⟨Or.elim hk_ (fun hs_ => (HO404.out.1 k_ (hs_).symm).1) (fun hn_ => (.inr (Nat.le_trans HK.out.1 hn_))), Or.elim hk_ (fun hs_ => fun e_ => (Kd.R_away HO404.out (fun _ hk => hk.2)) (by rw [← e_]; exact hs_)) (fun hn_ => (Kd.freshB BK364.out k_ hn_))⟩))
            have n4_ := Aside0.mk (Kept.then_ (S := (fun k_ => P0_0_ k_)) HK.out hkp (fun k_ hs_ => (fun e_ => (HO404.out.1 k_ e_.symm).1) hs_))
            have n5_ := Aside0.mk (hb)
            clear BK356
            clear BK357
            clear BK364
            clear HK
            clear HB
            clear HO404
            have BK356 := n0_
            have BK357 := n1_
            have BK364 := n2_
            have HO414 := n3_
            have HK := n4_
            have HB := n5_
            clear n0_ n1_ n2_ n3_ n4_ n5_
            (try clear hb)
            (try clear hkp)
            (try clear ho0)
            obtain ⟨Ao95, co95, eo95⟩ := Kd.R_slice HO414.out
            (first | subst eo95 | (injection eo95 with f1_ f2_ f3_; have f4_ := f1_.symm; have f5_ := f3_.symm; clear f1_ f2_ f3_; subst f4_; subst f5_))
            refine hK.out _ _ ⟨(blk_cell BK356.out 0).trans rfl, (blk_cell BK356.out 1).trans rfl⟩ (fun hHeld => ?_)
            clear hK K
            refine norm_ (a' := ?_) ?_ ?_
            rotate_left
            ·show Act.put _ (some 88) _ = _
             simp only [Act.put, List.setIfInBounds_toArray, List.set_cons_zero, List.set_cons_succ, i64_w, i32_w]
             rfl
            refine last_ (i := 7) (N := none) #[true, true, true, true, true, true, true, true] rfl rfl (one_of HT_.out (by kernel_rfl)) (by decide) (fun K hK => ?_)
            have hs96 : w94.cell? ⟨gb356, 0, none⟩ = some (.slice Ao89 t402.length co89) := (blk_cell BK356.out 0).trans rfl
            have hfs96 := blk_frozen BK356.out 0
            have hns96_1 := NB357_356.out
            have hns96_2 := NB364_356.out
            have hms96_1 := NB356_357.out
            have hms96_2 := NB356_364.out
            have hs97 : w94.cell? ⟨gb356, 1, none⟩ = some (.int .i64 t405) := (blk_cell BK356.out 1).trans rfl
            have hfs97 := blk_frozen BK356.out 1
            have hns97_1 := NB357_356.out
            have hns97_2 := NB364_356.out
            have hms97_1 := NB356_357.out
            have hms97_2 := NB356_364.out
            refine skip_ (w1 := ?_) (by rfl) rfl ?_ ?_
            rotate_left
            ·go_simp
             rfl
            refine hK.out _ _ ?_
            clear hK K
            refine done_ (done_of HT_.out (by kernel_rfl)) ?_
            have n0_ : Aside0 (Kd.R k80 80 ((w94.setCell ⟨gb356, 0, none⟩ (.slice Ao95 t412.length co95)).setCell ⟨gb356, 1, none⟩ (.int .i64 t415)) w0.heap.size (fun k_ => (P0_0_ k_ ∨ w.heap.size ≤ k_) ∧ k_ ≠ gb364) (.slice Ao95 t412.length co95) t412) := ⟨by exact Kd.R_mono (Kd.R_far (p := ⟨gb356, 1, none⟩) (Kd.R_far (p := ⟨gb356, 0, none⟩) (Kd.R_types HO414.out BK356.out (by decide)) (fun _ hk => hk.2) (.slice Ao95 t412.length co95)) (fun _ hk => hk.2) (.int .i64 t415)) (fun _ hk => ⟨hk.1.1, hk.1.2⟩)⟩
            have n1_ : Aside0 (((w94.setCell ⟨gb356, 0, none⟩ (.slice Ao95 t412.length co95)).setCell ⟨gb356, 1, none⟩ (.int .i64 t415)).heap[gb356]? = some (.cells #[.slice Ao95 t412.length co95, .int .i64 t415] 49 (0, 0))) := ⟨by refine blk_put (cs := #[.slice Ao95 t412.length co95, .int .i64 t405]) ?_ 1 _ rfl; refine blk_put (cs := #[.slice Ao89 t402.length co89, .int .i64 t405]) ?_ 0 _ rfl; exact BK356.out⟩
            have n2_ : Aside0 (((w94.setCell ⟨gb356, 0, none⟩ (.slice Ao95 t412.length co95)).setCell ⟨gb356, 1, none⟩ (.int .i64 t415)).heap[gb357]? = some (.cells #[.slice none 0 0, .int .i64 0] 49 (0, 0))) := ⟨by refine blk_far ?_ NB357_356.out _; refine blk_far ?_ NB357_356.out _; exact BK357.out⟩
            have n3_ : Aside0 (((w94.setCell ⟨gb356, 0, none⟩ (.slice Ao95 t412.length co95)).setCell ⟨gb356, 1, none⟩ (.int .i64 t415)).heap[gb364]? = some (.cells #[.int .u64 t358, .int .i64 t359, .int .i64 t360, .int .i64 t361, .bool true, .bool t363] 80 (0, 0))) := ⟨by refine blk_far ?_ NB364_356.out _; refine blk_far ?_ NB364_356.out _; exact BK364.out⟩
            have n4_ : Aside0 (Kept w ((w94.setCell ⟨gb356, 0, none⟩ (.slice Ao95 t412.length co95)).setCell ⟨gb356, 1, none⟩ (.int .i64 t415)) (fun k_ => P0_0_ k_)) := ⟨by repeat (first | (with_reducible first | exact HK.out | refine Kept.setCell ?_ (.inr GW356.out) _ | refine Kept.setCell ?_ (.inr GW357.out) _ | refine Kept.setCell ?_ (.inr GW364.out) _) | exact HK.out)⟩
            have n5_ : Aside0 (Below w0.heap.size w0 ((w94.setCell ⟨gb356, 0, none⟩ (.slice Ao95 t412.length co95)).setCell ⟨gb356, 1, none⟩ (.int .i64 t415))) := ⟨by repeat (first | (with_reducible first | exact HB.out | refine below_set ?_ GE356.out | refine below_set ?_ GE357.out | refine below_set ?_ GE364.out) | exact HB.out)⟩
            (try clear HO414)
            (try clear BK356)
            (try clear BK357)
            (try clear BK364)
            (try clear HK)
            (try clear HB)
            generalize ((w94.setCell ⟨gb356, 0, none⟩ (.slice Ao95 t412.length co95)).setCell ⟨gb356, 1, none⟩ (.int .i64 t415)) = w98 at n0_ n1_ n2_ n3_ n4_ n5_ ⊢
            have HO414 := n0_
            have BK356 := n1_
            have BK357 := n2_
            have BK364 := n3_
            have HK := n4_
            have HB := n5_
            clear n0_ n1_ n2_ n3_ n4_ n5_
            have hcz99_0 : w98.cell? ⟨gb356, 0, none⟩ = some (.slice Ao95 t412.length co95) := (blk_cell BK356.out 0).trans rfl
            have hcz99_1 : w98.cell? ⟨gb356, 1, none⟩ = some (.int .i64 t415) := (blk_cell BK356.out 1).trans rfl
            have hfz99_0 := blk_frozen BK356.out 0
            have hfz99_1 := blk_frozen BK356.out 1
            have hnb100 := NB364_357.out
            have hnc100 := NB357_364.out
            have hcz101_0 : w98.cell? ⟨gb364, 0, none⟩ = some (.int .u64 t358) := (blk_cell BK364.out 0).trans rfl
            have hcz101_1 : w98.cell? ⟨gb364, 1, none⟩ = some (.int .i64 t359) := (blk_cell BK364.out 1).trans rfl
            have hcz101_2 : w98.cell? ⟨gb364, 2, none⟩ = some (.int .i64 t360) := (blk_cell BK364.out 2).trans rfl
            have hcz101_3 : w98.cell? ⟨gb364, 3, none⟩ = some (.int .i64 t361) := (blk_cell BK364.out 3).trans rfl
            have hcz101_4 : w98.cell? ⟨gb364, 4, none⟩ = some (.bool true) := (blk_cell BK364.out 4).trans rfl
            have hcz101_5 : w98.cell? ⟨gb364, 5, none⟩ = some (.bool t363) := (blk_cell BK364.out 5).trans rfl
            have hfz101_0 := blk_frozen BK364.out 0
            have hfz101_1 := blk_frozen BK364.out 1
            have hfz101_2 := blk_frozen BK364.out 2
            have hfz101_3 := blk_frozen BK364.out 3
            have hfz101_4 := blk_frozen BK364.out 4
            have hfz101_5 := blk_frozen BK364.out 5
            try go_wp2_with (first | ((with_reducible refine gate_callee (f := 54) rfl ?_); refine goesL_ (some 93) rfl rfl Try.func54 (by kernel_rfl) rfl #[.agg #[.slice Ao95 t412.length co95, .int .i64 t415], .int .i64 t369, .bool t363] rfl (by (try simp only [List.map_toArray, List.map_cons, List.map_nil]); try rfl) ?_; (with_reducible refine (turnbuckleref11_paint.calls (fun k_ => some k_ = (.slice Ao95 t412.length co95 : Value).ownBlock) (.slice Ao95 t412.length co95) t412 t415 t369 t363 t416 t419 w0 _ ?side1 ?side2 A83.out).mono ?_); (case side1 => repeat (first | (with_reducible first | exact HB.out | refine below_set ?_ GE356.out | refine below_set ?_ GE357.out | refine below_set ?_ GE364.out) | exact HB.out)); (case side2 => exact Kd.R_tight rfl HO414.out); rintro e w102 ⟨v417, rfl, ho0, hb, hkp⟩; refine ⟨_, rfl, ?_⟩; have HO418 := Aside0.mk (Kd.R_mono (ok' := fun k_ => (P0_0_ k_ ∨ w.heap.size ≤ k_) ∧ k_ ≠ gb364) ho0 (fun k_ hk_ => ⟨Or.elim hk_ (fun hs_ => (HO414.out.1 k_ (hs_).symm).1) (fun hn_ => (.inr (Nat.le_trans HK.out.1 hn_))), Or.elim hk_ (fun hs_ => fun e_ => (Kd.R_away HO414.out (fun _ hk => hk.2)) (by rw [← e_]; exact hs_)) (fun hn_ => (Kd.freshB BK364.out k_ hn_))⟩)); replace BK356 := Aside0.mk (blk_kept BK356.out hkp (fun hs_ => (fun e_ => (Kd.R_ne HO414.out BK356.out (by decide)) e_) hs_)); replace BK357 := Aside0.mk (blk_kept BK357.out hkp (fun hs_ => (fun e_ => (Kd.R_ne HO414.out BK357.out (by decide)) e_) hs_)); replace BK364 := Aside0.mk (blk_kept BK364.out hkp (fun hs_ => (fun e_ => (Kd.R_away HO414.out (fun _ hk => hk.2)) e_) hs_)); replace HK := Aside0.mk (Kept.then_ (S := (fun k_ => P0_0_ k_)) HK.out hkp (fun k_ hs_ => (fun e_ => (HO414.out.1 k_ e_.symm).1) hs_)); replace HB := Aside0.mk (hb); clear HO414; (try clear hb); (try clear hkp); (try clear ho0); obtain ⟨Ao103, co103, eo103⟩ := Kd.R_slice HO418.out; subst eo103; have hcz104_0 : w102.cell? ⟨gb356, 0, none⟩ = some (.slice Ao95 t412.length co95) := (blk_cell BK356.out 0).trans rfl; have hcz104_1 : w102.cell? ⟨gb356, 1, none⟩ = some (.int .i64 t415) := (blk_cell BK356.out 1).trans rfl; have hfz104_0 := blk_frozen BK356.out 0; have hfz104_1 := blk_frozen BK356.out 1))
            go_meet
            case rel => exact ⟨_, (t372), (x8_47), (t381), (t416), (t419), (.slice Ao103 t416.length co103), (by first | rfl | (simp; done) | (simp [*]; done)), (by first | rfl | (simp; done) | (simp [*]; done)), (by first | rfl | (simp; done) | (simp [*]; done)), H', ⟨by have := HJ4.out; have := HJ22.out; have := HJ27.out; have := HJ47.out; first | omega | exact Nat.le_refl _⟩, ⟨by exact Kd.R_mono (Kd.R_far (p := ⟨gb356, 1, none⟩) (Kd.R_far (p := ⟨gb356, 0, none⟩) (Kd.R_types HO418.out BK356.out (by decide)) (fun _ hk => hk.2) (.slice Ao103 t416.length co103)) (fun _ hk => hk.2) (.int .i64 t419)) (fun _ hk => ⟨hk.1.1, hk.1.2⟩)⟩, ⟨by refine blk_put (cs := #[.slice Ao103 t416.length co103, .int .i64 t415]) ?_ 1 _ rfl; refine blk_put (cs := #[.slice Ao95 t412.length co95, .int .i64 t415]) ?_ 0 _ rfl; exact BK356.out⟩, ⟨by refine blk_far ?_ NB357_356.out _; refine blk_far ?_ NB357_356.out _; exact BK357.out⟩, ⟨by refine blk_far ?_ NB364_356.out _; refine blk_far ?_ NB364_356.out _; exact BK364.out⟩, ⟨by repeat (first | (with_reducible first | exact HK.out | refine Kept.setCell ?_ (.inr GW356.out) _ | refine Kept.setCell ?_ (.inr GW357.out) _ | refine Kept.setCell ?_ (.inr GW364.out) _) | exact HK.out)⟩, ⟨by repeat (first | (with_reducible first | exact HB.out | refine below_set ?_ GE356.out | refine below_set ?_ GE357.out | refine below_set ?_ GE364.out) | exact HB.out)⟩⟩
        case rest =>
         clear HC36
         try clear c1
         try clear c2
         try clear p2
         try clear c3
         try clear c4
         try clear c5
         try clear c6
         try clear c8
         try clear c9
         try clear c10
         try clear c13
         try clear c14
         try clear c16
         try clear c16b0
         try clear c16b1
         try clear c17
         try clear c18
         try clear c20
         try clear c21
         try clear c23
         try clear c24
         try clear c25
         try clear c26
         try clear c29
         try clear c29b0
         try clear c29b1
         try clear c30
         try clear c31
         try clear c33
         try clear c34
         try clear c37
         try clear c39
         try clear c40
         try clear c49
         try clear c50
         try clear c51
         try clear c52
         try clear c53
         try clear c54
         try clear c60
         try clear c60b0
         try clear c60b1
         try clear c65
         try clear c66
         try clear c84
         try clear c85
         try clear c100
         try clear hcz101_0
         try clear hcz101_1
         try clear hcz101_2
         try clear hcz101_3
         try clear hcz101_4
         try clear hcz101_5
         try clear hcz104_0
         try clear hcz104_1
         try clear hcz10_0
         try clear hcz10_1
         try clear hcz15_0
         try clear hcz15_1
         try clear hcz15_2
         try clear hcz15_3
         try clear hcz15_4
         try clear hcz15_5
         try clear hcz19_0
         try clear hcz19_1
         try clear hcz19_2
         try clear hcz19_3
         try clear hcz19_4
         try clear hcz19_5
         try clear hcz22_0
         try clear hcz22_1
         try clear hcz22_2
         try clear hcz22_3
         try clear hcz22_4
         try clear hcz22_5
         try clear hcz27_0
         try clear hcz27_1
         try clear hcz27_2
         try clear hcz27_3
         try clear hcz27_4
         try clear hcz27_5
         try clear hcz32_0
         try clear hcz32_1
         try clear hcz32_2
         try clear hcz32_3
         try clear hcz32_4
         try clear hcz32_5
         try clear hcz35_0
         try clear hcz35_1
         try clear hcz35_2
         try clear hcz35_3
         try clear hcz35_4
         try clear hcz35_5
         try clear hcz41_0
         try clear hcz41_1
         try clear hcz44_0
         try clear hcz44_1
         try clear hcz51_0
         try clear hcz51_1
         try clear hcz53_0
         try clear hcz53_1
         try clear hcz53_2
         try clear hcz53_3
         try clear hcz53_4
         try clear hcz53_5
         try clear hcz55_0
         try clear hcz55_1
         try clear hcz57_0
         try clear hcz57_1
         try clear hcz59_0
         try clear hcz59_1
         try clear hcz59_2
         try clear hcz59_3
         try clear hcz59_4
         try clear hcz59_5
         try clear hcz67_0
         try clear hcz67_1
         try clear hcz69_0
         try clear hcz69_1
         try clear hcz72_0
         try clear hcz72_1
         try clear hcz86_0
         try clear hcz86_1
         try clear hcz90_0
         try clear hcz90_1
         try clear hcz99_0
         try clear hcz99_1
         try clear hfz101_0
         try clear hfz101_1
         try clear hfz101_2
         try clear hfz101_3
         try clear hfz101_4
         try clear hfz101_5
         try clear hfz104_0
         try clear hfz104_1
         try clear hfz10_0
         try clear hfz10_1
         try clear hfz15_0
         try clear hfz15_1
         try clear hfz15_2
         try clear hfz15_3
         try clear hfz15_4
         try clear hfz15_5
         try clear hfz19_0
         try clear hfz19_1
         try clear hfz19_2
         try clear hfz19_3
         try clear hfz19_4
         try clear hfz19_5
         try clear hfz22_0
         try clear hfz22_1
         try clear hfz22_2
         try clear hfz22_3
         try clear hfz22_4
         try clear hfz22_5
         try clear hfz27_0
         try clear hfz27_1
         try clear hfz27_2
         try clear hfz27_3
         try clear hfz27_4
         try clear hfz27_5
         try clear hfz32_0
         try clear hfz32_1
         try clear hfz32_2
         try clear hfz32_3
         try clear hfz32_4
         try clear hfz32_5
         try clear hfz35_0
         try clear hfz35_1
         try clear hfz35_2
         try clear hfz35_3
         try clear hfz35_4
         try clear hfz35_5
         try clear hfz41_0
         try clear hfz41_1
         try clear hfz44_0
         try clear hfz44_1
         try clear hfz51_0
         try clear hfz51_1
         try clear hfz53_0
         try clear hfz53_1
         try clear hfz53_2
         try clear hfz53_3
         try clear hfz53_4
         try clear hfz53_5
         try clear hfz55_0
         try clear hfz55_1
         try clear hfz57_0
         try clear hfz57_1
         try clear hfz59_0
         try clear hfz59_1
         try clear hfz59_2
         try clear hfz59_3
         try clear hfz59_4
         try clear hfz59_5
         try clear hfz67_0
         try clear hfz67_1
         try clear hfz69_0
         try clear hfz69_1
         try clear hfz72_0
         try clear hfz72_1
         try clear hfz86_0
         try clear hfz86_1
         try clear hfz90_0
         try clear hfz90_1
         try clear hfz99_0
         try clear hfz99_1
         try clear p2
         obtain ⟨kq, x7_35, x8_35, x9_35, x357000_35, x357001_35, u357000, rfl, rfl, rfl, HA, HJ35, HO_357000, BK356, BK357, BK364, HK, HB⟩ := hcut
         cases kq with
         | zero => exact absurd HA.out (by simp [turnbuckleref11_Remove.j4])
         | succ kj35 =>
          have H := HA.out
          clear HA
          simp only [turnbuckleref11_Remove.j4] at H
          replace H := Option.bind_eq_some_iff.mp H
          obtain ⟨⟨t420, t423⟩, A1050, H⟩ := H
          replace H : (if x9_35 = true then (some (t420, t423, 0)) else ((turnbuckleref11_fix.f kj35 t420 t423 x7_35 x8_35).bind fun bt424 => (some (bt424.1, bt424.2, 0)))) = some (r1, r2, r3) := H
          have A105 := Aside0.mk A1050
          clear A1050
          by_cases c106 : x9_35 = true
          ·subst c106
           have H1 : (some (t420, t423, 0)) = some (r1, r2, r3) := by rw [if_pos rfl] at H; exact H
           clear H
           have H := H1
           clear H1
           simp only [Option.some.injEq, Prod.mk.injEq] at H
           obtain ⟨rfl, rfl, rfl⟩ := H
           have hnb107 := NB356_357.out
           have hnc107 := NB357_356.out
           have hnb108 := NB356_364.out
           have hnc108 := NB364_356.out
           have hcz109_0 : wc.cell? ⟨gb356, 0, none⟩ = some (u357000) := (blk_cell BK356.out 0).trans rfl
           have hcz109_1 : wc.cell? ⟨gb356, 1, none⟩ = some (.int .i64 x357001_35) := (blk_cell BK356.out 1).trans rfl
           have hfz109_0 := blk_frozen BK356.out 0
           have hfz109_1 := blk_frozen BK356.out 1
           have hnb110 := NB364_357.out
           have hnc110 := NB357_364.out
           have hcz111_0 : wc.cell? ⟨gb364, 0, none⟩ = some (.int .u64 t358) := (blk_cell BK364.out 0).trans rfl
           have hcz111_1 : wc.cell? ⟨gb364, 1, none⟩ = some (.int .i64 t359) := (blk_cell BK364.out 1).trans rfl
           have hcz111_2 : wc.cell? ⟨gb364, 2, none⟩ = some (.int .i64 t360) := (blk_cell BK364.out 2).trans rfl
           have hcz111_3 : wc.cell? ⟨gb364, 3, none⟩ = some (.int .i64 t361) := (blk_cell BK364.out 3).trans rfl
           have hcz111_4 : wc.cell? ⟨gb364, 4, none⟩ = some (.bool true) := (blk_cell BK364.out 4).trans rfl
           have hcz111_5 : wc.cell? ⟨gb364, 5, none⟩ = some (.bool t363) := (blk_cell BK364.out 5).trans rfl
           have hfz111_0 := blk_frozen BK364.out 0
           have hfz111_1 := blk_frozen BK364.out 1
           have hfz111_2 := blk_frozen BK364.out 2
           have hfz111_3 := blk_frozen BK364.out 3
           have hfz111_4 := blk_frozen BK364.out 4
           have hfz111_5 := blk_frozen BK364.out 5
           obtain ⟨Ao112, co112, eo112⟩ := Kd.R_slice HO_357000.out
           subst eo112
           go_wp2_with (first | ((with_reducible refine gate_callee (f := 55) rfl ?_); refine goesL_ (some 99) rfl rfl Try.func55 (by kernel_rfl) rfl #[.agg #[.slice Ao112 x357000_35.length co112, .int .i64 x357001_35], .int .i64 a1, .agg #[.int .u64 t358, .int .i64 0, .int .i64 0, .int .i64 0, .bool false, .bool false]] rfl (by (try simp only [List.map_toArray, List.map_cons, List.map_nil]); try rfl) ?_; (with_reducible refine (turnbuckleref11_With.calls (fun k_ => some k_ = (.slice Ao112 x357000_35.length co112 : Value).ownBlock) (.slice Ao112 x357000_35.length co112) x357000_35 x357001_35 a1 t358 0 0 0 false false t420 t423 w0 _ ?side1 ?side2 A105.out).mono ?_); (case side1 => repeat (first | (with_reducible first | exact HB.out | refine below_set ?_ GE356.out | refine below_set ?_ GE357.out | refine below_set ?_ GE364.out) | exact HB.out)); (case side2 => exact Kd.R_tight rfl HO_357000.out); rintro e w113 ⟨v421, rfl, ho0, hb, hkp⟩; refine ⟨_, rfl, ?_⟩; have HO422 := Aside0.mk (Kd.R_mono (ok' := fun k_ => (P0_0_ k_ ∨ w.heap.size ≤ k_) ∧ k_ ≠ gb364) ho0 (fun k_ hk_ => ⟨Or.elim hk_ (fun hs_ => (HO_357000.out.1 k_ (hs_).symm).1) (fun hn_ => (.inr (Nat.le_trans HK.out.1 hn_))), Or.elim hk_ (fun hs_ => fun e_ => (Kd.R_away HO_357000.out (fun _ hk => hk.2)) (by rw [← e_]; exact hs_)) (fun hn_ => (Kd.freshB BK364.out k_ hn_))⟩)); replace BK356 := Aside0.mk (blk_kept BK356.out hkp (fun hs_ => (fun e_ => (Kd.R_ne HO_357000.out BK356.out (by decide)) e_) hs_)); replace BK357 := Aside0.mk (blk_kept BK357.out hkp (fun hs_ => (fun e_ => (Kd.R_ne HO_357000.out BK357.out (by decide)) e_) hs_)); replace BK364 := Aside0.mk (blk_kept BK364.out hkp (fun hs_ => (fun e_ => (Kd.R_away HO_357000.out (fun _ hk => hk.2)) e_) hs_)); replace HK := Aside0.mk (Kept.then_ (S := (fun k_ => P0_0_ k_)) HK.out hkp (fun k_ hs_ => (fun e_ => (HO_357000.out.1 k_ e_.symm).1) hs_)); replace HB := Aside0.mk (hb); clear HO_357000; (try clear hb); (try clear hkp); (try clear ho0); obtain ⟨Ao114, co114, eo114⟩ := Kd.R_slice HO422.out; subst eo114; have hcz115_0 : w113.cell? ⟨gb356, 0, none⟩ = some (.slice Ao112 x357000_35.length co112) := (blk_cell BK356.out 0).trans rfl; have hcz115_1 : w113.cell? ⟨gb356, 1, none⟩ = some (.int .i64 x357001_35) := (blk_cell BK356.out 1).trans rfl; have hfz115_0 := blk_frozen BK356.out 0; have hfz115_1 := blk_frozen BK356.out 1; have hcz116_0 : w113.cell? ⟨gb357, 0, none⟩ = some (.slice none 0 0) := (blk_cell BK357.out 0).trans rfl; have hcz116_1 : w113.cell? ⟨gb357, 1, none⟩ = some (.int .i64 0) := (blk_cell BK357.out 1).trans rfl; have hfz116_0 := blk_frozen BK357.out 0; have hfz116_1 := blk_frozen BK357.out 1))
           refine bodyPost_ret (results_ct rfl _ _ gb357 49 #[.slice Ao114 t420.length co114, .int .i64 t423] (0, 0) _ rfl (by refine blk_put (cs := #[.slice Ao114 t420.length co114, .int .i64 0]) ?_ 1 _ rfl; refine blk_put (cs := #[.slice none 0 0, .int .i64 0]) ?_ 0 _ rfl; refine blk_far ?_ NB357_356.out _; refine blk_far ?_ NB357_356.out _; exact BK357.out) Try.underlying49 rfl (by kernel_rfl)) rfl ?_
           exact ⟨_, by first | rfl | (simp [errW_none, errW_some] <;> rfl) | (simp [*, errW_none, errW_some] <;> rfl), by exact Kd.R_mono (Kd.R_far (p := ⟨gb357, 1, none⟩) (Kd.R_far (p := ⟨gb357, 0, none⟩) (Kd.R_far (p := ⟨gb356, 1, none⟩) (Kd.R_far (p := ⟨gb356, 0, none⟩) (Kd.R_types (Kd.R_types HO422.out BK356.out (by decide)) BK357.out (by decide)) (fun _ hk => hk.1.2) (.slice Ao114 t420.length co114)) (fun _ hk => hk.1.2) (.int .i64 t423)) (fun _ hk => hk.2) (.slice Ao114 t420.length co114)) (fun _ hk => hk.2) (.int .i64 t423)) (fun _ hk => hk.1.1.1), by repeat (first | (with_reducible first | exact HB.out | refine below_set ?_ GE356.out | refine below_set ?_ GE357.out | refine below_set ?_ GE364.out) | exact HB.out), by repeat (first | (with_reducible first | exact HK.out | refine Kept.setCell ?_ (.inr GW356.out) _ | refine Kept.setCell ?_ (.inr GW357.out) _ | refine Kept.setCell ?_ (.inr GW364.out) _) | exact HK.out)⟩
          ·replace c106 := Bool.eq_false_iff.mpr c106
           subst c106
           have H1 : ((turnbuckleref11_fix.f kj35 t420 t423 x7_35 x8_35).bind fun bt424 => (some (bt424.1, bt424.2, 0))) = some (r1, r2, r3) := by rw [if_neg (show ¬ (false = true) by decide)] at H; exact H
           clear H
           have H := H1
           clear H1
           replace H := Option.bind_eq_some_iff.mp H
           obtain ⟨⟨t424, t427⟩, A1170, H⟩ := H
           replace H : (some (t424, t427, 0)) = some (r1, r2, r3) := H
           have A117 := Aside0.mk A1170
           clear A1170
           simp only [Option.some.injEq, Prod.mk.injEq] at H
           obtain ⟨rfl, rfl, rfl⟩ := H
           have hnb118 := NB356_357.out
           have hnc118 := NB357_356.out
           have hnb119 := NB356_364.out
           have hnc119 := NB364_356.out
           have hcz120_0 : wc.cell? ⟨gb356, 0, none⟩ = some (u357000) := (blk_cell BK356.out 0).trans rfl
           have hcz120_1 : wc.cell? ⟨gb356, 1, none⟩ = some (.int .i64 x357001_35) := (blk_cell BK356.out 1).trans rfl
           have hfz120_0 := blk_frozen BK356.out 0
           have hfz120_1 := blk_frozen BK356.out 1
           have hnb121 := NB364_357.out
           have hnc121 := NB357_364.out
           have hcz122_0 : wc.cell? ⟨gb364, 0, none⟩ = some (.int .u64 t358) := (blk_cell BK364.out 0).trans rfl
           have hcz122_1 : wc.cell? ⟨gb364, 1, none⟩ = some (.int .i64 t359) := (blk_cell BK364.out 1).trans rfl
           have hcz122_2 : wc.cell? ⟨gb364, 2, none⟩ = some (.int .i64 t360) := (blk_cell BK364.out 2).trans rfl
           have hcz122_3 : wc.cell? ⟨gb364, 3, none⟩ = some (.int .i64 t361) := (blk_cell BK364.out 3).trans rfl
           have hcz122_4 : wc.cell? ⟨gb364, 4, none⟩ = some (.bool true) := (blk_cell BK364.out 4).trans rfl
           have hcz122_5 : wc.cell? ⟨gb364, 5, none⟩ = some (.bool t363) := (blk_cell BK364.out 5).trans rfl
           have hfz122_0 := blk_frozen BK364.out 0
           have hfz122_1 := blk_frozen BK364.out 1
           have hfz122_2 := blk_frozen BK364.out 2
           have hfz122_3 := blk_frozen BK364.out 3
           have hfz122_4 := blk_frozen BK364.out 4
           have hfz122_5 := blk_frozen BK364.out 5
           obtain ⟨Ao123, co123, eo123⟩ := Kd.R_slice HO_357000.out
           subst eo123
           go_wp2_with (first | ((with_reducible refine gate_callee (f := 55) rfl ?_); refine goesL_ (some 99) rfl rfl Try.func55 (by kernel_rfl) rfl #[.agg #[.slice Ao123 x357000_35.length co123, .int .i64 x357001_35], .int .i64 a1, .agg #[.int .u64 t358, .int .i64 0, .int .i64 0, .int .i64 0, .bool false, .bool false]] rfl (by (try simp only [List.map_toArray, List.map_cons, List.map_nil]); try rfl) ?_; (with_reducible refine (turnbuckleref11_With.calls (fun k_ => some k_ = (.slice Ao123 x357000_35.length co123 : Value).ownBlock) (.slice Ao123 x357000_35.length co123) x357000_35 x357001_35 a1 t358 0 0 0 false false t420 t423 w0 _ ?side1 ?side2 A105.out).mono ?_); (case side1 => repeat (first | (with_reducible first | exact HB.out | refine below_set ?_ GE356.out | refine below_set ?_ GE357.out | refine below_set ?_ GE364.out) | exact HB.out)); (case side2 => exact Kd.R_tight rfl HO_357000.out); rintro e w124 ⟨v421, rfl, ho0, hb, hkp⟩; refine ⟨_, rfl, ?_⟩; have HO422 := Aside0.mk (Kd.R_mono (ok' := fun k_ => (P0_0_ k_ ∨ w.heap.size ≤ k_) ∧ k_ ≠ gb364) ho0 (fun k_ hk_ => ⟨Or.elim hk_ (fun hs_ => (HO_357000.out.1 k_ (hs_).symm).1) (fun hn_ => (.inr (Nat.le_trans HK.out.1 hn_))), Or.elim hk_ (fun hs_ => fun e_ => (Kd.R_away HO_357000.out (fun _ hk => hk.2)) (by rw [← e_]; exact hs_)) (fun hn_ => (Kd.freshB BK364.out k_ hn_))⟩)); replace BK356 := Aside0.mk (blk_kept BK356.out hkp (fun hs_ => (fun e_ => (Kd.R_ne HO_357000.out BK356.out (by decide)) e_) hs_)); replace BK357 := Aside0.mk (blk_kept BK357.out hkp (fun hs_ => (fun e_ => (Kd.R_ne HO_357000.out BK357.out (by decide)) e_) hs_)); replace BK364 := Aside0.mk (blk_kept BK364.out hkp (fun hs_ => (fun e_ => (Kd.R_away HO_357000.out (fun _ hk => hk.2)) e_) hs_)); replace HK := Aside0.mk (Kept.then_ (S := (fun k_ => P0_0_ k_)) HK.out hkp (fun k_ hs_ => (fun e_ => (HO_357000.out.1 k_ e_.symm).1) hs_)); replace HB := Aside0.mk (hb); clear HO_357000; (try clear hb); (try clear hkp); (try clear ho0); obtain ⟨Ao125, co125, eo125⟩ := Kd.R_slice HO422.out; subst eo125; have hcz126_0 : w124.cell? ⟨gb356, 0, none⟩ = some (.slice Ao123 x357000_35.length co123) := (blk_cell BK356.out 0).trans rfl; have hcz126_1 : w124.cell? ⟨gb356, 1, none⟩ = some (.int .i64 x357001_35) := (blk_cell BK356.out 1).trans rfl; have hfz126_0 := blk_frozen BK356.out 0; have hfz126_1 := blk_frozen BK356.out 1) | ((with_reducible refine gate_store (t := 49) (p := 2) rfl ?_); refine store_event (t := 49) (p := 2) (v := ?vo_w127) (w1 := ((w124.setCell ⟨gb356, 0, none⟩ (.slice Ao125 t420.length co125)).setCell ⟨gb356, 1, none⟩ (.int .i64 t423))) ?hg ?ho ?hn ?hr ?_; (case ho => rfl); (case hg => rfl); (case hn => rfl); (case hr => first | (go_simp; done) | (go_simp; rfl)); intro w127 hw; replace HO422 : Aside0 (Kd.R k80 80 w127 w0.heap.size (fun k_ => (P0_0_ k_ ∨ w.heap.size ≤ k_) ∧ k_ ≠ gb364) (.slice Ao125 t420.length co125) t420) := ⟨(by rw [hw]; exact (by exact Kd.R_mono (Kd.R_far (p := ⟨gb356, 1, none⟩) (Kd.R_far (p := ⟨gb356, 0, none⟩) (Kd.R_types HO422.out BK356.out (by decide)) (fun _ hk => hk.2) (.slice Ao125 t420.length co125)) (fun _ hk => hk.2) (.int .i64 t423)) (fun _ hk => ⟨hk.1.1, hk.1.2⟩)))⟩; replace BK356 : Aside0 (w127.heap[gb356]? = some (.cells #[.slice Ao125 t420.length co125, .int .i64 t423] 49 (0, 0))) := ⟨(by rw [hw]; exact (by refine blk_put (cs := #[.slice Ao125 t420.length co125, .int .i64 x357001_35]) ?_ 1 _ rfl; refine blk_put (cs := #[.slice Ao123 x357000_35.length co123, .int .i64 x357001_35]) ?_ 0 _ rfl; exact BK356.out))⟩; replace BK357 : Aside0 (w127.heap[gb357]? = some (.cells #[.slice none 0 0, .int .i64 0] 49 (0, 0))) := ⟨(by rw [hw]; exact (by refine blk_far ?_ NB357_356.out _; refine blk_far ?_ NB357_356.out _; exact BK357.out))⟩; replace BK364 : Aside0 (w127.heap[gb364]? = some (.cells #[.int .u64 t358, .int .i64 t359, .int .i64 t360, .int .i64 t361, .bool true, .bool t363] 80 (0, 0))) := ⟨(by rw [hw]; exact (by refine blk_far ?_ NB364_356.out _; refine blk_far ?_ NB364_356.out _; exact BK364.out))⟩; replace HK : Aside0 (Kept w w127 (fun k_ => P0_0_ k_)) := ⟨(by rw [hw]; repeat (with_reducible first | exact HK.out | refine Kept.setCell ?_ (.inr GW356.out) _ | refine Kept.setCell ?_ (.inr GW357.out) _ | refine Kept.setCell ?_ (.inr GW364.out) _))⟩; replace HB : Aside0 (Below w0.heap.size w0 w127) := ⟨(by rw [hw]; repeat (with_reducible first | exact HB.out | refine below_set ?_ GE356.out | refine below_set ?_ GE357.out | refine below_set ?_ GE364.out))⟩; clear hw; have hcz128_0 : w127.cell? ⟨gb356, 0, none⟩ = some (.slice Ao125 t420.length co125) := (blk_cell BK356.out 0).trans rfl; have hcz128_1 : w127.cell? ⟨gb356, 1, none⟩ = some (.int .i64 t423) := (blk_cell BK356.out 1).trans rfl; have hfz128_0 := blk_frozen BK356.out 0; have hfz128_1 := blk_frozen BK356.out 1) | ((with_reducible refine gate_callee (f := 56) rfl ?_); refine goesL_ (some 105) rfl rfl Try.func56 (by kernel_rfl) rfl #[.agg #[.slice Ao125 t420.length co125, .int .i64 t423], .int .i64 x7_35, .int .i64 x8_35] rfl (by (try simp only [List.map_toArray, List.map_cons, List.map_nil]); try rfl) ?_; (with_reducible refine (turnbuckleref11_fix.calls kj35 (fun k_ => some k_ = (.slice Ao125 t420.length co125 : Value).ownBlock) (.slice Ao125 t420.length co125) t420 t423 x7_35 x8_35 t424 t427 w0 _ ?side1 ?side2 A117.out).mono ?_); (case side1 => repeat (first | (with_reducible first | exact HB.out | refine below_set ?_ GE356.out | refine below_set ?_ GE357.out | refine below_set ?_ GE364.out) | exact HB.out)); (case side2 => exact Kd.R_tight rfl HO422.out); rintro e w129 ⟨v425, rfl, ho0, hb, hkp⟩; refine ⟨_, rfl, ?_⟩; have HO426 := Aside0.mk (Kd.R_mono (ok' := fun k_ => (P0_0_ k_ ∨ w.heap.size ≤ k_) ∧ k_ ≠ gb364) ho0 (fun k_ hk_ => ⟨Or.elim hk_ (fun hs_ => (HO422.out.1 k_ (hs_).symm).1) (fun hn_ => (.inr (Nat.le_trans HK.out.1 hn_))), Or.elim hk_ (fun hs_ => fun e_ => (Kd.R_away HO422.out (fun _ hk => hk.2)) (by rw [← e_]; exact hs_)) (fun hn_ => (Kd.freshB BK364.out k_ hn_))⟩)); replace BK356 := Aside0.mk (blk_kept BK356.out hkp (fun hs_ => (fun e_ => (Kd.R_ne HO422.out BK356.out (by decide)) e_) hs_)); replace BK357 := Aside0.mk (blk_kept BK357.out hkp (fun hs_ => (fun e_ => (Kd.R_ne HO422.out BK357.out (by decide)) e_) hs_)); replace BK364 := Aside0.mk (blk_kept BK364.out hkp (fun hs_ => (fun e_ => (Kd.R_away HO422.out (fun _ hk => hk.2)) e_) hs_)); replace HK := Aside0.mk (Kept.then_ (S := (fun k_ => P0_0_ k_)) HK.out hkp (fun k_ hs_ => (fun e_ => (HO422.out.1 k_ e_.symm).1) hs_)); replace HB := Aside0.mk (hb); clear HO422; (try clear hb); (try clear hkp); (try clear ho0); obtain ⟨Ao130, co130, eo130⟩ := Kd.R_slice HO426.out; subst eo130; have hcz131_0 : w129.cell? ⟨gb357, 0, none⟩ = some (.slice none 0 0) := (blk_cell BK357.out 0).trans rfl; have hcz131_1 : w129.cell? ⟨gb357, 1, none⟩ = some (.int .i64 0) := (blk_cell BK357.out 1).trans rfl; have hfz131_0 := blk_frozen BK357.out 0; have hfz131_1 := blk_frozen BK357.out 1))
           refine bodyPost_ret (results_ct rfl _ _ gb357 49 #[.slice Ao130 t424.length co130, .int .i64 t427] (0, 0) _ rfl (by refine blk_put (cs := #[.slice Ao130 t424.length co130, .int .i64 0]) ?_ 1 _ rfl; refine blk_put (cs := #[.slice none 0 0, .int .i64 0]) ?_ 0 _ rfl; exact BK357.out) Try.underlying49 rfl (by kernel_rfl)) rfl ?_
           exact ⟨_, by first | rfl | (simp [errW_none, errW_some] <;> rfl) | (simp [*, errW_none, errW_some] <;> rfl), by exact Kd.R_mono (Kd.R_far (p := ⟨gb357, 1, none⟩) (Kd.R_far (p := ⟨gb357, 0, none⟩) (Kd.R_types HO426.out BK357.out (by decide)) (fun _ hk => hk.2) (.slice Ao130 t424.length co130)) (fun _ hk => hk.2) (.int .i64 t427)) (fun _ hk => hk.1.1), by repeat (first | (with_reducible first | exact HB.out | refine below_set ?_ GE356.out | refine below_set ?_ GE357.out | refine below_set ?_ GE364.out) | exact HB.out), by repeat (first | (with_reducible first | exact HK.out | refine Kept.setCell ?_ (.inr GW356.out) _ | refine Kept.setCell ?_ (.inr GW357.out) _ | refine Kept.setCell ?_ (.inr GW364.out) _) | exact HK.out)⟩
 ·replace c4 := Bool.eq_false_iff.mpr c4
  subst c4
  have H1 : (some (l0_0, a0_1, 8)) = some (r1, r2, r3) := by rw [if_neg (show ¬ (false = true) by decide)] at H; exact H
  clear H
  have H := H1
  clear H1
  simp only [Option.some.injEq, Prod.mk.injEq] at H
  obtain ⟨rfl, rfl, rfl⟩ := H
  obtain ⟨Ao132, co132, eo132⟩ := Kd.R_slice HO0_0.out
  subst eo132
  go_enter Try.func23, Try.ntmps23
  go_wp2_with (first | ((with_reducible refine gate_dst (N := 2) rfl ?_); refine box_event ?hg (N := 2) ?hd (cs := #[.slice Ao132 l0_0.length co132, .int .i64 a0_1]) (t := 49) ?hr ?_; (case hd => rfl); (case hg => rfl); (case hr => first | (go_simp; done) | (go_simp; rfl)); intro gb356 hg w133 hbox hb; have BK356 := Aside0.mk (hbox); have GW356 := Aside0.mk ((by rw [hg]; exact HK.out.1 : w.heap.size ≤ gb356)); have GE356 := Aside0.mk ((by rw [hg]; exact (below_size HB.out) : w0.heap.size ≤ gb356)); replace HO0_0 := Aside0.mk (Kd.R_below HO0_0.out hb); replace HK := Aside0.mk (Kept.below (S := (fun k_ => P0_0_ k_)) HK.out hb); replace HB := Aside0.mk (below_step HB.out hb); clear hb hbox hg) | ((with_reducible refine gate_dst (N := 4) rfl ?_); refine box_event ?hg (N := 4) ?hd (cs := #[.slice none 0 0, .int .i64 0]) (t := 49) ?hr ?_; (case hd => rfl); (case hg => rfl); (case hr => first | (go_simp; done) | (go_simp; rfl)); intro gb357 hg w134 hbox hb; have BK357 := Aside0.mk (hbox); have GW357 := Aside0.mk ((by rw [hg]; exact HK.out.1 : w.heap.size ≤ gb357)); have GE357 := Aside0.mk ((by rw [hg]; exact (below_size HB.out) : w0.heap.size ≤ gb357)); have NB356_357 := Aside0.mk ((by rw [hg]; exact Nat.ne_of_lt (blk_lt BK356.out) : gb356 ≠ gb357)); have NB357_356 := Aside0.mk ((by rw [hg]; exact Nat.ne_of_gt (blk_lt BK356.out) : gb357 ≠ gb356)); replace HO0_0 := Aside0.mk (Kd.R_below HO0_0.out hb); replace BK356 := Aside0.mk (blk_below BK356.out hb); replace HK := Aside0.mk (Kept.below (S := (fun k_ => P0_0_ k_)) HK.out hb); replace HB := Aside0.mk (below_step HB.out hb); clear hb hbox hg; have hnb135 := NB356_357.out; have hnc135 := NB357_356.out; have hcz136_0 : w134.cell? ⟨gb356, 0, none⟩ = some (.slice Ao132 l0_0.length co132) := (blk_cell BK356.out 0).trans rfl; have hcz136_1 : w134.cell? ⟨gb356, 1, none⟩ = some (.int .i64 a0_1) := (blk_cell BK356.out 1).trans rfl; have hfz136_0 := blk_frozen BK356.out 0; have hfz136_1 := blk_frozen BK356.out 1) | ((with_reducible refine gate_callee (f := 51) rfl ?_); refine goesL_ (some 13) rfl rfl Try.func51 (by kernel_rfl) rfl #[.agg #[.slice Ao132 l0_0.length co132, .int .i64 a0_1], .int .i64 a1] rfl (by (try simp only [List.map_toArray, List.map_cons, List.map_nil]); try rfl) ?_; (with_reducible refine (turnbuckleref11_Of.calls _ _ l0_0 a0_1 a1 t358 t359 t360 t361 false t363 _ ?side1 ?side2 A3.out).mono ?_); (case side1 => repeat (first | exact (Kd.R_reads' HO0_0.out).2.2 | (with_reducible refine Kd.C_alloc ?_ _) | (with_reducible refine Kd.C_drewN ?_ _) | (with_reducible refine Kd.C_drew ?_))); (case side2 => exact (Kd.R_reads' HO0_0.out).2.1); rintro e w137 ⟨rfl, hb⟩; refine ⟨_, rfl, ?_⟩; replace HO0_0 := Aside0.mk (Kd.R_below HO0_0.out hb); replace BK356 := Aside0.mk (blk_below BK356.out hb); replace BK357 := Aside0.mk (blk_below BK357.out hb); replace HK := Aside0.mk (Kept.below (S := (fun k_ => P0_0_ k_)) HK.out hb); replace HB := Aside0.mk (below_step HB.out hb); (try clear hb); (try clear hb2); (try clear hk); (try clear hi)) | ((with_reducible refine gate_dst (N := 6) rfl ?_); refine box_event ?hg (N := 6) ?hd (cs := #[.int .u64 0, .int .i64 0, .int .i64 0, .int .i64 0, .bool false, .bool false]) (t := 80) ?hr ?_; (case hd => rfl); (case hg => rfl); (case hr => first | (go_simp; done) | (go_simp; rfl)); intro gb364 hg w138 hbox hb; have BK364 := Aside0.mk (hbox); have GW364 := Aside0.mk ((by rw [hg]; exact HK.out.1 : w.heap.size ≤ gb364)); have GE364 := Aside0.mk ((by rw [hg]; exact (below_size HB.out) : w0.heap.size ≤ gb364)); have NB356_364 := Aside0.mk ((by rw [hg]; exact Nat.ne_of_lt (blk_lt BK356.out) : gb356 ≠ gb364)); have NB364_356 := Aside0.mk ((by rw [hg]; exact Nat.ne_of_gt (blk_lt BK356.out) : gb364 ≠ gb356)); have NB357_364 := Aside0.mk ((by rw [hg]; exact Nat.ne_of_lt (blk_lt BK357.out) : gb357 ≠ gb364)); have NB364_357 := Aside0.mk ((by rw [hg]; exact Nat.ne_of_gt (blk_lt BK357.out) : gb364 ≠ gb357)); replace HO0_0 := Aside0.mk (Kd.R_below (Kd.R_elderB HO0_0.out gb364 (Nat.le_of_eq hg.symm)) hb); replace BK356 := Aside0.mk (blk_below BK356.out hb); replace BK357 := Aside0.mk (blk_below BK357.out hb); replace HK := Aside0.mk (Kept.below (S := (fun k_ => P0_0_ k_)) HK.out hb); replace HB := Aside0.mk (below_step HB.out hb); clear hb hbox hg; have hnb139 := NB364_356.out; have hnc139 := NB356_364.out; have hnb140 := NB364_357.out; have hnc140 := NB357_364.out; have hcz141_0 : w138.cell? ⟨gb364, 0, none⟩ = some (.int .u64 0) := (blk_cell BK364.out 0).trans rfl; have hcz141_1 : w138.cell? ⟨gb364, 1, none⟩ = some (.int .i64 0) := (blk_cell BK364.out 1).trans rfl; have hcz141_2 : w138.cell? ⟨gb364, 2, none⟩ = some (.int .i64 0) := (blk_cell BK364.out 2).trans rfl; have hcz141_3 : w138.cell? ⟨gb364, 3, none⟩ = some (.int .i64 0) := (blk_cell BK364.out 3).trans rfl; have hcz141_4 : w138.cell? ⟨gb364, 4, none⟩ = some (.bool false) := (blk_cell BK364.out 4).trans rfl; have hcz141_5 : w138.cell? ⟨gb364, 5, none⟩ = some (.bool false) := (blk_cell BK364.out 5).trans rfl; have hfz141_0 := blk_frozen BK364.out 0; have hfz141_1 := blk_frozen BK364.out 1; have hfz141_2 := blk_frozen BK364.out 2; have hfz141_3 := blk_frozen BK364.out 3; have hfz141_4 := blk_frozen BK364.out 4; have hfz141_5 := blk_frozen BK364.out 5; have hcz142_0 : w138.cell? ⟨gb356, 0, none⟩ = some (.slice Ao132 l0_0.length co132) := (blk_cell BK356.out 0).trans rfl; have hcz142_1 : w138.cell? ⟨gb356, 1, none⟩ = some (.int .i64 a0_1) := (blk_cell BK356.out 1).trans rfl; have hfz142_0 := blk_frozen BK356.out 0; have hfz142_1 := blk_frozen BK356.out 1; have hcz143_0 : w138.cell? ⟨gb357, 0, none⟩ = some (.slice none 0 0) := (blk_cell BK357.out 0).trans rfl; have hcz143_1 : w138.cell? ⟨gb357, 1, none⟩ = some (.int .i64 0) := (blk_cell BK357.out 1).trans rfl; have hfz143_0 := blk_frozen BK357.out 0; have hfz143_1 := blk_frozen BK357.out 1))
  refine bodyPost_ret (results_ct rfl _ _ gb357 49 #[.slice Ao132 l0_0.length co132, .int .i64 a0_1] (0, 0) _ rfl (by refine blk_put (cs := #[.slice Ao132 l0_0.length co132, .int .i64 0]) ?_ 1 _ rfl; refine blk_put (cs := #[.slice none 0 0, .int .i64 0]) ?_ 0 _ rfl; refine blk_far ?_ NB357_364.out _; refine blk_far ?_ NB357_364.out _; refine blk_far ?_ NB357_364.out _; refine blk_far ?_ NB357_364.out _; refine blk_far ?_ NB357_364.out _; refine blk_far ?_ NB357_364.out _; exact BK357.out) Try.underlying49 rfl (by kernel_rfl)) rfl ?_
  exact ⟨_, by first | rfl | (simp [errW_none, errW_some] <;> rfl) | (simp [*, errW_none, errW_some] <;> rfl), by exact Kd.R_mono (Kd.R_far (p := ⟨gb357, 1, none⟩) (Kd.R_far (p := ⟨gb357, 0, none⟩) (Kd.R_far (p := ⟨gb364, 5, none⟩) (Kd.R_far (p := ⟨gb364, 4, none⟩) (Kd.R_far (p := ⟨gb364, 3, none⟩) (Kd.R_far (p := ⟨gb364, 2, none⟩) (Kd.R_far (p := ⟨gb364, 1, none⟩) (Kd.R_far (p := ⟨gb364, 0, none⟩) (Kd.R_types (Kd.R_mono HO0_0.out (fun k_ hk => (⟨hk, hk.2⟩ : _ ∧ k_ ≠ gb364))) BK357.out (by decide)) (fun _ hk => hk.1.2) (.int .u64 t358)) (fun _ hk => hk.1.2) (.int .i64 t359)) (fun _ hk => hk.1.2) (.int .i64 t360)) (fun _ hk => hk.1.2) (.int .i64 t361)) (fun _ hk => hk.1.2) (.bool false)) (fun _ hk => hk.1.2) (.bool t363)) (fun _ hk => hk.2) (.slice Ao132 l0_0.length co132)) (fun _ hk => hk.2) (.int .i64 a0_1)) (fun _ hk => hk.1.1.1), by repeat (first | (with_reducible first | exact HB.out | refine below_set ?_ GE356.out | refine below_set ?_ GE357.out | refine below_set ?_ GE364.out) | exact HB.out), by repeat (first | (with_reducible first | exact HK.out | refine Kept.setCell ?_ (.inr GW356.out) _ | refine Kept.setCell ?_ (.inr GW357.out) _ | refine Kept.setCell ?_ (.inr GW364.out) _) | exact HK.out)⟩
end Go.Proofs.Ythkppnkhiimaeaa.PTreePlays
