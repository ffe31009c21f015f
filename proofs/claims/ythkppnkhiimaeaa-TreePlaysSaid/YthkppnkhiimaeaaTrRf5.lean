/- Lemmas of the claim TreePlays. -/
import Derived.Test.YthkppnkhiimaeaaTrRf0
import Derived.Test.YthkppnkhiimaeaaTrRf1
import Derived.Test.YthkppnkhiimaeaaTrRf2
/- The reference of layer 11 (began as a printed text, which falls). -/
namespace Go.Proofs.Ythkppnkhiimaeaa.PTreePlays
open Go.RowKit Go.Proofs.YthkppnkhiimaeaaW.PrintWords Go.Proofs.YthkppnkhiimaeaaW.PrintLast Go.Proofs.YthkppnkhiimaeaaW.PrintMore
attribute [local go_sem] fld80_0 fld80_1 fld80_2 fld80_3 fld80_4 fld80_5 max2_int min2_int max_two min_two max_three min_three max_four min_four   -- for this text's walks alone
set_option linter.unusedVariables false
set_option linter.unusedSimpArgs false
/-! ### turnbuckleref11_Add: function 24 -/
mutual
def turnbuckleref11_Add.l0 : Nat → Int → Int → Bool → Int → List (S80) → Int → Int → Int → Int → Int → Bool → Bool → Option ((List (S80)) × Int × Int)
 | 0, _, _, _, _, _, _, _, _, _, _, _, _ => none
 | k + 1, x1, x7, x8, x9, x429000, x429001, x437000, x437001, x437002, x437003, x437004, x437005 => if x9 = 0 then ((turnbuckleref11_With.f x429000 x429001 x1 x437000 0 0 0 true true).bind fun bt444 => ((turnbuckleref11_join.f bt444.1 bt444.2 x7 x8 x1).bind fun bt448 => (turnbuckleref11_Add.l1 k x1 bt448.1 bt448.2))) else ((turnbuckleref11_Of.f x429000 x429001 x9).bind fun bt437 => ((turnbuckleref11_Child.f x429000 x429001 x9 (decide (x437000 ≥ bt437.1))).bind fun t443 => (turnbuckleref11_Add.l0 k x1 x9 (decide (x437000 ≥ bt437.1)) t443 x429000 x429001 x437000 x437001 x437002 x437003 x437004 x437005)))
def turnbuckleref11_Add.l1 : Nat → Int → List (S80) → Int → Option ((List (S80)) × Int × Int)
 | 0, _, _, _ => none
 | k + 1, x1, x429000, x429001 => (turnbuckleref11_Of.f x429000 x429001 x1).bind fun bt452 => ((turnbuckleref11_Of.f x429000 x429001 bt452.2.2.2.1).bind fun bt458 => (if bt458.2.2.2.2.2 = true then ((turnbuckleref11_Of.f x429000 x429001 x1).bind fun bt468 => ((turnbuckleref11_Of.f x429000 x429001 bt468.2.2.2.1).bind fun bt474 => ((turnbuckleref11_onRight.f x429000 x429001 bt474.2.2.2.1 bt468.2.2.2.1).bind fun t480 => ((turnbuckleref11_Child.f x429000 x429001 bt474.2.2.2.1 (!t480)).bind fun t481 => ((turnbuckleref11_Of.f x429000 x429001 t481).bind fun bt482 => (if bt482.2.2.2.2.2 = true then ((turnbuckleref11_paint.f x429000 x429001 bt468.2.2.2.1 false).bind fun bt488 => ((turnbuckleref11_paint.f bt488.1 bt488.2 t481 false).bind fun bt492 => ((turnbuckleref11_paint.f bt492.1 bt492.2 bt474.2.2.2.1 true).bind fun bt496 => (turnbuckleref11_Add.l1 k bt474.2.2.2.1 bt496.1 bt496.2)))) else ((turnbuckleref11_onRight.f x429000 x429001 bt468.2.2.2.1 x1).bind fun t500 => (if (t500 != t480) = true then ((turnbuckleref11_turn.f x429000 x429001 bt468.2.2.2.1 t480).bind fun bt501 => ((turnbuckleref11_paint.f bt501.1 bt501.2 x1 false).bind fun bt505 => ((turnbuckleref11_paint.f bt505.1 bt505.2 bt474.2.2.2.1 true).bind fun bt509 => ((turnbuckleref11_turn.f bt509.1 bt509.2 bt474.2.2.2.1 (!t480)).bind fun bt513 => (turnbuckleref11_Add.l1 k bt468.2.2.2.1 bt513.1 bt513.2))))) else ((turnbuckleref11_paint.f x429000 x429001 bt468.2.2.2.1 false).bind fun bt517 => ((turnbuckleref11_paint.f bt517.1 bt517.2 bt474.2.2.2.1 true).bind fun bt521 => ((turnbuckleref11_turn.f bt521.1 bt521.2 bt474.2.2.2.1 (!t480)).bind fun bt525 => (turnbuckleref11_Add.l1 k x1 bt525.1 bt525.2)))))))))))) else ((turnbuckleref11_paint.f x429000 x429001 x429001 false).bind fun bt464 => (some (bt464.1, bt464.2, 0)))))
end
def turnbuckleref11_Add.f (k : Nat) (l0_0 : List (S80)) (a0_1 : Int) (a1 : Int) : Option ((List (S80)) × Int × Int) := (turnbuckleref11_Of.f l0_0 a0_1 a1).bind fun bt430 => (if bt430.2.2.2.2.1 = true then (some (l0_0, a0_1, 8)) else (turnbuckleref11_Add.l0 k a1 0 false a0_1 l0_0 a0_1 bt430.1 bt430.2.1 bt430.2.2.1 bt430.2.2.2.1 bt430.2.2.2.2.1 bt430.2.2.2.2.2))
theorem turnbuckleref11_Add.mono_l : ∀ k, (∀ y0 y1 y2 y3 y4 y5 y6 y7 y8 y9 y10 y11, LeO (turnbuckleref11_Add.l0 k y0 y1 y2 y3 y4 y5 y6 y7 y8 y9 y10 y11) (turnbuckleref11_Add.l0 (k + 1) y0 y1 y2 y3 y4 y5 y6 y7 y8 y9 y10 y11)) ∧ (∀ y0 y1 y2, LeO (turnbuckleref11_Add.l1 k y0 y1 y2) (turnbuckleref11_Add.l1 (k + 1) y0 y1 y2))
 | 0 => ⟨fun _ _ _ _ _ _ _ _ _ _ _ _ r h => by simp [turnbuckleref11_Add.l0] at h, fun _ _ _ r h => by simp [turnbuckleref11_Add.l1] at h⟩
 | k + 1 => by
  obtain ⟨ih0, ih1⟩ := turnbuckleref11_Add.mono_l k
  refine ⟨?_, ?_⟩
  ·intro y0 y1 y2 y3 y4 y5 y6 y7 y8 y9 y10 y11
   unfold turnbuckleref11_Add.l0
   repeat' first
   | (with_reducible exact ih0 _ _ _ _ _ _ _ _ _ _ _ _)
   | (with_reducible exact ih1 _ _ _)
   | (with_reducible exact LeO.refl _)
   | (with_reducible exact LeO.none _)
   | (with_reducible refine LeO.ite ?_ ?_)
   | (with_reducible refine LeO.bind ?_ (fun _ => ?_))
   | exact ih0 _ _ _ _ _ _ _ _ _ _ _ _
   | exact ih1 _ _ _
   | exact LeO.none _
   | refine LeO.ite ?_ ?_
   | refine LeO.bind ?_ (fun _ => ?_)
  ·intro y0 y1 y2
   unfold turnbuckleref11_Add.l1
   repeat' first
   | (with_reducible exact ih0 _ _ _ _ _ _ _ _ _ _ _ _)
   | (with_reducible exact ih1 _ _ _)
   | (with_reducible exact LeO.refl _)
   | (with_reducible exact LeO.none _)
   | (with_reducible refine LeO.ite ?_ ?_)
   | (with_reducible refine LeO.bind ?_ (fun _ => ?_))
   | exact ih0 _ _ _ _ _ _ _ _ _ _ _ _
   | exact ih1 _ _ _
   | exact LeO.none _
   | refine LeO.ite ?_ ?_
   | refine LeO.bind ?_ (fun _ => ?_)
theorem turnbuckleref11_Add.mono : ∀ a0 a1 a2 k, LeO (turnbuckleref11_Add.f k a0 a1 a2) (turnbuckleref11_Add.f (k + 1) a0 a1 a2) := by
 intro a0 a1 a2 k
 obtain ⟨ih0, ih1⟩ := turnbuckleref11_Add.mono_l k
 unfold turnbuckleref11_Add.f
 repeat' first
  | (with_reducible exact ih0 _ _ _ _ _ _ _ _ _ _ _ _)
  | (with_reducible exact ih1 _ _ _)
  | (with_reducible exact LeO.refl _)
  | (with_reducible exact LeO.none _)
  | (with_reducible refine LeO.ite ?_ ?_)
  | (with_reducible refine LeO.bind ?_ (fun _ => ?_))
  | exact ih0 _ _ _ _ _ _ _ _ _ _ _ _
  | exact ih1 _ _ _
  | exact LeO.none _
  | refine LeO.ite ?_ ?_
  | refine LeO.bind ?_ (fun _ => ?_)
def turnbuckleref11_Add.T9 : Bool × List (List Nat × List Nat) := (true, [([], []), ([0], [0]), ([], []), ([], []), ([2, 3], [2, 3]), ([4], [4]), ([1, 5], [1, 5]), ([6, 4, 0, 1, 2, 3, 4, 5, 6], [6])])
def turnbuckleref11_Add.B9 : List Nat := [0, 1, 0, 0, 12, 28, 63, 127]
theorem turnbuckleref11_Add.tab9 : rtab .any (opsOf Try.f24 9) = turnbuckleref11_Add.T9 := by kernel_rfl
theorem turnbuckleref11_Add.bits9 : waitsOk turnbuckleref11_Add.T9.2 turnbuckleref11_Add.B9 = true := by kernel_rfl
set_option maxHeartbeats 8000000 in
set_option maxRecDepth 100000 in
theorem turnbuckleref11_Add.calls (k : Nat) (P0_0_ : Nat → Prop) (u9000_ : Value) (l0_0 : List (S80)) (a0_1 : Int) (a1 : Int) (r1 : List (S80)) (r2 : Int) (r3 : Int) (w0 w : World) (hB : Below w0.heap.size w0 w) (ho0_0 : Kd.R k80 80 w w0.heap.size P0_0_ u9000_ l0_0) (h : turnbuckleref11_Add.f k l0_0 a0_1 a1 = some (r1, r2, r3)) :
  Calls Try.prog 24 #[.agg #[u9000_, .int .i64 a0_1], .int .i64 a1] w fun e w' => ∃ v0_ : Value, e = .returned (.tuple #[.agg #[v0_, .int .i64 r2], .int .i64 r3]) ∧ Kd.R k80 80 w' w0.heap.size (fun k_ => (P0_0_ k_ ∨ w.heap.size ≤ k_)) v0_ r1 ∧ Below w0.heap.size w0 w' ∧ Kept w w' (fun k_ => P0_0_ k_) := by
 have hu49 := Try.underlying49
 have hu80 := Try.underlying80
 have HO0_0 := Aside0.mk (show Kd.R k80 80 w w0.heap.size (fun k_ => (P0_0_ k_ ∨ w.heap.size ≤ k_)) u9000_ l0_0 from Kd.R_mono ho0_0 (fun k_ hk => (.inl hk)))
 have HK := Aside0.mk (Kept.refl w (fun k_ => P0_0_ k_))
 have HW0 := Aside0.mk hB.size
 have HB := Aside0.mk hB
 clear hB
 have H : ((turnbuckleref11_Of.f l0_0 a0_1 a1).bind fun bt430 => (if bt430.2.2.2.2.1 = true then (some (l0_0, a0_1, 8)) else (turnbuckleref11_Add.l0 k a1 0 false a0_1 l0_0 a0_1 bt430.1 bt430.2.1 bt430.2.2.1 bt430.2.2.2.1 bt430.2.2.2.2.1 bt430.2.2.2.2.2))) = some (r1, r2, r3) := h
 clear h
 replace H := Option.bind_eq_some_iff.mp H
 obtain ⟨⟨t430, t431, t432, t433, t434, t435⟩, A30, H⟩ := H
 replace H : (if t434 = true then (some (l0_0, a0_1, 8)) else (turnbuckleref11_Add.l0 k a1 0 false a0_1 l0_0 a0_1 t430 t431 t432 t433 t434 t435)) = some (r1, r2, r3) := H
 have A3 := Aside0.mk A30
 clear A30
 by_cases c4 : t434 = true
 ·subst c4
  have H1 : (some (l0_0, a0_1, 8)) = some (r1, r2, r3) := by rw [if_pos rfl] at H; exact H
  clear H
  have H := H1
  clear H1
  simp only [Option.some.injEq, Prod.mk.injEq] at H
  obtain ⟨rfl, rfl, rfl⟩ := H
  obtain ⟨Ao5, co5, eo5⟩ := Kd.R_slice HO0_0.out
  subst eo5
  go_enter Try.func24, Try.ntmps24
  go_wp2_with (first | ((with_reducible refine gate_dst (N := 2) rfl ?_); refine box_event ?hg (N := 2) ?hd (cs := #[.slice Ao5 l0_0.length co5, .int .i64 a0_1]) (t := 49) ?hr ?_; (case hd => rfl); (case hg => rfl); (case hr => first | (go_simp; done) | (go_simp; rfl)); intro gb428 hg w6 hbox hb; have BK428 := Aside0.mk (hbox); have GW428 := Aside0.mk ((by rw [hg]; exact HK.out.1 : w.heap.size ≤ gb428)); have GE428 := Aside0.mk ((by rw [hg]; exact (below_size HB.out) : w0.heap.size ≤ gb428)); replace HO0_0 := Aside0.mk (Kd.R_below HO0_0.out hb); replace HK := Aside0.mk (Kept.below (S := (fun k_ => P0_0_ k_)) HK.out hb); replace HB := Aside0.mk (below_step HB.out hb); clear hb hbox hg) | ((with_reducible refine gate_dst (N := 4) rfl ?_); refine box_event ?hg (N := 4) ?hd (cs := #[.slice none 0 0, .int .i64 0]) (t := 49) ?hr ?_; (case hd => rfl); (case hg => rfl); (case hr => first | (go_simp; done) | (go_simp; rfl)); intro gb429 hg w7 hbox hb; have BK429 := Aside0.mk (hbox); have GW429 := Aside0.mk ((by rw [hg]; exact HK.out.1 : w.heap.size ≤ gb429)); have GE429 := Aside0.mk ((by rw [hg]; exact (below_size HB.out) : w0.heap.size ≤ gb429)); have NB428_429 := Aside0.mk ((by rw [hg]; exact Nat.ne_of_lt (blk_lt BK428.out) : gb428 ≠ gb429)); have NB429_428 := Aside0.mk ((by rw [hg]; exact Nat.ne_of_gt (blk_lt BK428.out) : gb429 ≠ gb428)); replace HO0_0 := Aside0.mk (Kd.R_below HO0_0.out hb); replace BK428 := Aside0.mk (blk_below BK428.out hb); replace HK := Aside0.mk (Kept.below (S := (fun k_ => P0_0_ k_)) HK.out hb); replace HB := Aside0.mk (below_step HB.out hb); clear hb hbox hg; have hnb8 := NB428_429.out; have hnc8 := NB429_428.out; have hcz9_0 : w7.cell? ⟨gb428, 0, none⟩ = some (.slice Ao5 l0_0.length co5) := (blk_cell BK428.out 0).trans rfl; have hcz9_1 : w7.cell? ⟨gb428, 1, none⟩ = some (.int .i64 a0_1) := (blk_cell BK428.out 1).trans rfl; have hfz9_0 := blk_frozen BK428.out 0; have hfz9_1 := blk_frozen BK428.out 1) | ((with_reducible refine gate_callee (f := 51) rfl ?_); refine goesL_ (some 16) rfl rfl Try.func51 (by kernel_rfl) rfl #[.agg #[.slice Ao5 l0_0.length co5, .int .i64 a0_1], .int .i64 a1] rfl (by (try simp only [List.map_toArray, List.map_cons, List.map_nil]); try rfl) ?_; (with_reducible refine (turnbuckleref11_Of.calls _ _ l0_0 a0_1 a1 t430 t431 t432 t433 true t435 _ ?side1 ?side2 A3.out).mono ?_); (case side1 => repeat (first | exact (Kd.R_reads' HO0_0.out).2.2 | (with_reducible refine Kd.C_alloc ?_ _) | (with_reducible refine Kd.C_drewN ?_ _) | (with_reducible refine Kd.C_drew ?_))); (case side2 => exact (Kd.R_reads' HO0_0.out).2.1); rintro e w10 ⟨rfl, hb⟩; refine ⟨_, rfl, ?_⟩; replace HO0_0 := Aside0.mk (Kd.R_below HO0_0.out hb); replace BK428 := Aside0.mk (blk_below BK428.out hb); replace BK429 := Aside0.mk (blk_below BK429.out hb); replace HK := Aside0.mk (Kept.below (S := (fun k_ => P0_0_ k_)) HK.out hb); replace HB := Aside0.mk (below_step HB.out hb); (try clear hb); (try clear hb2); (try clear hk); (try clear hi)) | ((with_reducible refine gate_dst (N := 6) rfl ?_); refine box_event ?hg (N := 6) ?hd (cs := #[.int .u64 0, .int .i64 0, .int .i64 0, .int .i64 0, .bool false, .bool false]) (t := 80) ?hr ?_; (case hd => rfl); (case hg => rfl); (case hr => first | (go_simp; done) | (go_simp; rfl)); intro gb436 hg w11 hbox hb; have BK436 := Aside0.mk (hbox); have GW436 := Aside0.mk ((by rw [hg]; exact HK.out.1 : w.heap.size ≤ gb436)); have GE436 := Aside0.mk ((by rw [hg]; exact (below_size HB.out) : w0.heap.size ≤ gb436)); have NB428_436 := Aside0.mk ((by rw [hg]; exact Nat.ne_of_lt (blk_lt BK428.out) : gb428 ≠ gb436)); have NB436_428 := Aside0.mk ((by rw [hg]; exact Nat.ne_of_gt (blk_lt BK428.out) : gb436 ≠ gb428)); have NB429_436 := Aside0.mk ((by rw [hg]; exact Nat.ne_of_lt (blk_lt BK429.out) : gb429 ≠ gb436)); have NB436_429 := Aside0.mk ((by rw [hg]; exact Nat.ne_of_gt (blk_lt BK429.out) : gb436 ≠ gb429)); replace HO0_0 := Aside0.mk (Kd.R_below (Kd.R_elderB HO0_0.out gb436 (Nat.le_of_eq hg.symm)) hb); replace BK428 := Aside0.mk (blk_below BK428.out hb); replace BK429 := Aside0.mk (blk_below BK429.out hb); replace HK := Aside0.mk (Kept.below (S := (fun k_ => P0_0_ k_)) HK.out hb); replace HB := Aside0.mk (below_step HB.out hb); clear hb hbox hg; have hnb12 := NB436_428.out; have hnc12 := NB428_436.out; have hnb13 := NB436_429.out; have hnc13 := NB429_436.out; have hcz14_0 : w11.cell? ⟨gb436, 0, none⟩ = some (.int .u64 0) := (blk_cell BK436.out 0).trans rfl; have hcz14_1 : w11.cell? ⟨gb436, 1, none⟩ = some (.int .i64 0) := (blk_cell BK436.out 1).trans rfl; have hcz14_2 : w11.cell? ⟨gb436, 2, none⟩ = some (.int .i64 0) := (blk_cell BK436.out 2).trans rfl; have hcz14_3 : w11.cell? ⟨gb436, 3, none⟩ = some (.int .i64 0) := (blk_cell BK436.out 3).trans rfl; have hcz14_4 : w11.cell? ⟨gb436, 4, none⟩ = some (.bool false) := (blk_cell BK436.out 4).trans rfl; have hcz14_5 : w11.cell? ⟨gb436, 5, none⟩ = some (.bool false) := (blk_cell BK436.out 5).trans rfl; have hfz14_0 := blk_frozen BK436.out 0; have hfz14_1 := blk_frozen BK436.out 1; have hfz14_2 := blk_frozen BK436.out 2; have hfz14_3 := blk_frozen BK436.out 3; have hfz14_4 := blk_frozen BK436.out 4; have hfz14_5 := blk_frozen BK436.out 5; have hcz15_0 : w11.cell? ⟨gb428, 0, none⟩ = some (.slice Ao5 l0_0.length co5) := (blk_cell BK428.out 0).trans rfl; have hcz15_1 : w11.cell? ⟨gb428, 1, none⟩ = some (.int .i64 a0_1) := (blk_cell BK428.out 1).trans rfl; have hfz15_0 := blk_frozen BK428.out 0; have hfz15_1 := blk_frozen BK428.out 1; have hcz16_0 : w11.cell? ⟨gb429, 0, none⟩ = some (.slice none 0 0) := (blk_cell BK429.out 0).trans rfl; have hcz16_1 : w11.cell? ⟨gb429, 1, none⟩ = some (.int .i64 0) := (blk_cell BK429.out 1).trans rfl; have hfz16_0 := blk_frozen BK429.out 0; have hfz16_1 := blk_frozen BK429.out 1))
  refine bodyPost_ret (results_ct rfl _ _ gb429 49 #[.slice Ao5 l0_0.length co5, .int .i64 a0_1] (0, 0) _ rfl (by refine blk_put (cs := #[.slice Ao5 l0_0.length co5, .int .i64 0]) ?_ 1 _ rfl; refine blk_put (cs := #[.slice none 0 0, .int .i64 0]) ?_ 0 _ rfl; refine blk_far ?_ NB429_436.out _; refine blk_far ?_ NB429_436.out _; refine blk_far ?_ NB429_436.out _; refine blk_far ?_ NB429_436.out _; refine blk_far ?_ NB429_436.out _; refine blk_far ?_ NB429_436.out _; exact BK429.out) Try.underlying49 rfl (by kernel_rfl)) rfl ?_
  exact ⟨_, by first | rfl | (simp [errW_none, errW_some] <;> rfl) | (simp [*, errW_none, errW_some] <;> rfl), by exact Kd.R_mono (Kd.R_far (p := ⟨gb429, 1, none⟩) (Kd.R_far (p := ⟨gb429, 0, none⟩) (Kd.R_far (p := ⟨gb436, 5, none⟩) (Kd.R_far (p := ⟨gb436, 4, none⟩) (Kd.R_far (p := ⟨gb436, 3, none⟩) (Kd.R_far (p := ⟨gb436, 2, none⟩) (Kd.R_far (p := ⟨gb436, 1, none⟩) (Kd.R_far (p := ⟨gb436, 0, none⟩) (Kd.R_types (Kd.R_mono HO0_0.out (fun k_ hk => (⟨hk, hk.2⟩ : _ ∧ k_ ≠ gb436))) BK429.out (by decide)) (fun _ hk => hk.1.2) (.int .u64 t430)) (fun _ hk => hk.1.2) (.int .i64 t431)) (fun _ hk => hk.1.2) (.int .i64 t432)) (fun _ hk => hk.1.2) (.int .i64 t433)) (fun _ hk => hk.1.2) (.bool true)) (fun _ hk => hk.1.2) (.bool t435)) (fun _ hk => hk.2) (.slice Ao5 l0_0.length co5)) (fun _ hk => hk.2) (.int .i64 a0_1)) (fun _ hk => hk.1.1.1), by repeat (first | (with_reducible first | exact HB.out | refine below_set ?_ GE428.out | refine below_set ?_ GE429.out | refine below_set ?_ GE436.out) | exact HB.out), by repeat (first | (with_reducible first | exact HK.out | refine Kept.setCell ?_ (.inr GW428.out) _ | refine Kept.setCell ?_ (.inr GW429.out) _ | refine Kept.setCell ?_ (.inr GW436.out) _) | exact HK.out)⟩
 ·replace c4 := Bool.eq_false_iff.mpr c4
  subst c4
  have H1 : (turnbuckleref11_Add.l0 k a1 0 false a0_1 l0_0 a0_1 t430 t431 t432 t433 false t435) = some (r1, r2, r3) := by rw [if_neg (show ¬ (false = true) by decide)] at H; exact H
  clear H
  have H := H1
  clear H1
  have H' := Aside0.mk H
  clear H
  obtain ⟨Ao17, co17, eo17⟩ := Kd.R_slice HO0_0.out
  subst eo17
  go_enter Try.func24, Try.ntmps24
  go_wp2_with (first | ((with_reducible refine gate_dst (N := 2) rfl ?_); refine box_event ?hg (N := 2) ?hd (cs := #[.slice Ao17 l0_0.length co17, .int .i64 a0_1]) (t := 49) ?hr ?_; (case hd => rfl); (case hg => rfl); (case hr => first | (go_simp; done) | (go_simp; rfl)); intro gb428 hg w18 hbox hb; have BK428 := Aside0.mk (hbox); have GW428 := Aside0.mk ((by rw [hg]; exact HK.out.1 : w.heap.size ≤ gb428)); have GE428 := Aside0.mk ((by rw [hg]; exact (below_size HB.out) : w0.heap.size ≤ gb428)); replace HO0_0 := Aside0.mk (Kd.R_below HO0_0.out hb); replace HK := Aside0.mk (Kept.below (S := (fun k_ => P0_0_ k_)) HK.out hb); replace HB := Aside0.mk (below_step HB.out hb); clear hb hbox hg) | ((with_reducible refine gate_dst (N := 4) rfl ?_); refine box_event ?hg (N := 4) ?hd (cs := #[.slice none 0 0, .int .i64 0]) (t := 49) ?hr ?_; (case hd => rfl); (case hg => rfl); (case hr => first | (go_simp; done) | (go_simp; rfl)); intro gb429 hg w19 hbox hb; have BK429 := Aside0.mk (hbox); have GW429 := Aside0.mk ((by rw [hg]; exact HK.out.1 : w.heap.size ≤ gb429)); have GE429 := Aside0.mk ((by rw [hg]; exact (below_size HB.out) : w0.heap.size ≤ gb429)); have NB428_429 := Aside0.mk ((by rw [hg]; exact Nat.ne_of_lt (blk_lt BK428.out) : gb428 ≠ gb429)); have NB429_428 := Aside0.mk ((by rw [hg]; exact Nat.ne_of_gt (blk_lt BK428.out) : gb429 ≠ gb428)); replace HO0_0 := Aside0.mk (Kd.R_below HO0_0.out hb); replace BK428 := Aside0.mk (blk_below BK428.out hb); replace HK := Aside0.mk (Kept.below (S := (fun k_ => P0_0_ k_)) HK.out hb); replace HB := Aside0.mk (below_step HB.out hb); clear hb hbox hg; have hnb20 := NB428_429.out; have hnc20 := NB429_428.out; have hcz21_0 : w19.cell? ⟨gb428, 0, none⟩ = some (.slice Ao17 l0_0.length co17) := (blk_cell BK428.out 0).trans rfl; have hcz21_1 : w19.cell? ⟨gb428, 1, none⟩ = some (.int .i64 a0_1) := (blk_cell BK428.out 1).trans rfl; have hfz21_0 := blk_frozen BK428.out 0; have hfz21_1 := blk_frozen BK428.out 1) | ((with_reducible refine gate_callee (f := 51) rfl ?_); refine goesL_ (some 16) rfl rfl Try.func51 (by kernel_rfl) rfl #[.agg #[.slice Ao17 l0_0.length co17, .int .i64 a0_1], .int .i64 a1] rfl (by (try simp only [List.map_toArray, List.map_cons, List.map_nil]); try rfl) ?_; (with_reducible refine (turnbuckleref11_Of.calls _ _ l0_0 a0_1 a1 t430 t431 t432 t433 false t435 _ ?side1 ?side2 A3.out).mono ?_); (case side1 => repeat (first | exact (Kd.R_reads' HO0_0.out).2.2 | (with_reducible refine Kd.C_alloc ?_ _) | (with_reducible refine Kd.C_drewN ?_ _) | (with_reducible refine Kd.C_drew ?_))); (case side2 => exact (Kd.R_reads' HO0_0.out).2.1); rintro e w22 ⟨rfl, hb⟩; refine ⟨_, rfl, ?_⟩; replace HO0_0 := Aside0.mk (Kd.R_below HO0_0.out hb); replace BK428 := Aside0.mk (blk_below BK428.out hb); replace BK429 := Aside0.mk (blk_below BK429.out hb); replace HK := Aside0.mk (Kept.below (S := (fun k_ => P0_0_ k_)) HK.out hb); replace HB := Aside0.mk (below_step HB.out hb); (try clear hb); (try clear hb2); (try clear hk); (try clear hi)) | ((with_reducible refine gate_dst (N := 6) rfl ?_); refine box_event ?hg (N := 6) ?hd (cs := #[.int .u64 0, .int .i64 0, .int .i64 0, .int .i64 0, .bool false, .bool false]) (t := 80) ?hr ?_; (case hd => rfl); (case hg => rfl); (case hr => first | (go_simp; done) | (go_simp; rfl)); intro gb436 hg w23 hbox hb; have BK436 := Aside0.mk (hbox); have GW436 := Aside0.mk ((by rw [hg]; exact HK.out.1 : w.heap.size ≤ gb436)); have GE436 := Aside0.mk ((by rw [hg]; exact (below_size HB.out) : w0.heap.size ≤ gb436)); have NB428_436 := Aside0.mk ((by rw [hg]; exact Nat.ne_of_lt (blk_lt BK428.out) : gb428 ≠ gb436)); have NB436_428 := Aside0.mk ((by rw [hg]; exact Nat.ne_of_gt (blk_lt BK428.out) : gb436 ≠ gb428)); have NB429_436 := Aside0.mk ((by rw [hg]; exact Nat.ne_of_lt (blk_lt BK429.out) : gb429 ≠ gb436)); have NB436_429 := Aside0.mk ((by rw [hg]; exact Nat.ne_of_gt (blk_lt BK429.out) : gb436 ≠ gb429)); replace HO0_0 := Aside0.mk (Kd.R_below (Kd.R_elderB HO0_0.out gb436 (Nat.le_of_eq hg.symm)) hb); replace BK428 := Aside0.mk (blk_below BK428.out hb); replace BK429 := Aside0.mk (blk_below BK429.out hb); replace HK := Aside0.mk (Kept.below (S := (fun k_ => P0_0_ k_)) HK.out hb); replace HB := Aside0.mk (below_step HB.out hb); clear hb hbox hg; have hnb24 := NB436_428.out; have hnc24 := NB428_436.out; have hnb25 := NB436_429.out; have hnc25 := NB429_436.out; have hcz26_0 : w23.cell? ⟨gb436, 0, none⟩ = some (.int .u64 0) := (blk_cell BK436.out 0).trans rfl; have hcz26_1 : w23.cell? ⟨gb436, 1, none⟩ = some (.int .i64 0) := (blk_cell BK436.out 1).trans rfl; have hcz26_2 : w23.cell? ⟨gb436, 2, none⟩ = some (.int .i64 0) := (blk_cell BK436.out 2).trans rfl; have hcz26_3 : w23.cell? ⟨gb436, 3, none⟩ = some (.int .i64 0) := (blk_cell BK436.out 3).trans rfl; have hcz26_4 : w23.cell? ⟨gb436, 4, none⟩ = some (.bool false) := (blk_cell BK436.out 4).trans rfl; have hcz26_5 : w23.cell? ⟨gb436, 5, none⟩ = some (.bool false) := (blk_cell BK436.out 5).trans rfl; have hfz26_0 := blk_frozen BK436.out 0; have hfz26_1 := blk_frozen BK436.out 1; have hfz26_2 := blk_frozen BK436.out 2; have hfz26_3 := blk_frozen BK436.out 3; have hfz26_4 := blk_frozen BK436.out 4; have hfz26_5 := blk_frozen BK436.out 5; have hcz27_0 : w23.cell? ⟨gb428, 0, none⟩ = some (.slice Ao17 l0_0.length co17) := (blk_cell BK428.out 0).trans rfl; have hcz27_1 : w23.cell? ⟨gb428, 1, none⟩ = some (.int .i64 a0_1) := (blk_cell BK428.out 1).trans rfl; have hfz27_0 := blk_frozen BK428.out 0; have hfz27_1 := blk_frozen BK428.out 1))
  try go_simp
  go_loopg [7, 8, 9] k (fun kq v7 v8 v9 w' => ∃ (x7_1 : Int) (x8_1 : Bool) (x9_1 : Int), v7 = .int .i64 x7_1 ∧ v8 = .bool x8_1 ∧ v9 = .int .i64 x9_1 ∧ Aside0 (turnbuckleref11_Add.l0 kq a1 x7_1 x8_1 x9_1 l0_0 a0_1 t430 t431 t432 t433 false t435 = some (r1, r2, r3)) ∧ Aside0 (kq ≤ k) ∧ Aside0 (Kd.R k80 80 w' w0.heap.size (fun k_ => (P0_0_ k_ ∨ w.heap.size ≤ k_) ∧ k_ ≠ gb436) (.slice Ao17 l0_0.length co17) l0_0) ∧ Aside0 (w'.heap[gb428]? = some (.cells #[(.slice Ao17 l0_0.length co17), .int .i64 a0_1] 49 (0, 0))) ∧ Aside0 (w'.heap[gb429]? = some (.cells #[(.slice none 0 0), .int .i64 0] 49 (0, 0))) ∧ Aside0 (w'.heap[gb436]? = some (.cells #[.int .u64 t430, .int .i64 t431, .int .i64 t432, .int .i64 t433, .bool false, .bool t435] 80 (0, 0))) ∧ Aside0 (Kept w w' (fun k_ => P0_0_ k_)) ∧ Aside0 (Below w0.heap.size w0 w'))
  case atStart => exact ⟨(0), (false), (a0_1), (by first | rfl | (simp; done) | (simp [*]; done)), (by first | rfl | (simp; done) | (simp [*]; done)), (by first | rfl | (simp; done) | (simp [*]; done)), H', ⟨Nat.le_refl _⟩, ⟨by exact Kd.R_mono (Kd.R_far (p := ⟨gb436, 5, none⟩) (Kd.R_far (p := ⟨gb436, 4, none⟩) (Kd.R_far (p := ⟨gb436, 3, none⟩) (Kd.R_far (p := ⟨gb436, 2, none⟩) (Kd.R_far (p := ⟨gb436, 1, none⟩) (Kd.R_far (p := ⟨gb436, 0, none⟩) (Kd.R_mono HO0_0.out (fun k_ hk => (⟨hk, hk.2⟩ : _ ∧ k_ ≠ gb436))) (fun _ hk => hk.2) (.int .u64 t430)) (fun _ hk => hk.2) (.int .i64 t431)) (fun _ hk => hk.2) (.int .i64 t432)) (fun _ hk => hk.2) (.int .i64 t433)) (fun _ hk => hk.2) (.bool false)) (fun _ hk => hk.2) (.bool t435)) (fun _ hk => ⟨hk.1.1, hk.1.2⟩)⟩, ⟨by refine blk_far ?_ NB428_436.out _; refine blk_far ?_ NB428_436.out _; refine blk_far ?_ NB428_436.out _; refine blk_far ?_ NB428_436.out _; refine blk_far ?_ NB428_436.out _; refine blk_far ?_ NB428_436.out _; exact BK428.out⟩, ⟨by refine blk_far ?_ NB429_436.out _; refine blk_far ?_ NB429_436.out _; refine blk_far ?_ NB429_436.out _; refine blk_far ?_ NB429_436.out _; refine blk_far ?_ NB429_436.out _; refine blk_far ?_ NB429_436.out _; exact BK429.out⟩, ⟨by refine blk_put (cs := #[.int .u64 t430, .int .i64 t431, .int .i64 t432, .int .i64 t433, .bool false, .bool false]) ?_ 5 _ rfl; refine blk_put (cs := #[.int .u64 t430, .int .i64 t431, .int .i64 t432, .int .i64 t433, .bool false, .bool false]) ?_ 4 _ rfl; refine blk_put (cs := #[.int .u64 t430, .int .i64 t431, .int .i64 t432, .int .i64 0, .bool false, .bool false]) ?_ 3 _ rfl; refine blk_put (cs := #[.int .u64 t430, .int .i64 t431, .int .i64 0, .int .i64 0, .bool false, .bool false]) ?_ 2 _ rfl; refine blk_put (cs := #[.int .u64 t430, .int .i64 0, .int .i64 0, .int .i64 0, .bool false, .bool false]) ?_ 1 _ rfl; refine blk_put (cs := #[.int .u64 0, .int .i64 0, .int .i64 0, .int .i64 0, .bool false, .bool false]) ?_ 0 _ rfl; exact BK436.out⟩, ⟨by repeat (first | (with_reducible first | exact HK.out | refine Kept.setCell ?_ (.inr GW428.out) _ | refine Kept.setCell ?_ (.inr GW429.out) _ | refine Kept.setCell ?_ (.inr GW436.out) _) | exact HK.out)⟩, ⟨by repeat (first | (with_reducible first | exact HB.out | refine below_set ?_ GE428.out | refine below_set ?_ GE429.out | refine below_set ?_ GE436.out) | exact HB.out)⟩⟩
  case round =>
   clear H'
   try clear c1
   try clear c2
   try clear p2
   try clear c4
   try clear c5
   try clear c8
   try clear c12
   try clear c13
   try clear c20
   try clear c24
   try clear c25
   try clear hcz14_0
   try clear hcz14_1
   try clear hcz14_2
   try clear hcz14_3
   try clear hcz14_4
   try clear hcz14_5
   try clear hcz15_0
   try clear hcz15_1
   try clear hcz16_0
   try clear hcz16_1
   try clear hcz21_0
   try clear hcz21_1
   try clear hcz26_0
   try clear hcz26_1
   try clear hcz26_2
   try clear hcz26_3
   try clear hcz26_4
   try clear hcz26_5
   try clear hcz27_0
   try clear hcz27_1
   try clear hcz9_0
   try clear hcz9_1
   try clear hfz14_0
   try clear hfz14_1
   try clear hfz14_2
   try clear hfz14_3
   try clear hfz14_4
   try clear hfz14_5
   try clear hfz15_0
   try clear hfz15_1
   try clear hfz16_0
   try clear hfz16_1
   try clear hfz21_0
   try clear hfz21_1
   try clear hfz26_0
   try clear hfz26_1
   try clear hfz26_2
   try clear hfz26_3
   try clear hfz26_4
   try clear hfz26_5
   try clear hfz27_0
   try clear hfz27_1
   try clear hfz9_0
   try clear hfz9_1
   obtain ⟨x7_1, x8_1, x9_1, rfl, rfl, rfl, HA, HK1, HO_429000, BK428, BK429, BK436, HK, HB⟩ := hrel
   cases gk with
   | zero => exact absurd HA.out (by simp [turnbuckleref11_Add.l0])
   | succ k1 =>
    have H := HA.out
    clear HA
    simp only [turnbuckleref11_Add.l0] at H
    by_cases c28 : x9_1 = 0
    ·rw [if_pos c28] at H
     have c28b0 : (x9_1 == 0) = true := beq_iff_eq.mpr c28
     have c28b1 : (x9_1 != 0) = false := bne_eq_false_iff_eq.mpr c28
     clear c28
     replace H := Option.bind_eq_some_iff.mp H
     obtain ⟨⟨t444, t447⟩, A290, H⟩ := H
     replace H : ((turnbuckleref11_join.f t444 t447 x7_1 x8_1 a1).bind fun bt448 => (turnbuckleref11_Add.l1 k1 a1 bt448.1 bt448.2)) = some (r1, r2, r3) := H
     have A29 := Aside0.mk A290
     clear A290
     replace H := Option.bind_eq_some_iff.mp H
     obtain ⟨⟨t448, t451⟩, A300, H⟩ := H
     replace H : (turnbuckleref11_Add.l1 k1 a1 t448 t451) = some (r1, r2, r3) := H
     have A30 := Aside0.mk A300
     clear A300
     have H' := Aside0.mk H
     clear H
     have hnb31 := NB428_429.out
     have hnc31 := NB429_428.out
     have hnb32 := NB428_436.out
     have hnc32 := NB436_428.out
     have hcz33_0 : wr.cell? ⟨gb428, 0, none⟩ = some (.slice Ao17 l0_0.length co17) := (blk_cell BK428.out 0).trans rfl
     have hcz33_1 : wr.cell? ⟨gb428, 1, none⟩ = some (.int .i64 a0_1) := (blk_cell BK428.out 1).trans rfl
     have hfz33_0 := blk_frozen BK428.out 0
     have hfz33_1 := blk_frozen BK428.out 1
     have hnb34 := NB436_429.out
     have hnc34 := NB429_436.out
     have hcz35_0 : wr.cell? ⟨gb436, 0, none⟩ = some (.int .u64 t430) := (blk_cell BK436.out 0).trans rfl
     have hcz35_1 : wr.cell? ⟨gb436, 1, none⟩ = some (.int .i64 t431) := (blk_cell BK436.out 1).trans rfl
     have hcz35_2 : wr.cell? ⟨gb436, 2, none⟩ = some (.int .i64 t432) := (blk_cell BK436.out 2).trans rfl
     have hcz35_3 : wr.cell? ⟨gb436, 3, none⟩ = some (.int .i64 t433) := (blk_cell BK436.out 3).trans rfl
     have hcz35_4 : wr.cell? ⟨gb436, 4, none⟩ = some (.bool false) := (blk_cell BK436.out 4).trans rfl
     have hcz35_5 : wr.cell? ⟨gb436, 5, none⟩ = some (.bool t435) := (blk_cell BK436.out 5).trans rfl
     have hfz35_0 := blk_frozen BK436.out 0
     have hfz35_1 := blk_frozen BK436.out 1
     have hfz35_2 := blk_frozen BK436.out 2
     have hfz35_3 := blk_frozen BK436.out 3
     have hfz35_4 := blk_frozen BK436.out 4
     have hfz35_5 := blk_frozen BK436.out 5
     go_wp2_with (first | ((with_reducible refine gate_callee (f := 55) rfl ?_); refine goesL_ (some 41) rfl rfl Try.func55 (by kernel_rfl) rfl #[.agg #[.slice Ao17 l0_0.length co17, .int .i64 a0_1], .int .i64 a1, .agg #[.int .u64 t430, .int .i64 0, .int .i64 0, .int .i64 0, .bool true, .bool true]] rfl (by (try simp only [List.map_toArray, List.map_cons, List.map_nil]); try rfl) ?_; (with_reducible refine (turnbuckleref11_With.calls (fun k_ => some k_ = (.slice Ao17 l0_0.length co17 : Value).ownBlock) (.slice Ao17 l0_0.length co17) l0_0 a0_1 a1 t430 0 0 0 true true t444 t447 w0 _ ?side1 ?side2 A29.out).mono ?_); (case side1 => repeat (first | (with_reducible first | exact HB.out | refine below_set ?_ GE428.out | refine below_set ?_ GE429.out | refine below_set ?_ GE436.out) | exact HB.out)); (case side2 => exact Kd.R_tight rfl HO_429000.out); rintro e w36 ⟨v445, rfl, ho0, hb, hkp⟩; refine ⟨_, rfl, ?_⟩; have HO446 := Aside0.mk (Kd.R_mono (ok' := fun k_ => (P0_0_ k_ ∨ w.heap.size ≤ k_) ∧ k_ ≠ gb436) ho0 (fun k_ hk_ => ⟨Or.elim hk_ (fun hs_ => (HO_429000.out.1 k_ (hs_).symm).1) (fun hn_ => (.inr (Nat.le_trans HK.out.1 hn_))), Or.elim hk_ (fun hs_ => fun e_ => (Kd.R_away HO_429000.out (fun _ hk => hk.2)) (by rw [← e_]; exact hs_)) (fun hn_ => (Kd.freshB BK436.out k_ hn_))⟩)); replace BK428 := Aside0.mk (blk_kept BK428.out hkp (fun hs_ => (fun e_ => (Kd.R_ne HO_429000.out BK428.out (by decide)) e_) hs_)); replace BK429 := Aside0.mk (blk_kept BK429.out hkp (fun hs_ => (fun e_ => (Kd.R_ne HO_429000.out BK429.out (by decide)) e_) hs_)); replace BK436 := Aside0.mk (blk_kept BK436.out hkp (fun hs_ => (fun e_ => (Kd.R_away HO_429000.out (fun _ hk => hk.2)) e_) hs_)); replace HK := Aside0.mk (Kept.then_ (S := (fun k_ => P0_0_ k_)) HK.out hkp (fun k_ hs_ => (fun e_ => (HO_429000.out.1 k_ e_.symm).1) hs_)); replace HB := Aside0.mk (hb); clear HO_429000; (try clear hb); (try clear hkp); (try clear ho0); obtain ⟨Ao37, co37, eo37⟩ := Kd.R_slice HO446.out; subst eo37; have hcz38_0 : w36.cell? ⟨gb428, 0, none⟩ = some (.slice Ao17 l0_0.length co17) := (blk_cell BK428.out 0).trans rfl; have hcz38_1 : w36.cell? ⟨gb428, 1, none⟩ = some (.int .i64 a0_1) := (blk_cell BK428.out 1).trans rfl; have hfz38_0 := blk_frozen BK428.out 0; have hfz38_1 := blk_frozen BK428.out 1) | ((with_reducible refine gate_store (t := 49) (p := 2) rfl ?_); refine store_event (t := 49) (p := 2) (v := ?vo_w39) (w1 := ((w36.setCell ⟨gb428, 0, none⟩ (.slice Ao37 t444.length co37)).setCell ⟨gb428, 1, none⟩ (.int .i64 t447))) ?hg ?ho ?hn ?hr ?_; (case ho => rfl); (case hg => rfl); (case hn => rfl); (case hr => first | (go_simp; done) | (go_simp; rfl)); intro w39 hw; replace HO446 : Aside0 (Kd.R k80 80 w39 w0.heap.size (fun k_ => (P0_0_ k_ ∨ w.heap.size ≤ k_) ∧ k_ ≠ gb436) (.slice Ao37 t444.length co37) t444) := ⟨(by rw [hw]; exact (by exact Kd.R_mono (Kd.R_far (p := ⟨gb428, 1, none⟩) (Kd.R_far (p := ⟨gb428, 0, none⟩) (Kd.R_types HO446.out BK428.out (by decide)) (fun _ hk => hk.2) (.slice Ao37 t444.length co37)) (fun _ hk => hk.2) (.int .i64 t447)) (fun _ hk => ⟨hk.1.1, hk.1.2⟩)))⟩; replace BK428 : Aside0 (w39.heap[gb428]? = some (.cells #[.slice Ao37 t444.length co37, .int .i64 t447] 49 (0, 0))) := ⟨(by rw [hw]; exact (by refine blk_put (cs := #[.slice Ao37 t444.length co37, .int .i64 a0_1]) ?_ 1 _ rfl; refine blk_put (cs := #[.slice Ao17 l0_0.length co17, .int .i64 a0_1]) ?_ 0 _ rfl; exact BK428.out))⟩; replace BK429 : Aside0 (w39.heap[gb429]? = some (.cells #[.slice none 0 0, .int .i64 0] 49 (0, 0))) := ⟨(by rw [hw]; exact (by refine blk_far ?_ NB429_428.out _; refine blk_far ?_ NB429_428.out _; exact BK429.out))⟩; replace BK436 : Aside0 (w39.heap[gb436]? = some (.cells #[.int .u64 t430, .int .i64 t431, .int .i64 t432, .int .i64 t433, .bool false, .bool t435] 80 (0, 0))) := ⟨(by rw [hw]; exact (by refine blk_far ?_ NB436_428.out _; refine blk_far ?_ NB436_428.out _; exact BK436.out))⟩; replace HK : Aside0 (Kept w w39 (fun k_ => P0_0_ k_)) := ⟨(by rw [hw]; repeat (with_reducible first | exact HK.out | refine Kept.setCell ?_ (.inr GW428.out) _ | refine Kept.setCell ?_ (.inr GW429.out) _ | refine Kept.setCell ?_ (.inr GW436.out) _))⟩; replace HB : Aside0 (Below w0.heap.size w0 w39) := ⟨(by rw [hw]; repeat (with_reducible first | exact HB.out | refine below_set ?_ GE428.out | refine below_set ?_ GE429.out | refine below_set ?_ GE436.out))⟩; clear hw; have hcz40_0 : w39.cell? ⟨gb428, 0, none⟩ = some (.slice Ao37 t444.length co37) := (blk_cell BK428.out 0).trans rfl; have hcz40_1 : w39.cell? ⟨gb428, 1, none⟩ = some (.int .i64 t447) := (blk_cell BK428.out 1).trans rfl; have hfz40_0 := blk_frozen BK428.out 0; have hfz40_1 := blk_frozen BK428.out 1) | ((with_reducible refine gate_callee (f := 53) rfl ?_); refine goesL_ (some 46) rfl rfl Try.func53 (by kernel_rfl) rfl #[.agg #[.slice Ao37 t444.length co37, .int .i64 t447], .int .i64 x7_1, .bool x8_1, .int .i64 a1] rfl (by (try simp only [List.map_toArray, List.map_cons, List.map_nil]); try rfl) ?_; (with_reducible refine (turnbuckleref11_join.calls (fun k_ => some k_ = (.slice Ao37 t444.length co37 : Value).ownBlock) (.slice Ao37 t444.length co37) t444 t447 x7_1 x8_1 a1 t448 t451 w0 _ ?side1 ?side2 A30.out).mono ?_); (case side1 => repeat (first | (with_reducible first | exact HB.out | refine below_set ?_ GE428.out | refine below_set ?_ GE429.out | refine below_set ?_ GE436.out) | exact HB.out)); (case side2 => exact Kd.R_tight rfl HO446.out); rintro e w41 ⟨v449, rfl, ho0, hb, hkp⟩; refine ⟨_, rfl, ?_⟩; have HO450 := Aside0.mk (Kd.R_mono (ok' := fun k_ => (P0_0_ k_ ∨ w.heap.size ≤ k_) ∧ k_ ≠ gb436) ho0 (fun k_ hk_ => ⟨Or.elim hk_ (fun hs_ => (HO446.out.1 k_ (hs_).symm).1) (fun hn_ => (.inr (Nat.le_trans HK.out.1 hn_))), Or.elim hk_ (fun hs_ => fun e_ => (Kd.R_away HO446.out (fun _ hk => hk.2)) (by rw [← e_]; exact hs_)) (fun hn_ => (Kd.freshB BK436.out k_ hn_))⟩)); replace BK428 := Aside0.mk (blk_kept BK428.out hkp (fun hs_ => (fun e_ => (Kd.R_ne HO446.out BK428.out (by decide)) e_) hs_)); replace BK429 := Aside0.mk (blk_kept BK429.out hkp (fun hs_ => (fun e_ => (Kd.R_ne HO446.out BK429.out (by decide)) e_) hs_)); replace BK436 := Aside0.mk (blk_kept BK436.out hkp (fun hs_ => (fun e_ => (Kd.R_away HO446.out (fun _ hk => hk.2)) e_) hs_)); replace HK := Aside0.mk (Kept.then_ (S := (fun k_ => P0_0_ k_)) HK.out hkp (fun k_ hs_ => (fun e_ => (HO446.out.1 k_ e_.symm).1) hs_)); replace HB := Aside0.mk (hb); clear HO446; (try clear hb); (try clear hkp); (try clear ho0); obtain ⟨Ao42, co42, eo42⟩ := Kd.R_slice HO450.out; subst eo42; have hcz43_0 : w41.cell? ⟨gb428, 0, none⟩ = some (.slice Ao37 t444.length co37) := (blk_cell BK428.out 0).trans rfl; have hcz43_1 : w41.cell? ⟨gb428, 1, none⟩ = some (.int .i64 t447) := (blk_cell BK428.out 1).trans rfl; have hfz43_0 := blk_frozen BK428.out 0; have hfz43_1 := blk_frozen BK428.out 1))
     try go_simp
     go_loopg [1] k1 (fun kq v1 w' => ∃ (x1_2 : Int) (x429000_2 : List (S80)) (x429001_2 : Int) (u429000 : Value), v1 = .int .i64 x1_2 ∧ Aside0 (turnbuckleref11_Add.l1 kq x1_2 x429000_2 x429001_2 = some (r1, r2, r3)) ∧ Aside0 (kq ≤ k1) ∧ Aside0 (Kd.R k80 80 w' w0.heap.size (fun k_ => (P0_0_ k_ ∨ w.heap.size ≤ k_) ∧ k_ ≠ gb436) u429000 x429000_2) ∧ Aside0 (w'.heap[gb428]? = some (.cells #[u429000, .int .i64 x429001_2] 49 (0, 0))) ∧ Aside0 (w'.heap[gb429]? = some (.cells #[(.slice none 0 0), .int .i64 0] 49 (0, 0))) ∧ Aside0 (w'.heap[gb436]? = some (.cells #[.int .u64 t430, .int .i64 t431, .int .i64 t432, .int .i64 t433, .bool false, .bool t435] 80 (0, 0))) ∧ Aside0 (Kept w w' (fun k_ => P0_0_ k_)) ∧ Aside0 (Below w0.heap.size w0 w'))
     case atStart => exact ⟨(a1), (t448), (t451), (.slice Ao42 t448.length co42), (by first | rfl | (simp; done) | (simp [*]; done)), H', ⟨Nat.le_refl _⟩, ⟨by exact Kd.R_mono (Kd.R_far (p := ⟨gb428, 1, none⟩) (Kd.R_far (p := ⟨gb428, 0, none⟩) (Kd.R_types HO450.out BK428.out (by decide)) (fun _ hk => hk.2) (.slice Ao42 t448.length co42)) (fun _ hk => hk.2) (.int .i64 t451)) (fun _ hk => ⟨hk.1.1, hk.1.2⟩)⟩, ⟨by refine blk_put (cs := #[.slice Ao42 t448.length co42, .int .i64 t447]) ?_ 1 _ rfl; refine blk_put (cs := #[.slice Ao37 t444.length co37, .int .i64 t447]) ?_ 0 _ rfl; exact BK428.out⟩, ⟨by refine blk_far ?_ NB429_428.out _; refine blk_far ?_ NB429_428.out _; exact BK429.out⟩, ⟨by refine blk_far ?_ NB436_428.out _; refine blk_far ?_ NB436_428.out _; exact BK436.out⟩, ⟨by repeat (first | (with_reducible first | exact HK.out | refine Kept.setCell ?_ (.inr GW428.out) _ | refine Kept.setCell ?_ (.inr GW429.out) _ | refine Kept.setCell ?_ (.inr GW436.out) _) | exact HK.out)⟩, ⟨by repeat (first | (with_reducible first | exact HB.out | refine below_set ?_ GE428.out | refine below_set ?_ GE429.out | refine below_set ?_ GE436.out) | exact HB.out)⟩⟩
     case round =>
      clear H'
      try clear c1
      try clear c2
      try clear p2
      try clear c3
      try clear c4
      try clear c5
      try clear c8
      try clear c12
      try clear c13
      try clear c20
      try clear c24
      try clear c25
      try clear c28
      try clear c28b0
      try clear c28b1
      try clear c31
      try clear c32
      try clear c34
      try clear hcz14_0
      try clear hcz14_1
      try clear hcz14_2
      try clear hcz14_3
      try clear hcz14_4
      try clear hcz14_5
      try clear hcz15_0
      try clear hcz15_1
      try clear hcz16_0
      try clear hcz16_1
      try clear hcz21_0
      try clear hcz21_1
      try clear hcz26_0
      try clear hcz26_1
      try clear hcz26_2
      try clear hcz26_3
      try clear hcz26_4
      try clear hcz26_5
      try clear hcz27_0
      try clear hcz27_1
      try clear hcz33_0
      try clear hcz33_1
      try clear hcz35_0
      try clear hcz35_1
      try clear hcz35_2
      try clear hcz35_3
      try clear hcz35_4
      try clear hcz35_5
      try clear hcz38_0
      try clear hcz38_1
      try clear hcz40_0
      try clear hcz40_1
      try clear hcz43_0
      try clear hcz43_1
      try clear hcz9_0
      try clear hcz9_1
      try clear hfz14_0
      try clear hfz14_1
      try clear hfz14_2
      try clear hfz14_3
      try clear hfz14_4
      try clear hfz14_5
      try clear hfz15_0
      try clear hfz15_1
      try clear hfz16_0
      try clear hfz16_1
      try clear hfz21_0
      try clear hfz21_1
      try clear hfz26_0
      try clear hfz26_1
      try clear hfz26_2
      try clear hfz26_3
      try clear hfz26_4
      try clear hfz26_5
      try clear hfz27_0
      try clear hfz27_1
      try clear hfz33_0
      try clear hfz33_1
      try clear hfz35_0
      try clear hfz35_1
      try clear hfz35_2
      try clear hfz35_3
      try clear hfz35_4
      try clear hfz35_5
      try clear hfz38_0
      try clear hfz38_1
      try clear hfz40_0
      try clear hfz40_1
      try clear hfz43_0
      try clear hfz43_1
      try clear hfz9_0
      try clear hfz9_1
      try clear p2
      obtain ⟨x1_2, x429000_2, x429001_2, u429000, rfl, HA, HK2, HO_429000, BK428, BK429, BK436, HK, HB⟩ := hrel
      cases gk with
      | zero => exact absurd HA.out (by simp [turnbuckleref11_Add.l1])
      | succ k2 =>
       have H := HA.out
       clear HA
       simp only [turnbuckleref11_Add.l1] at H
       replace H := Option.bind_eq_some_iff.mp H
       obtain ⟨⟨t452, t453, t454, t455, t456, t457⟩, A440, H⟩ := H
       replace H : ((turnbuckleref11_Of.f x429000_2 x429001_2 t455).bind fun bt458 => (if bt458.2.2.2.2.2 = true then ((turnbuckleref11_Of.f x429000_2 x429001_2 x1_2).bind fun bt468 => ((turnbuckleref11_Of.f x429000_2 x429001_2 bt468.2.2.2.1).bind fun bt474 => ((turnbuckleref11_onRight.f x429000_2 x429001_2 bt474.2.2.2.1 bt468.2.2.2.1).bind fun t480 => ((turnbuckleref11_Child.f x429000_2 x429001_2 bt474.2.2.2.1 (!t480)).bind fun t481 => ((turnbuckleref11_Of.f x429000_2 x429001_2 t481).bind fun bt482 => (if bt482.2.2.2.2.2 = true then ((turnbuckleref11_paint.f x429000_2 x429001_2 bt468.2.2.2.1 false).bind fun bt488 => ((turnbuckleref11_paint.f bt488.1 bt488.2 t481 false).bind fun bt492 => ((turnbuckleref11_paint.f bt492.1 bt492.2 bt474.2.2.2.1 true).bind fun bt496 => (turnbuckleref11_Add.l1 k2 bt474.2.2.2.1 bt496.1 bt496.2)))) else ((turnbuckleref11_onRight.f x429000_2 x429001_2 bt468.2.2.2.1 x1_2).bind fun t500 => (if (t500 != t480) = true then ((turnbuckleref11_turn.f x429000_2 x429001_2 bt468.2.2.2.1 t480).bind fun bt501 => ((turnbuckleref11_paint.f bt501.1 bt501.2 x1_2 false).bind fun bt505 => ((turnbuckleref11_paint.f bt505.1 bt505.2 bt474.2.2.2.1 true).bind fun bt509 => ((turnbuckleref11_turn.f bt509.1 bt509.2 bt474.2.2.2.1 (!t480)).bind fun bt513 => (turnbuckleref11_Add.l1 k2 bt468.2.2.2.1 bt513.1 bt513.2))))) else ((turnbuckleref11_paint.f x429000_2 x429001_2 bt468.2.2.2.1 false).bind fun bt517 => ((turnbuckleref11_paint.f bt517.1 bt517.2 bt474.2.2.2.1 true).bind fun bt521 => ((turnbuckleref11_turn.f bt521.1 bt521.2 bt474.2.2.2.1 (!t480)).bind fun bt525 => (turnbuckleref11_Add.l1 k2 x1_2 bt525.1 bt525.2)))))))))))) else ((turnbuckleref11_paint.f x429000_2 x429001_2 x429001_2 false).bind fun bt464 => (some (bt464.1, bt464.2, 0))))) = some (r1, r2, r3) := H
       have A44 := Aside0.mk A440
       clear A440
       replace H := Option.bind_eq_some_iff.mp H
       obtain ⟨⟨t458, t459, t460, t461, t462, t463⟩, A450, H⟩ := H
       replace H : (if t463 = true then ((turnbuckleref11_Of.f x429000_2 x429001_2 x1_2).bind fun bt468 => ((turnbuckleref11_Of.f x429000_2 x429001_2 bt468.2.2.2.1).bind fun bt474 => ((turnbuckleref11_onRight.f x429000_2 x429001_2 bt474.2.2.2.1 bt468.2.2.2.1).bind fun t480 => ((turnbuckleref11_Child.f x429000_2 x429001_2 bt474.2.2.2.1 (!t480)).bind fun t481 => ((turnbuckleref11_Of.f x429000_2 x429001_2 t481).bind fun bt482 => (if bt482.2.2.2.2.2 = true then ((turnbuckleref11_paint.f x429000_2 x429001_2 bt468.2.2.2.1 false).bind fun bt488 => ((turnbuckleref11_paint.f bt488.1 bt488.2 t481 false).bind fun bt492 => ((turnbuckleref11_paint.f bt492.1 bt492.2 bt474.2.2.2.1 true).bind fun bt496 => (turnbuckleref11_Add.l1 k2 bt474.2.2.2.1 bt496.1 bt496.2)))) else ((turnbuckleref11_onRight.f x429000_2 x429001_2 bt468.2.2.2.1 x1_2).bind fun t500 => (if (t500 != t480) = true then ((turnbuckleref11_turn.f x429000_2 x429001_2 bt468.2.2.2.1 t480).bind fun bt501 => ((turnbuckleref11_paint.f bt501.1 bt501.2 x1_2 false).bind fun bt505 => ((turnbuckleref11_paint.f bt505.1 bt505.2 bt474.2.2.2.1 true).bind fun bt509 => ((turnbuckleref11_turn.f bt509.1 bt509.2 bt474.2.2.2.1 (!t480)).bind fun bt513 => (turnbuckleref11_Add.l1 k2 bt468.2.2.2.1 bt513.1 bt513.2))))) else ((turnbuckleref11_paint.f x429000_2 x429001_2 bt468.2.2.2.1 false).bind fun bt517 => ((turnbuckleref11_paint.f bt517.1 bt517.2 bt474.2.2.2.1 true).bind fun bt521 => ((turnbuckleref11_turn.f bt521.1 bt521.2 bt474.2.2.2.1 (!t480)).bind fun bt525 => (turnbuckleref11_Add.l1 k2 x1_2 bt525.1 bt525.2)))))))))))) else ((turnbuckleref11_paint.f x429000_2 x429001_2 x429001_2 false).bind fun bt464 => (some (bt464.1, bt464.2, 0)))) = some (r1, r2, r3) := H
       have A45 := Aside0.mk A450
       clear A450
       by_cases c46 : t463 = true
       ·subst c46
        have H1 : ((turnbuckleref11_Of.f x429000_2 x429001_2 x1_2).bind fun bt468 => ((turnbuckleref11_Of.f x429000_2 x429001_2 bt468.2.2.2.1).bind fun bt474 => ((turnbuckleref11_onRight.f x429000_2 x429001_2 bt474.2.2.2.1 bt468.2.2.2.1).bind fun t480 => ((turnbuckleref11_Child.f x429000_2 x429001_2 bt474.2.2.2.1 (!t480)).bind fun t481 => ((turnbuckleref11_Of.f x429000_2 x429001_2 t481).bind fun bt482 => (if bt482.2.2.2.2.2 = true then ((turnbuckleref11_paint.f x429000_2 x429001_2 bt468.2.2.2.1 false).bind fun bt488 => ((turnbuckleref11_paint.f bt488.1 bt488.2 t481 false).bind fun bt492 => ((turnbuckleref11_paint.f bt492.1 bt492.2 bt474.2.2.2.1 true).bind fun bt496 => (turnbuckleref11_Add.l1 k2 bt474.2.2.2.1 bt496.1 bt496.2)))) else ((turnbuckleref11_onRight.f x429000_2 x429001_2 bt468.2.2.2.1 x1_2).bind fun t500 => (if (t500 != t480) = true then ((turnbuckleref11_turn.f x429000_2 x429001_2 bt468.2.2.2.1 t480).bind fun bt501 => ((turnbuckleref11_paint.f bt501.1 bt501.2 x1_2 false).bind fun bt505 => ((turnbuckleref11_paint.f bt505.1 bt505.2 bt474.2.2.2.1 true).bind fun bt509 => ((turnbuckleref11_turn.f bt509.1 bt509.2 bt474.2.2.2.1 (!t480)).bind fun bt513 => (turnbuckleref11_Add.l1 k2 bt468.2.2.2.1 bt513.1 bt513.2))))) else ((turnbuckleref11_paint.f x429000_2 x429001_2 bt468.2.2.2.1 false).bind fun bt517 => ((turnbuckleref11_paint.f bt517.1 bt517.2 bt474.2.2.2.1 true).bind fun bt521 => ((turnbuckleref11_turn.f bt521.1 bt521.2 bt474.2.2.2.1 (!t480)).bind fun bt525 => (turnbuckleref11_Add.l1 k2 x1_2 bt525.1 bt525.2)))))))))))) = some (r1, r2, r3) := by rw [if_pos rfl] at H; exact H
        clear H
        have H := H1
        clear H1
        replace H := Option.bind_eq_some_iff.mp H
        obtain ⟨⟨t468, t469, t470, t471, t472, t473⟩, A470, H⟩ := H
        replace H : ((turnbuckleref11_Of.f x429000_2 x429001_2 t471).bind fun bt474 => ((turnbuckleref11_onRight.f x429000_2 x429001_2 bt474.2.2.2.1 t471).bind fun t480 => ((turnbuckleref11_Child.f x429000_2 x429001_2 bt474.2.2.2.1 (!t480)).bind fun t481 => ((turnbuckleref11_Of.f x429000_2 x429001_2 t481).bind fun bt482 => (if bt482.2.2.2.2.2 = true then ((turnbuckleref11_paint.f x429000_2 x429001_2 t471 false).bind fun bt488 => ((turnbuckleref11_paint.f bt488.1 bt488.2 t481 false).bind fun bt492 => ((turnbuckleref11_paint.f bt492.1 bt492.2 bt474.2.2.2.1 true).bind fun bt496 => (turnbuckleref11_Add.l1 k2 bt474.2.2.2.1 bt496.1 bt496.2)))) else ((turnbuckleref11_onRight.f x429000_2 x429001_2 t471 x1_2).bind fun t500 => (if (t500 != t480) = true then ((turnbuckleref11_turn.f x429000_2 x429001_2 t471 t480).bind fun bt501 => ((turnbuckleref11_paint.f bt501.1 bt501.2 x1_2 false).bind fun bt505 => ((turnbuckleref11_paint.f bt505.1 bt505.2 bt474.2.2.2.1 true).bind fun bt509 => ((turnbuckleref11_turn.f bt509.1 bt509.2 bt474.2.2.2.1 (!t480)).bind fun bt513 => (turnbuckleref11_Add.l1 k2 t471 bt513.1 bt513.2))))) else ((turnbuckleref11_paint.f x429000_2 x429001_2 t471 false).bind fun bt517 => ((turnbuckleref11_paint.f bt517.1 bt517.2 bt474.2.2.2.1 true).bind fun bt521 => ((turnbuckleref11_turn.f bt521.1 bt521.2 bt474.2.2.2.1 (!t480)).bind fun bt525 => (turnbuckleref11_Add.l1 k2 x1_2 bt525.1 bt525.2))))))))))) = some (r1, r2, r3) := H
        have A47 := Aside0.mk A470
        clear A470
        replace H := Option.bind_eq_some_iff.mp H
        obtain ⟨⟨t474, t475, t476, t477, t478, t479⟩, A480, H⟩ := H
        replace H : ((turnbuckleref11_onRight.f x429000_2 x429001_2 t477 t471).bind fun t480 => ((turnbuckleref11_Child.f x429000_2 x429001_2 t477 (!t480)).bind fun t481 => ((turnbuckleref11_Of.f x429000_2 x429001_2 t481).bind fun bt482 => (if bt482.2.2.2.2.2 = true then ((turnbuckleref11_paint.f x429000_2 x429001_2 t471 false).bind fun bt488 => ((turnbuckleref11_paint.f bt488.1 bt488.2 t481 false).bind fun bt492 => ((turnbuckleref11_paint.f bt492.1 bt492.2 t477 true).bind fun bt496 => (turnbuckleref11_Add.l1 k2 t477 bt496.1 bt496.2)))) else ((turnbuckleref11_onRight.f x429000_2 x429001_2 t471 x1_2).bind fun t500 => (if (t500 != t480) = true then ((turnbuckleref11_turn.f x429000_2 x429001_2 t471 t480).bind fun bt501 => ((turnbuckleref11_paint.f bt501.1 bt501.2 x1_2 false).bind fun bt505 => ((turnbuckleref11_paint.f bt505.1 bt505.2 t477 true).bind fun bt509 => ((turnbuckleref11_turn.f bt509.1 bt509.2 t477 (!t480)).bind fun bt513 => (turnbuckleref11_Add.l1 k2 t471 bt513.1 bt513.2))))) else ((turnbuckleref11_paint.f x429000_2 x429001_2 t471 false).bind fun bt517 => ((turnbuckleref11_paint.f bt517.1 bt517.2 t477 true).bind fun bt521 => ((turnbuckleref11_turn.f bt521.1 bt521.2 t477 (!t480)).bind fun bt525 => (turnbuckleref11_Add.l1 k2 x1_2 bt525.1 bt525.2)))))))))) = some (r1, r2, r3) := H
        have A48 := Aside0.mk A480
        clear A480
        replace H := Option.bind_eq_some_iff.mp H
        obtain ⟨t480, A490, H⟩ := H
        replace H : ((turnbuckleref11_Child.f x429000_2 x429001_2 t477 (!t480)).bind fun t481 => ((turnbuckleref11_Of.f x429000_2 x429001_2 t481).bind fun bt482 => (if bt482.2.2.2.2.2 = true then ((turnbuckleref11_paint.f x429000_2 x429001_2 t471 false).bind fun bt488 => ((turnbuckleref11_paint.f bt488.1 bt488.2 t481 false).bind fun bt492 => ((turnbuckleref11_paint.f bt492.1 bt492.2 t477 true).bind fun bt496 => (turnbuckleref11_Add.l1 k2 t477 bt496.1 bt496.2)))) else ((turnbuckleref11_onRight.f x429000_2 x429001_2 t471 x1_2).bind fun t500 => (if (t500 != t480) = true then ((turnbuckleref11_turn.f x429000_2 x429001_2 t471 t480).bind fun bt501 => ((turnbuckleref11_paint.f bt501.1 bt501.2 x1_2 false).bind fun bt505 => ((turnbuckleref11_paint.f bt505.1 bt505.2 t477 true).bind fun bt509 => ((turnbuckleref11_turn.f bt509.1 bt509.2 t477 (!t480)).bind fun bt513 => (turnbuckleref11_Add.l1 k2 t471 bt513.1 bt513.2))))) else ((turnbuckleref11_paint.f x429000_2 x429001_2 t471 false).bind fun bt517 => ((turnbuckleref11_paint.f bt517.1 bt517.2 t477 true).bind fun bt521 => ((turnbuckleref11_turn.f bt521.1 bt521.2 t477 (!t480)).bind fun bt525 => (turnbuckleref11_Add.l1 k2 x1_2 bt525.1 bt525.2))))))))) = some (r1, r2, r3) := H
        have A49 := Aside0.mk A490
        clear A490
        replace H := Option.bind_eq_some_iff.mp H
        obtain ⟨t481, A500, H⟩ := H
        replace H : ((turnbuckleref11_Of.f x429000_2 x429001_2 t481).bind fun bt482 => (if bt482.2.2.2.2.2 = true then ((turnbuckleref11_paint.f x429000_2 x429001_2 t471 false).bind fun bt488 => ((turnbuckleref11_paint.f bt488.1 bt488.2 t481 false).bind fun bt492 => ((turnbuckleref11_paint.f bt492.1 bt492.2 t477 true).bind fun bt496 => (turnbuckleref11_Add.l1 k2 t477 bt496.1 bt496.2)))) else ((turnbuckleref11_onRight.f x429000_2 x429001_2 t471 x1_2).bind fun t500 => (if (t500 != t480) = true then ((turnbuckleref11_turn.f x429000_2 x429001_2 t471 t480).bind fun bt501 => ((turnbuckleref11_paint.f bt501.1 bt501.2 x1_2 false).bind fun bt505 => ((turnbuckleref11_paint.f bt505.1 bt505.2 t477 true).bind fun bt509 => ((turnbuckleref11_turn.f bt509.1 bt509.2 t477 (!t480)).bind fun bt513 => (turnbuckleref11_Add.l1 k2 t471 bt513.1 bt513.2))))) else ((turnbuckleref11_paint.f x429000_2 x429001_2 t471 false).bind fun bt517 => ((turnbuckleref11_paint.f bt517.1 bt517.2 t477 true).bind fun bt521 => ((turnbuckleref11_turn.f bt521.1 bt521.2 t477 (!t480)).bind fun bt525 => (turnbuckleref11_Add.l1 k2 x1_2 bt525.1 bt525.2)))))))) = some (r1, r2, r3) := H
        have A50 := Aside0.mk A500
        clear A500
        replace H := Option.bind_eq_some_iff.mp H
        obtain ⟨⟨t482, t483, t484, t485, t486, t487⟩, A510, H⟩ := H
        replace H : (if t487 = true then ((turnbuckleref11_paint.f x429000_2 x429001_2 t471 false).bind fun bt488 => ((turnbuckleref11_paint.f bt488.1 bt488.2 t481 false).bind fun bt492 => ((turnbuckleref11_paint.f bt492.1 bt492.2 t477 true).bind fun bt496 => (turnbuckleref11_Add.l1 k2 t477 bt496.1 bt496.2)))) else ((turnbuckleref11_onRight.f x429000_2 x429001_2 t471 x1_2).bind fun t500 => (if (t500 != t480) = true then ((turnbuckleref11_turn.f x429000_2 x429001_2 t471 t480).bind fun bt501 => ((turnbuckleref11_paint.f bt501.1 bt501.2 x1_2 false).bind fun bt505 => ((turnbuckleref11_paint.f bt505.1 bt505.2 t477 true).bind fun bt509 => ((turnbuckleref11_turn.f bt509.1 bt509.2 t477 (!t480)).bind fun bt513 => (turnbuckleref11_Add.l1 k2 t471 bt513.1 bt513.2))))) else ((turnbuckleref11_paint.f x429000_2 x429001_2 t471 false).bind fun bt517 => ((turnbuckleref11_paint.f bt517.1 bt517.2 t477 true).bind fun bt521 => ((turnbuckleref11_turn.f bt521.1 bt521.2 t477 (!t480)).bind fun bt525 => (turnbuckleref11_Add.l1 k2 x1_2 bt525.1 bt525.2))))))) = some (r1, r2, r3) := H
        have A51 := Aside0.mk A510
        clear A510
        by_cases c52 : t487 = true
        ·subst c52
         have H1 : ((turnbuckleref11_paint.f x429000_2 x429001_2 t471 false).bind fun bt488 => ((turnbuckleref11_paint.f bt488.1 bt488.2 t481 false).bind fun bt492 => ((turnbuckleref11_paint.f bt492.1 bt492.2 t477 true).bind fun bt496 => (turnbuckleref11_Add.l1 k2 t477 bt496.1 bt496.2)))) = some (r1, r2, r3) := by rw [if_pos rfl] at H; exact H
         clear H
         have H := H1
         clear H1
         replace H := Option.bind_eq_some_iff.mp H
         obtain ⟨⟨t488, t491⟩, A530, H⟩ := H
         replace H : ((turnbuckleref11_paint.f t488 t491 t481 false).bind fun bt492 => ((turnbuckleref11_paint.f bt492.1 bt492.2 t477 true).bind fun bt496 => (turnbuckleref11_Add.l1 k2 t477 bt496.1 bt496.2))) = some (r1, r2, r3) := H
         have A53 := Aside0.mk A530
         clear A530
         replace H := Option.bind_eq_some_iff.mp H
         obtain ⟨⟨t492, t495⟩, A540, H⟩ := H
         replace H : ((turnbuckleref11_paint.f t492 t495 t477 true).bind fun bt496 => (turnbuckleref11_Add.l1 k2 t477 bt496.1 bt496.2)) = some (r1, r2, r3) := H
         have A54 := Aside0.mk A540
         clear A540
         replace H := Option.bind_eq_some_iff.mp H
         obtain ⟨⟨t496, t499⟩, A550, H⟩ := H
         replace H : (turnbuckleref11_Add.l1 k2 t477 t496 t499) = some (r1, r2, r3) := H
         have A55 := Aside0.mk A550
         clear A550
         have H' := Aside0.mk H
         clear H
         try go_wp2
         have n0_ := Aside0.mk (Kd.R_drew HO_429000.out)
         have n1_ := Aside0.mk (blk_drew BK428.out)
         have n2_ := Aside0.mk (blk_drew BK429.out)
         have n3_ := Aside0.mk (blk_drew BK436.out)
         have n4_ := Aside0.mk (Kept.drew HK.out)
         have n5_ := Aside0.mk (below_drew1 HB.out)
         clear HO_429000
         clear BK428
         clear BK429
         clear BK436
         clear HK
         clear HB
         have HO_429000 := n0_
         have BK428 := n1_
         have BK429 := n2_
         have BK436 := n3_
         have HK := n4_
         have HB := n5_
         clear n0_ n1_ n2_ n3_ n4_ n5_
         obtain ⟨Ao57, co57, eo57⟩ := Kd.R_slice HO_429000.out
         (first | subst eo57 | (injection eo57 with f1_ f2_ f3_; have f4_ := f1_.symm; have f5_ := f3_.symm; clear f1_ f2_ f3_; subst f4_; subst f5_))
         refine start_ (n := 7) (S := fun w' => w'.cell? ⟨gb428, 0, none⟩ = some (.slice Ao57 x429000_2.length co57) ∧ w'.cell? ⟨gb428, 1, none⟩ = some (.int .i64 x429001_2)) (ds := []) #[false, false, false, false, false, false, false] (by kernel_rfl) rfl rfl ⟨(blk_cell BK428.out 0).trans rfl, (blk_cell BK428.out 1).trans rfl⟩ (fun hHeld => ?_)
         generalize wr.drew = w56 at HO_429000 BK428 BK429 BK436 HK HB hHeld ⊢
         refine pure_ (i := 2) (N := some 49) (v := ?_) (a' := ?_) #[false, false, true, false, false, false, false] rfl rfl (by kernel_rfl) (fun _ _ _ h => h) (Or.inl ⟨by rfl, ?_⟩) ?_ ?_
         rotate_left
         ·intro w'
          go_simp
          with_reducible rfl
         rotate_left
         ·simp only [Act.put, List.setIfInBounds_toArray, List.set_cons_zero, List.set_cons_succ, i64_w, i32_w]
          rfl
         refine take_ (i := 0) (N := some 47) (v := ?_) (a' := ?_) #[true, false, true, false, false, false, false] rfl rfl (by kernel_rfl) (fun _ _ _ h => h) (Or.inl ⟨by rfl, ?_⟩) hHeld ?_ ?_
         rotate_left
         ·rintro w' ⟨s0, s1⟩
          go_simp
          with_reducible rfl
         rotate_left
         ·simp only [Act.put, List.setIfInBounds_toArray, List.set_cons_zero, List.set_cons_succ, i64_w, i32_w]
          rfl
         refine take_ (i := 1) (N := some 48) (v := ?_) (a' := ?_) #[true, true, true, false, false, false, false] rfl rfl (by kernel_rfl) (fun _ _ _ h => h) (Or.inl ⟨by rfl, ?_⟩) hHeld ?_ ?_
         rotate_left
         ·rintro w' ⟨s0, s1⟩
          go_simp
          with_reducible rfl
         rotate_left
         ·simp only [Act.put, List.setIfInBounds_toArray, List.set_cons_zero, List.set_cons_succ, i64_w, i32_w]
          rfl
         refine one_ (i := 3) (N := some 50) #[true, true, true, true, false, false, false] rfl rfl (by kernel_rfl) (by decide) (fun K hK => ?_)
         refine goes_ Try.func51 (by kernel_rfl) rfl #[.agg #[.slice Ao57 x429000_2.length co57, .int .i64 x429001_2], .int .i64 x1_2] (by rfl) rfl rfl (by (try simp only [List.map_toArray, List.map_cons, List.map_nil]); try rfl) ?_
         with_reducible refine (turnbuckleref11_Of.calls _ _ x429000_2 x429001_2 x1_2 t452 t453 t454 t455 t456 t457 _ ?side1 ?side2 A44.out).mono ?_
         (case side1 => repeat (first | exact (Kd.R_reads' HO_429000.out).2.2 | (with_reducible refine Kd.C_alloc ?_ _) | (with_reducible refine Kd.C_drewN ?_ _) | (with_reducible refine Kd.C_drew ?_)))
         (case side2 => exact (Kd.R_reads' HO_429000.out).2.1)
         rintro e w58 ⟨rfl, hb⟩
         refine ⟨_, rfl, ?_⟩
         have n0_ := Aside0.mk (Kd.R_below HO_429000.out hb)
         have n1_ := Aside0.mk (blk_below BK428.out hb)
         have n2_ := Aside0.mk (blk_below BK429.out hb)
         have n3_ := Aside0.mk (blk_below BK436.out hb)
         have n4_ := Aside0.mk (Kept.below (S := (fun k_ => P0_0_ k_)) HK.out hb)
         have n5_ := Aside0.mk (below_step HB.out hb)
         clear HO_429000
         clear BK428
         clear BK429
         clear BK436
         clear HK
         clear HB
         have HO_429000 := n0_
         have BK428 := n1_
         have BK429 := n2_
         have BK436 := n3_
         have HK := n4_
         have HB := n5_
         clear n0_ n1_ n2_ n3_ n4_ n5_
         (try clear hb)
         (try clear hb2)
         (try clear hk)
         (try clear hi)
         refine hK.out _ _ ⟨(blk_cell BK428.out 0).trans rfl, (blk_cell BK428.out 1).trans rfl⟩ (fun hHeld => ?_)
         clear hK K
         refine norm_ (a' := ?_) ?_ ?_
         rotate_left
         ·show Act.put _ (some 50) _ = _
          simp only [Act.put, List.setIfInBounds_toArray, List.set_cons_zero, List.set_cons_succ, i64_w, i32_w]
          rfl
         refine pure_ (i := 4) (N := some 51) (v := ?_) (a' := ?_) #[true, true, true, true, true, false, false] rfl rfl (by kernel_rfl) (fun _ _ _ h => h) (Or.inl ⟨by rfl, ?_⟩) ?_ ?_
         rotate_left
         ·intro w'
          go_simp
          with_reducible rfl
         rotate_left
         ·simp only [Act.put, List.setIfInBounds_toArray, List.set_cons_zero, List.set_cons_succ, i64_w, i32_w]
          rfl
         refine one_ (i := 5) (N := some 52) #[true, true, true, true, true, true, false] rfl rfl (by kernel_rfl) (by decide) (fun K hK => ?_)
         refine goes_ Try.func51 (by kernel_rfl) rfl #[.agg #[.slice Ao57 x429000_2.length co57, .int .i64 x429001_2], .int .i64 t455] (by rfl) rfl rfl (by (try simp only [List.map_toArray, List.map_cons, List.map_nil]); try rfl) ?_
         with_reducible refine (turnbuckleref11_Of.calls _ _ x429000_2 x429001_2 t455 t458 t459 t460 t461 t462 true _ ?side1 ?side2 A45.out).mono ?_
         (case side1 => repeat (first | exact (Kd.R_reads' HO_429000.out).2.2 | (with_reducible refine Kd.C_alloc ?_ _) | (with_reducible refine Kd.C_drewN ?_ _) | (with_reducible refine Kd.C_drew ?_)))
         (case side2 => exact (Kd.R_reads' HO_429000.out).2.1)
         rintro e w59 ⟨rfl, hb⟩
         refine ⟨_, rfl, ?_⟩
         have n0_ := Aside0.mk (Kd.R_below HO_429000.out hb)
         have n1_ := Aside0.mk (blk_below BK428.out hb)
         have n2_ := Aside0.mk (blk_below BK429.out hb)
         have n3_ := Aside0.mk (blk_below BK436.out hb)
         have n4_ := Aside0.mk (Kept.below (S := (fun k_ => P0_0_ k_)) HK.out hb)
         have n5_ := Aside0.mk (below_step HB.out hb)
         clear HO_429000
         clear BK428
         clear BK429
         clear BK436
         clear HK
         clear HB
         have HO_429000 := n0_
         have BK428 := n1_
         have BK429 := n2_
         have BK436 := n3_
         have HK := n4_
         have HB := n5_
         clear n0_ n1_ n2_ n3_ n4_ n5_
         (try clear hb)
         (try clear hb2)
         (try clear hk)
         (try clear hi)
         refine hK.out _ _ ⟨(blk_cell BK428.out 0).trans rfl, (blk_cell BK428.out 1).trans rfl⟩ (fun hHeld => ?_)
         clear hK K
         refine norm_ (a' := ?_) ?_ ?_
         rotate_left
         ·show Act.put _ (some 52) _ = _
          simp only [Act.put, List.setIfInBounds_toArray, List.set_cons_zero, List.set_cons_succ, i64_w, i32_w]
          rfl
         refine pure_ (i := 6) (N := some 53) (v := ?_) (a' := ?_) #[true, true, true, true, true, true, true] rfl rfl (by kernel_rfl) (fun _ _ _ h => h) (Or.inl ⟨by rfl, ?_⟩) ?_ ?_
         rotate_left
         ·intro w'
          go_simp
          with_reducible rfl
         rotate_left
         ·simp only [Act.put, List.setIfInBounds_toArray, List.set_cons_zero, List.set_cons_succ, i64_w, i32_w]
          rfl
         refine done_ (by kernel_rfl) ?_
         have hnb60 := NB428_429.out
         have hnc60 := NB429_428.out
         have hnb61 := NB428_436.out
         have hnc61 := NB436_428.out
         have hcz62_0 : w59.cell? ⟨gb428, 0, none⟩ = some (.slice Ao57 x429000_2.length co57) := (blk_cell BK428.out 0).trans rfl
         have hcz62_1 : w59.cell? ⟨gb428, 1, none⟩ = some (.int .i64 x429001_2) := (blk_cell BK428.out 1).trans rfl
         have hfz62_0 := blk_frozen BK428.out 0
         have hfz62_1 := blk_frozen BK428.out 1
         try go_wp2_with (first | ((with_reducible refine gate_callee (f := 51) rfl ?_); refine goesL_ (some 56) rfl rfl Try.func51 (by kernel_rfl) rfl #[.agg #[.slice Ao57 x429000_2.length co57, .int .i64 x429001_2], .int .i64 x1_2] rfl (by (try simp only [List.map_toArray, List.map_cons, List.map_nil]); try rfl) ?_; (with_reducible refine (turnbuckleref11_Of.calls _ _ x429000_2 x429001_2 x1_2 t468 t469 t470 t471 t472 t473 _ ?side1 ?side2 A47.out).mono ?_); (case side1 => repeat (first | exact (Kd.R_reads' HO_429000.out).2.2 | (with_reducible refine Kd.C_alloc ?_ _) | (with_reducible refine Kd.C_drewN ?_ _) | (with_reducible refine Kd.C_drew ?_))); (case side2 => exact (Kd.R_reads' HO_429000.out).2.1); rintro e w63 ⟨rfl, hb⟩; refine ⟨_, rfl, ?_⟩; replace HO_429000 := Aside0.mk (Kd.R_below HO_429000.out hb); replace BK428 := Aside0.mk (blk_below BK428.out hb); replace BK429 := Aside0.mk (blk_below BK429.out hb); replace BK436 := Aside0.mk (blk_below BK436.out hb); replace HK := Aside0.mk (Kept.below (S := (fun k_ => P0_0_ k_)) HK.out hb); replace HB := Aside0.mk (below_step HB.out hb); (try clear hb); (try clear hb2); (try clear hk); (try clear hi); have hcz64_0 : w63.cell? ⟨gb428, 0, none⟩ = some (.slice Ao57 x429000_2.length co57) := (blk_cell BK428.out 0).trans rfl; have hcz64_1 : w63.cell? ⟨gb428, 1, none⟩ = some (.int .i64 x429001_2) := (blk_cell BK428.out 1).trans rfl; have hfz64_0 := blk_frozen BK428.out 0; have hfz64_1 := blk_frozen BK428.out 1) | ((with_reducible refine gate_callee (f := 51) rfl ?_); refine goesL_ (some 60) rfl rfl Try.func51 (by kernel_rfl) rfl #[.agg #[.slice Ao57 x429000_2.length co57, .int .i64 x429001_2], .int .i64 t471] rfl (by (try simp only [List.map_toArray, List.map_cons, List.map_nil]); try rfl) ?_; (with_reducible refine (turnbuckleref11_Of.calls _ _ x429000_2 x429001_2 t471 t474 t475 t476 t477 t478 t479 _ ?side1 ?side2 A48.out).mono ?_); (case side1 => repeat (first | exact (Kd.R_reads' HO_429000.out).2.2 | (with_reducible refine Kd.C_alloc ?_ _) | (with_reducible refine Kd.C_drewN ?_ _) | (with_reducible refine Kd.C_drew ?_))); (case side2 => exact (Kd.R_reads' HO_429000.out).2.1); rintro e w65 ⟨rfl, hb⟩; refine ⟨_, rfl, ?_⟩; replace HO_429000 := Aside0.mk (Kd.R_below HO_429000.out hb); replace BK428 := Aside0.mk (blk_below BK428.out hb); replace BK429 := Aside0.mk (blk_below BK429.out hb); replace BK436 := Aside0.mk (blk_below BK436.out hb); replace HK := Aside0.mk (Kept.below (S := (fun k_ => P0_0_ k_)) HK.out hb); replace HB := Aside0.mk (below_step HB.out hb); (try clear hb); (try clear hb2); (try clear hk); (try clear hi); have hcz66_0 : w65.cell? ⟨gb428, 0, none⟩ = some (.slice Ao57 x429000_2.length co57) := (blk_cell BK428.out 0).trans rfl; have hcz66_1 : w65.cell? ⟨gb428, 1, none⟩ = some (.int .i64 x429001_2) := (blk_cell BK428.out 1).trans rfl; have hfz66_0 := blk_frozen BK428.out 0; have hfz66_1 := blk_frozen BK428.out 1) | ((with_reducible refine gate_callee (f := 58) rfl ?_); refine goesL_ (some 65) rfl rfl Try.func58 (by kernel_rfl) rfl #[.agg #[.slice Ao57 x429000_2.length co57, .int .i64 x429001_2], .int .i64 t477, .int .i64 t471] rfl (by (try simp only [List.map_toArray, List.map_cons, List.map_nil]); try rfl) ?_; (with_reducible refine (turnbuckleref11_onRight.calls _ _ x429000_2 x429001_2 t477 t471 t480 _ ?side1 ?side2 A49.out).mono ?_); (case side1 => repeat (first | exact (Kd.R_reads' HO_429000.out).2.2 | (with_reducible refine Kd.C_alloc ?_ _) | (with_reducible refine Kd.C_drewN ?_ _) | (with_reducible refine Kd.C_drew ?_))); (case side2 => exact (Kd.R_reads' HO_429000.out).2.1); rintro e w67 ⟨rfl, hb⟩; refine ⟨_, rfl, ?_⟩; replace HO_429000 := Aside0.mk (Kd.R_below HO_429000.out hb); replace BK428 := Aside0.mk (blk_below BK428.out hb); replace BK429 := Aside0.mk (blk_below BK429.out hb); replace BK436 := Aside0.mk (blk_below BK436.out hb); replace HK := Aside0.mk (Kept.below (S := (fun k_ => P0_0_ k_)) HK.out hb); replace HB := Aside0.mk (below_step HB.out hb); (try clear hb); (try clear hb2); (try clear hk); (try clear hi); have hcz68_0 : w67.cell? ⟨gb428, 0, none⟩ = some (.slice Ao57 x429000_2.length co57) := (blk_cell BK428.out 0).trans rfl; have hcz68_1 : w67.cell? ⟨gb428, 1, none⟩ = some (.int .i64 x429001_2) := (blk_cell BK428.out 1).trans rfl; have hfz68_0 := blk_frozen BK428.out 0; have hfz68_1 := blk_frozen BK428.out 1) | ((with_reducible refine gate_callee (f := 57) rfl ?_); refine goesL_ (some 70) rfl rfl Try.func57 (by kernel_rfl) rfl #[.agg #[.slice Ao57 x429000_2.length co57, .int .i64 x429001_2], .int .i64 t477, .bool (!t480)] rfl (by (try simp only [List.map_toArray, List.map_cons, List.map_nil]); try rfl) ?_; (with_reducible refine (turnbuckleref11_Child.calls _ _ x429000_2 x429001_2 t477 (!t480) t481 _ ?side1 ?side2 A50.out).mono ?_); (case side1 => repeat (first | exact (Kd.R_reads' HO_429000.out).2.2 | (with_reducible refine Kd.C_alloc ?_ _) | (with_reducible refine Kd.C_drewN ?_ _) | (with_reducible refine Kd.C_drew ?_))); (case side2 => exact (Kd.R_reads' HO_429000.out).2.1); rintro e w69 ⟨rfl, hb⟩; refine ⟨_, rfl, ?_⟩; replace HO_429000 := Aside0.mk (Kd.R_below HO_429000.out hb); replace BK428 := Aside0.mk (blk_below BK428.out hb); replace BK429 := Aside0.mk (blk_below BK429.out hb); replace BK436 := Aside0.mk (blk_below BK436.out hb); replace HK := Aside0.mk (Kept.below (S := (fun k_ => P0_0_ k_)) HK.out hb); replace HB := Aside0.mk (below_step HB.out hb); (try clear hb); (try clear hb2); (try clear hk); (try clear hi); have hcz70_0 : w69.cell? ⟨gb428, 0, none⟩ = some (.slice Ao57 x429000_2.length co57) := (blk_cell BK428.out 0).trans rfl; have hcz70_1 : w69.cell? ⟨gb428, 1, none⟩ = some (.int .i64 x429001_2) := (blk_cell BK428.out 1).trans rfl; have hfz70_0 := blk_frozen BK428.out 0; have hfz70_1 := blk_frozen BK428.out 1) | ((with_reducible refine gate_callee (f := 51) rfl ?_); refine goesL_ (some 73) rfl rfl Try.func51 (by kernel_rfl) rfl #[.agg #[.slice Ao57 x429000_2.length co57, .int .i64 x429001_2], .int .i64 t481] rfl (by (try simp only [List.map_toArray, List.map_cons, List.map_nil]); try rfl) ?_; (with_reducible refine (turnbuckleref11_Of.calls _ _ x429000_2 x429001_2 t481 t482 t483 t484 t485 t486 true _ ?side1 ?side2 A51.out).mono ?_); (case side1 => repeat (first | exact (Kd.R_reads' HO_429000.out).2.2 | (with_reducible refine Kd.C_alloc ?_ _) | (with_reducible refine Kd.C_drewN ?_ _) | (with_reducible refine Kd.C_drew ?_))); (case side2 => exact (Kd.R_reads' HO_429000.out).2.1); rintro e w71 ⟨rfl, hb⟩; refine ⟨_, rfl, ?_⟩; replace HO_429000 := Aside0.mk (Kd.R_below HO_429000.out hb); replace BK428 := Aside0.mk (blk_below BK428.out hb); replace BK429 := Aside0.mk (blk_below BK429.out hb); replace BK436 := Aside0.mk (blk_below BK436.out hb); replace HK := Aside0.mk (Kept.below (S := (fun k_ => P0_0_ k_)) HK.out hb); replace HB := Aside0.mk (below_step HB.out hb); (try clear hb); (try clear hb2); (try clear hk); (try clear hi); have hcz72_0 : w71.cell? ⟨gb428, 0, none⟩ = some (.slice Ao57 x429000_2.length co57) := (blk_cell BK428.out 0).trans rfl; have hcz72_1 : w71.cell? ⟨gb428, 1, none⟩ = some (.int .i64 x429001_2) := (blk_cell BK428.out 1).trans rfl; have hfz72_0 := blk_frozen BK428.out 0; have hfz72_1 := blk_frozen BK428.out 1) | ((with_reducible refine gate_callee (f := 54) rfl ?_); refine goesL_ (some 77) rfl rfl Try.func54 (by kernel_rfl) rfl #[.agg #[.slice Ao57 x429000_2.length co57, .int .i64 x429001_2], .int .i64 t471, .bool false] rfl (by (try simp only [List.map_toArray, List.map_cons, List.map_nil]); try rfl) ?_; (with_reducible refine (turnbuckleref11_paint.calls (fun k_ => some k_ = (.slice Ao57 x429000_2.length co57 : Value).ownBlock) (.slice Ao57 x429000_2.length co57) x429000_2 x429001_2 t471 false t488 t491 w0 _ ?side1 ?side2 A53.out).mono ?_); (case side1 => repeat (first | (with_reducible first | exact HB.out | refine below_set ?_ GE428.out | refine below_set ?_ GE429.out | refine below_set ?_ GE436.out) | exact HB.out)); (case side2 => exact Kd.R_tight rfl HO_429000.out); rintro e w73 ⟨v489, rfl, ho0, hb, hkp⟩; refine ⟨_, rfl, ?_⟩; have HO490 := Aside0.mk (Kd.R_mono (ok' := fun k_ => (P0_0_ k_ ∨ w.heap.size ≤ k_) ∧ k_ ≠ gb436) ho0 (fun k_ hk_ => ⟨Or.elim hk_ (fun hs_ => (HO_429000.out.1 k_ (hs_).symm).1) (fun hn_ => (.inr (Nat.le_trans HK.out.1 hn_))), Or.elim hk_ (fun hs_ => fun e_ => (Kd.R_away HO_429000.out (fun _ hk => hk.2)) (by rw [← e_]; exact hs_)) (fun hn_ => (Kd.freshB BK436.out k_ hn_))⟩)); replace BK428 := Aside0.mk (blk_kept BK428.out hkp (fun hs_ => (fun e_ => (Kd.R_ne HO_429000.out BK428.out (by decide)) e_) hs_)); replace BK429 := Aside0.mk (blk_kept BK429.out hkp (fun hs_ => (fun e_ => (Kd.R_ne HO_429000.out BK429.out (by decide)) e_) hs_)); replace BK436 := Aside0.mk (blk_kept BK436.out hkp (fun hs_ => (fun e_ => (Kd.R_away HO_429000.out (fun _ hk => hk.2)) e_) hs_)); replace HK := Aside0.mk (Kept.then_ (S := (fun k_ => P0_0_ k_)) HK.out hkp (fun k_ hs_ => (fun e_ => (HO_429000.out.1 k_ e_.symm).1) hs_)); replace HB := Aside0.mk (hb); clear HO_429000; (try clear hb); (try clear hkp); (try clear ho0); obtain ⟨Ao74, co74, eo74⟩ := Kd.R_slice HO490.out; subst eo74; have hcz75_0 : w73.cell? ⟨gb428, 0, none⟩ = some (.slice Ao57 x429000_2.length co57) := (blk_cell BK428.out 0).trans rfl; have hcz75_1 : w73.cell? ⟨gb428, 1, none⟩ = some (.int .i64 x429001_2) := (blk_cell BK428.out 1).trans rfl; have hfz75_0 := blk_frozen BK428.out 0; have hfz75_1 := blk_frozen BK428.out 1) | ((with_reducible refine gate_store (t := 49) (p := 2) rfl ?_); refine store_event (t := 49) (p := 2) (v := ?vo_w76) (w1 := ((w73.setCell ⟨gb428, 0, none⟩ (.slice Ao74 t488.length co74)).setCell ⟨gb428, 1, none⟩ (.int .i64 t491))) ?hg ?ho ?hn ?hr ?_; (case ho => rfl); (case hg => rfl); (case hn => rfl); (case hr => first | (go_simp; done) | (go_simp; rfl)); intro w76 hw; replace HO490 : Aside0 (Kd.R k80 80 w76 w0.heap.size (fun k_ => (P0_0_ k_ ∨ w.heap.size ≤ k_) ∧ k_ ≠ gb436) (.slice Ao74 t488.length co74) t488) := ⟨(by rw [hw]; exact (by exact Kd.R_mono (Kd.R_far (p := ⟨gb428, 1, none⟩) (Kd.R_far (p := ⟨gb428, 0, none⟩) (Kd.R_types HO490.out BK428.out (by decide)) (fun _ hk => hk.2) (.slice Ao74 t488.length co74)) (fun _ hk => hk.2) (.int .i64 t491)) (fun _ hk => ⟨hk.1.1, hk.1.2⟩)))⟩; replace BK428 : Aside0 (w76.heap[gb428]? = some (.cells #[.slice Ao74 t488.length co74, .int .i64 t491] 49 (0, 0))) := ⟨(by rw [hw]; exact (by refine blk_put (cs := #[.slice Ao74 t488.length co74, .int .i64 x429001_2]) ?_ 1 _ rfl; refine blk_put (cs := #[.slice Ao57 x429000_2.length co57, .int .i64 x429001_2]) ?_ 0 _ rfl; exact BK428.out))⟩; replace BK429 : Aside0 (w76.heap[gb429]? = some (.cells #[.slice none 0 0, .int .i64 0] 49 (0, 0))) := ⟨(by rw [hw]; exact (by refine blk_far ?_ NB429_428.out _; refine blk_far ?_ NB429_428.out _; exact BK429.out))⟩; replace BK436 : Aside0 (w76.heap[gb436]? = some (.cells #[.int .u64 t430, .int .i64 t431, .int .i64 t432, .int .i64 t433, .bool false, .bool t435] 80 (0, 0))) := ⟨(by rw [hw]; exact (by refine blk_far ?_ NB436_428.out _; refine blk_far ?_ NB436_428.out _; exact BK436.out))⟩; replace HK : Aside0 (Kept w w76 (fun k_ => P0_0_ k_)) := ⟨(by rw [hw]; repeat (with_reducible first | exact HK.out | refine Kept.setCell ?_ (.inr GW428.out) _ | refine Kept.setCell ?_ (.inr GW429.out) _ | refine Kept.setCell ?_ (.inr GW436.out) _))⟩; replace HB : Aside0 (Below w0.heap.size w0 w76) := ⟨(by rw [hw]; repeat (with_reducible first | exact HB.out | refine below_set ?_ GE428.out | refine below_set ?_ GE429.out | refine below_set ?_ GE436.out))⟩; clear hw; have hcz77_0 : w76.cell? ⟨gb428, 0, none⟩ = some (.slice Ao74 t488.length co74) := (blk_cell BK428.out 0).trans rfl; have hcz77_1 : w76.cell? ⟨gb428, 1, none⟩ = some (.int .i64 t491) := (blk_cell BK428.out 1).trans rfl; have hfz77_0 := blk_frozen BK428.out 0; have hfz77_1 := blk_frozen BK428.out 1) | ((with_reducible refine gate_callee (f := 54) rfl ?_); refine goesL_ (some 80) rfl rfl Try.func54 (by kernel_rfl) rfl #[.agg #[.slice Ao74 t488.length co74, .int .i64 t491], .int .i64 t481, .bool false] rfl (by (try simp only [List.map_toArray, List.map_cons, List.map_nil]); try rfl) ?_; (with_reducible refine (turnbuckleref11_paint.calls (fun k_ => some k_ = (.slice Ao74 t488.length co74 : Value).ownBlock) (.slice Ao74 t488.length co74) t488 t491 t481 false t492 t495 w0 _ ?side1 ?side2 A54.out).mono ?_); (case side1 => repeat (first | (with_reducible first | exact HB.out | refine below_set ?_ GE428.out | refine below_set ?_ GE429.out | refine below_set ?_ GE436.out) | exact HB.out)); (case side2 => exact Kd.R_tight rfl HO490.out); rintro e w78 ⟨v493, rfl, ho0, hb, hkp⟩; refine ⟨_, rfl, ?_⟩; have HO494 := Aside0.mk (Kd.R_mono (ok' := fun k_ => (P0_0_ k_ ∨ w.heap.size ≤ k_) ∧ k_ ≠ gb436) ho0 (fun k_ hk_ => ⟨Or.elim hk_ (fun hs_ => (HO490.out.1 k_ (hs_).symm).1) (fun hn_ => (.inr (Nat.le_trans HK.out.1 hn_))), Or.elim hk_ (fun hs_ => fun e_ => (Kd.R_away HO490.out (fun _ hk => hk.2)) (by rw [← e_]; exact hs_)) (fun hn_ => (Kd.freshB BK436.out k_ hn_))⟩)); replace BK428 := Aside0.mk (blk_kept BK428.out hkp (fun hs_ => (fun e_ => (Kd.R_ne HO490.out BK428.out (by decide)) e_) hs_)); replace BK429 := Aside0.mk (blk_kept BK429.out hkp (fun hs_ => (fun e_ => (Kd.R_ne HO490.out BK429.out (by decide)) e_) hs_)); replace BK436 := Aside0.mk (blk_kept BK436.out hkp (fun hs_ => (fun e_ => (Kd.R_away HO490.out (fun _ hk => hk.2)) e_) hs_)); replace HK := Aside0.mk (Kept.then_ (S := (fun k_ => P0_0_ k_)) HK.out hkp (fun k_ hs_ => (fun e_ => (HO490.out.1 k_ e_.symm).1) hs_)); replace HB := Aside0.mk (hb); clear HO490; (try clear hb); (try clear hkp); (try clear ho0); obtain ⟨Ao79, co79, eo79⟩ := Kd.R_slice HO494.out; subst eo79; have hcz80_0 : w78.cell? ⟨gb428, 0, none⟩ = some (.slice Ao74 t488.length co74) := (blk_cell BK428.out 0).trans rfl; have hcz80_1 : w78.cell? ⟨gb428, 1, none⟩ = some (.int .i64 t491) := (blk_cell BK428.out 1).trans rfl; have hfz80_0 := blk_frozen BK428.out 0; have hfz80_1 := blk_frozen BK428.out 1) | ((with_reducible refine gate_store (t := 49) (p := 2) rfl ?_); refine store_event (t := 49) (p := 2) (v := ?vo_w81) (w1 := ((w78.setCell ⟨gb428, 0, none⟩ (.slice Ao79 t492.length co79)).setCell ⟨gb428, 1, none⟩ (.int .i64 t495))) ?hg ?ho ?hn ?hr ?_; (case ho => rfl); (case hg => rfl); (case hn => rfl); (case hr => first | (go_simp; done) | (go_simp; rfl)); intro w81 hw; replace HO494 : Aside0 (Kd.R k80 80 w81 w0.heap.size (fun k_ => (P0_0_ k_ ∨ w.heap.size ≤ k_) ∧ k_ ≠ gb436) (.slice Ao79 t492.length co79) t492) := ⟨(by rw [hw]; exact (by exact Kd.R_mono (Kd.R_far (p := ⟨gb428, 1, none⟩) (Kd.R_far (p := ⟨gb428, 0, none⟩) (Kd.R_types HO494.out BK428.out (by decide)) (fun _ hk => hk.2) (.slice Ao79 t492.length co79)) (fun _ hk => hk.2) (.int .i64 t495)) (fun _ hk => ⟨hk.1.1, hk.1.2⟩)))⟩; replace BK428 : Aside0 (w81.heap[gb428]? = some (.cells #[.slice Ao79 t492.length co79, .int .i64 t495] 49 (0, 0))) := ⟨(by rw [hw]; exact (by refine blk_put (cs := #[.slice Ao79 t492.length co79, .int .i64 t491]) ?_ 1 _ rfl; refine blk_put (cs := #[.slice Ao74 t488.length co74, .int .i64 t491]) ?_ 0 _ rfl; exact BK428.out))⟩; replace BK429 : Aside0 (w81.heap[gb429]? = some (.cells #[.slice none 0 0, .int .i64 0] 49 (0, 0))) := ⟨(by rw [hw]; exact (by refine blk_far ?_ NB429_428.out _; refine blk_far ?_ NB429_428.out _; exact BK429.out))⟩; replace BK436 : Aside0 (w81.heap[gb436]? = some (.cells #[.int .u64 t430, .int .i64 t431, .int .i64 t432, .int .i64 t433, .bool false, .bool t435] 80 (0, 0))) := ⟨(by rw [hw]; exact (by refine blk_far ?_ NB436_428.out _; refine blk_far ?_ NB436_428.out _; exact BK436.out))⟩; replace HK : Aside0 (Kept w w81 (fun k_ => P0_0_ k_)) := ⟨(by rw [hw]; repeat (with_reducible first | exact HK.out | refine Kept.setCell ?_ (.inr GW428.out) _ | refine Kept.setCell ?_ (.inr GW429.out) _ | refine Kept.setCell ?_ (.inr GW436.out) _))⟩; replace HB : Aside0 (Below w0.heap.size w0 w81) := ⟨(by rw [hw]; repeat (with_reducible first | exact HB.out | refine below_set ?_ GE428.out | refine below_set ?_ GE429.out | refine below_set ?_ GE436.out))⟩; clear hw; have hcz82_0 : w81.cell? ⟨gb428, 0, none⟩ = some (.slice Ao79 t492.length co79) := (blk_cell BK428.out 0).trans rfl; have hcz82_1 : w81.cell? ⟨gb428, 1, none⟩ = some (.int .i64 t495) := (blk_cell BK428.out 1).trans rfl; have hfz82_0 := blk_frozen BK428.out 0; have hfz82_1 := blk_frozen BK428.out 1) | ((with_reducible refine gate_callee (f := 54) rfl ?_); refine goesL_ (some 83) rfl rfl Try.func54 (by kernel_rfl) rfl #[.agg #[.slice Ao79 t492.length co79, .int .i64 t495], .int .i64 t477, .bool true] rfl (by (try simp only [List.map_toArray, List.map_cons, List.map_nil]); try rfl) ?_; (with_reducible refine (turnbuckleref11_paint.calls (fun k_ => some k_ = (.slice Ao79 t492.length co79 : Value).ownBlock) (.slice Ao79 t492.length co79) t492 t495 t477 true t496 t499 w0 _ ?side1 ?side2 A55.out).mono ?_); (case side1 => repeat (first | (with_reducible first | exact HB.out | refine below_set ?_ GE428.out | refine below_set ?_ GE429.out | refine below_set ?_ GE436.out) | exact HB.out)); (case side2 => exact Kd.R_tight rfl HO494.out); rintro e w83 ⟨v497, rfl, ho0, hb, hkp⟩; refine ⟨_, rfl, ?_⟩; have HO498 := Aside0.mk (Kd.R_mono (ok' := fun k_ => (P0_0_ k_ ∨ w.heap.size ≤ k_) ∧ k_ ≠ gb436) ho0 (fun k_ hk_ => ⟨Or.elim hk_ (fun hs_ => (HO494.out.1 k_ (hs_).symm).1) (fun hn_ => (.inr (Nat.le_trans HK.out.1 hn_))), Or.elim hk_ (fun hs_ => fun e_ => (Kd.R_away HO494.out (fun _ hk => hk.2)) (by rw [← e_]; exact hs_)) (fun hn_ => (Kd.freshB BK436.out k_ hn_))⟩)); replace BK428 := Aside0.mk (blk_kept BK428.out hkp (fun hs_ => (fun e_ => (Kd.R_ne HO494.out BK428.out (by decide)) e_) hs_)); replace BK429 := Aside0.mk (blk_kept BK429.out hkp (fun hs_ => (fun e_ => (Kd.R_ne HO494.out BK429.out (by decide)) e_) hs_)); replace BK436 := Aside0.mk (blk_kept BK436.out hkp (fun hs_ => (fun e_ => (Kd.R_away HO494.out (fun _ hk => hk.2)) e_) hs_)); replace HK := Aside0.mk (Kept.then_ (S := (fun k_ => P0_0_ k_)) HK.out hkp (fun k_ hs_ => (fun e_ => (HO494.out.1 k_ e_.symm).1) hs_)); replace HB := Aside0.mk (hb); clear HO494; (try clear hb); (try clear hkp); (try clear ho0); obtain ⟨Ao84, co84, eo84⟩ := Kd.R_slice HO498.out; subst eo84; have hcz85_0 : w83.cell? ⟨gb428, 0, none⟩ = some (.slice Ao79 t492.length co79) := (blk_cell BK428.out 0).trans rfl; have hcz85_1 : w83.cell? ⟨gb428, 1, none⟩ = some (.int .i64 t495) := (blk_cell BK428.out 1).trans rfl; have hfz85_0 := blk_frozen BK428.out 0; have hfz85_1 := blk_frozen BK428.out 1))
         go_roundg k2
         case measure => have := HK1.out; have := HK2.out; omega
         case rel => exact ⟨(t477), (t496), (t499), (.slice Ao84 t496.length co84), (by first | rfl | (simp; done) | (simp [*]; done)), H', ⟨by have := HK1.out; have := HK2.out; omega⟩, ⟨by exact Kd.R_mono (Kd.R_far (p := ⟨gb428, 1, none⟩) (Kd.R_far (p := ⟨gb428, 0, none⟩) (Kd.R_types HO498.out BK428.out (by decide)) (fun _ hk => hk.2) (.slice Ao84 t496.length co84)) (fun _ hk => hk.2) (.int .i64 t499)) (fun _ hk => ⟨hk.1.1, hk.1.2⟩)⟩, ⟨by refine blk_put (cs := #[.slice Ao84 t496.length co84, .int .i64 t495]) ?_ 1 _ rfl; refine blk_put (cs := #[.slice Ao79 t492.length co79, .int .i64 t495]) ?_ 0 _ rfl; exact BK428.out⟩, ⟨by refine blk_far ?_ NB429_428.out _; refine blk_far ?_ NB429_428.out _; exact BK429.out⟩, ⟨by refine blk_far ?_ NB436_428.out _; refine blk_far ?_ NB436_428.out _; exact BK436.out⟩, ⟨by repeat (first | (with_reducible first | exact HK.out | refine Kept.setCell ?_ (.inr GW428.out) _ | refine Kept.setCell ?_ (.inr GW429.out) _ | refine Kept.setCell ?_ (.inr GW436.out) _) | exact HK.out)⟩, ⟨by repeat (first | (with_reducible first | exact HB.out | refine below_set ?_ GE428.out | refine below_set ?_ GE429.out | refine below_set ?_ GE436.out) | exact HB.out)⟩⟩
        ·replace c52 := Bool.eq_false_iff.mpr c52
         subst c52
         have H1 : ((turnbuckleref11_onRight.f x429000_2 x429001_2 t471 x1_2).bind fun t500 => (if (t500 != t480) = true then ((turnbuckleref11_turn.f x429000_2 x429001_2 t471 t480).bind fun bt501 => ((turnbuckleref11_paint.f bt501.1 bt501.2 x1_2 false).bind fun bt505 => ((turnbuckleref11_paint.f bt505.1 bt505.2 t477 true).bind fun bt509 => ((turnbuckleref11_turn.f bt509.1 bt509.2 t477 (!t480)).bind fun bt513 => (turnbuckleref11_Add.l1 k2 t471 bt513.1 bt513.2))))) else ((turnbuckleref11_paint.f x429000_2 x429001_2 t471 false).bind fun bt517 => ((turnbuckleref11_paint.f bt517.1 bt517.2 t477 true).bind fun bt521 => ((turnbuckleref11_turn.f bt521.1 bt521.2 t477 (!t480)).bind fun bt525 => (turnbuckleref11_Add.l1 k2 x1_2 bt525.1 bt525.2)))))) = some (r1, r2, r3) := by rw [if_neg (show ¬ (false = true) by decide)] at H; exact H
         clear H
         have H := H1
         clear H1
         replace H := Option.bind_eq_some_iff.mp H
         obtain ⟨t500, A860, H⟩ := H
         replace H : (if (t500 != t480) = true then ((turnbuckleref11_turn.f x429000_2 x429001_2 t471 t480).bind fun bt501 => ((turnbuckleref11_paint.f bt501.1 bt501.2 x1_2 false).bind fun bt505 => ((turnbuckleref11_paint.f bt505.1 bt505.2 t477 true).bind fun bt509 => ((turnbuckleref11_turn.f bt509.1 bt509.2 t477 (!t480)).bind fun bt513 => (turnbuckleref11_Add.l1 k2 t471 bt513.1 bt513.2))))) else ((turnbuckleref11_paint.f x429000_2 x429001_2 t471 false).bind fun bt517 => ((turnbuckleref11_paint.f bt517.1 bt517.2 t477 true).bind fun bt521 => ((turnbuckleref11_turn.f bt521.1 bt521.2 t477 (!t480)).bind fun bt525 => (turnbuckleref11_Add.l1 k2 x1_2 bt525.1 bt525.2))))) = some (r1, r2, r3) := H
         have A86 := Aside0.mk A860
         clear A860
         by_cases c87 : (t500 != t480) = true
         ·rw [if_pos c87] at H
          have c87b0 : (t500 != t480) = true := c87
          (try (have c87b1 : decide (t500 = t480) = false := by simpa using c87))
          (try (have c87b2 : (t500 == t480) = false := by simpa using c87))
          (try (have c87b3 : ¬ (t500 = t480) := by simpa using c87))
          clear c87
          replace H := Option.bind_eq_some_iff.mp H
          obtain ⟨⟨t501, t504⟩, A880, H⟩ := H
          replace H : ((turnbuckleref11_paint.f t501 t504 x1_2 false).bind fun bt505 => ((turnbuckleref11_paint.f bt505.1 bt505.2 t477 true).bind fun bt509 => ((turnbuckleref11_turn.f bt509.1 bt509.2 t477 (!t480)).bind fun bt513 => (turnbuckleref11_Add.l1 k2 t471 bt513.1 bt513.2)))) = some (r1, r2, r3) := H
          have A88 := Aside0.mk A880
          clear A880
          replace H := Option.bind_eq_some_iff.mp H
          obtain ⟨⟨t505, t508⟩, A890, H⟩ := H
          replace H : ((turnbuckleref11_paint.f t505 t508 t477 true).bind fun bt509 => ((turnbuckleref11_turn.f bt509.1 bt509.2 t477 (!t480)).bind fun bt513 => (turnbuckleref11_Add.l1 k2 t471 bt513.1 bt513.2))) = some (r1, r2, r3) := H
          have A89 := Aside0.mk A890
          clear A890
          replace H := Option.bind_eq_some_iff.mp H
          obtain ⟨⟨t509, t512⟩, A900, H⟩ := H
          replace H : ((turnbuckleref11_turn.f t509 t512 t477 (!t480)).bind fun bt513 => (turnbuckleref11_Add.l1 k2 t471 bt513.1 bt513.2)) = some (r1, r2, r3) := H
          have A90 := Aside0.mk A900
          clear A900
          replace H := Option.bind_eq_some_iff.mp H
          obtain ⟨⟨t513, t516⟩, A910, H⟩ := H
          replace H : (turnbuckleref11_Add.l1 k2 t471 t513 t516) = some (r1, r2, r3) := H
          have A91 := Aside0.mk A910
          clear A910
          have H' := Aside0.mk H
          clear H
          try go_wp2
          have n0_ := Aside0.mk (Kd.R_drew HO_429000.out)
          have n1_ := Aside0.mk (blk_drew BK428.out)
          have n2_ := Aside0.mk (blk_drew BK429.out)
          have n3_ := Aside0.mk (blk_drew BK436.out)
          have n4_ := Aside0.mk (Kept.drew HK.out)
          have n5_ := Aside0.mk (below_drew1 HB.out)
          clear HO_429000
          clear BK428
          clear BK429
          clear BK436
          clear HK
          clear HB
          have HO_429000 := n0_
          have BK428 := n1_
          have BK429 := n2_
          have BK436 := n3_
          have HK := n4_
          have HB := n5_
          clear n0_ n1_ n2_ n3_ n4_ n5_
          obtain ⟨Ao93, co93, eo93⟩ := Kd.R_slice HO_429000.out
          (first | subst eo93 | (injection eo93 with f1_ f2_ f3_; have f4_ := f1_.symm; have f5_ := f3_.symm; clear f1_ f2_ f3_; subst f4_; subst f5_))
          refine start_ (n := 7) (S := fun w' => w'.cell? ⟨gb428, 0, none⟩ = some (.slice Ao93 x429000_2.length co93) ∧ w'.cell? ⟨gb428, 1, none⟩ = some (.int .i64 x429001_2)) (ds := []) #[false, false, false, false, false, false, false] (by kernel_rfl) rfl rfl ⟨(blk_cell BK428.out 0).trans rfl, (blk_cell BK428.out 1).trans rfl⟩ (fun hHeld => ?_)
          generalize wr.drew = w92 at HO_429000 BK428 BK429 BK436 HK HB hHeld ⊢
          refine pure_ (i := 2) (N := some 49) (v := ?_) (a' := ?_) #[false, false, true, false, false, false, false] rfl rfl (by kernel_rfl) (fun _ _ _ h => h) (Or.inl ⟨by rfl, ?_⟩) ?_ ?_
          rotate_left
          ·intro w'
           go_simp
           with_reducible rfl
          rotate_left
          ·simp only [Act.put, List.setIfInBounds_toArray, List.set_cons_zero, List.set_cons_succ, i64_w, i32_w]
           rfl
          refine take_ (i := 0) (N := some 47) (v := ?_) (a' := ?_) #[true, false, true, false, false, false, false] rfl rfl (by kernel_rfl) (fun _ _ _ h => h) (Or.inl ⟨by rfl, ?_⟩) hHeld ?_ ?_
          rotate_left
          ·rintro w' ⟨s0, s1⟩
           go_simp
           with_reducible rfl
          rotate_left
          ·simp only [Act.put, List.setIfInBounds_toArray, List.set_cons_zero, List.set_cons_succ, i64_w, i32_w]
           rfl
          refine take_ (i := 1) (N := some 48) (v := ?_) (a' := ?_) #[true, true, true, false, false, false, false] rfl rfl (by kernel_rfl) (fun _ _ _ h => h) (Or.inl ⟨by rfl, ?_⟩) hHeld ?_ ?_
          rotate_left
          ·rintro w' ⟨s0, s1⟩
           go_simp
           with_reducible rfl
          rotate_left
          ·simp only [Act.put, List.setIfInBounds_toArray, List.set_cons_zero, List.set_cons_succ, i64_w, i32_w]
           rfl
          refine one_ (i := 3) (N := some 50) #[true, true, true, true, false, false, false] rfl rfl (by kernel_rfl) (by decide) (fun K hK => ?_)
          refine goes_ Try.func51 (by kernel_rfl) rfl #[.agg #[.slice Ao93 x429000_2.length co93, .int .i64 x429001_2], .int .i64 x1_2] (by rfl) rfl rfl (by (try simp only [List.map_toArray, List.map_cons, List.map_nil]); try rfl) ?_
          with_reducible refine (turnbuckleref11_Of.calls _ _ x429000_2 x429001_2 x1_2 t452 t453 t454 t455 t456 t457 _ ?side1 ?side2 A44.out).mono ?_
          (case side1 => repeat (first | exact (Kd.R_reads' HO_429000.out).2.2 | (with_reducible refine Kd.C_alloc ?_ _) | (with_reducible refine Kd.C_drewN ?_ _) | (with_reducible refine Kd.C_drew ?_)))
          (case side2 => exact (Kd.R_reads' HO_429000.out).2.1)
          rintro e w94 ⟨rfl, hb⟩
          refine ⟨_, rfl, ?_⟩
          have n0_ := Aside0.mk (Kd.R_below HO_429000.out hb)
          have n1_ := Aside0.mk (blk_below BK428.out hb)
          have n2_ := Aside0.mk (blk_below BK429.out hb)
          have n3_ := Aside0.mk (blk_below BK436.out hb)
          have n4_ := Aside0.mk (Kept.below (S := (fun k_ => P0_0_ k_)) HK.out hb)
          have n5_ := Aside0.mk (below_step HB.out hb)
          clear HO_429000
          clear BK428
          clear BK429
          clear BK436
          clear HK
          clear HB
          have HO_429000 := n0_
          have BK428 := n1_
          have BK429 := n2_
          have BK436 := n3_
          have HK := n4_
          have HB := n5_
          clear n0_ n1_ n2_ n3_ n4_ n5_
          (try clear hb)
          (try clear hb2)
          (try clear hk)
          (try clear hi)
          refine hK.out _ _ ⟨(blk_cell BK428.out 0).trans rfl, (blk_cell BK428.out 1).trans rfl⟩ (fun hHeld => ?_)
          clear hK K
          refine norm_ (a' := ?_) ?_ ?_
          rotate_left
          ·show Act.put _ (some 50) _ = _
           simp only [Act.put, List.setIfInBounds_toArray, List.set_cons_zero, List.set_cons_succ, i64_w, i32_w]
           rfl
          refine pure_ (i := 4) (N := some 51) (v := ?_) (a' := ?_) #[true, true, true, true, true, false, false] rfl rfl (by kernel_rfl) (fun _ _ _ h => h) (Or.inl ⟨by rfl, ?_⟩) ?_ ?_
          rotate_left
          ·intro w'
           go_simp
           with_reducible rfl
          rotate_left
          ·simp only [Act.put, List.setIfInBounds_toArray, List.set_cons_zero, List.set_cons_succ, i64_w, i32_w]
           rfl
          refine one_ (i := 5) (N := some 52) #[true, true, true, true, true, true, false] rfl rfl (by kernel_rfl) (by decide) (fun K hK => ?_)
          refine goes_ Try.func51 (by kernel_rfl) rfl #[.agg #[.slice Ao93 x429000_2.length co93, .int .i64 x429001_2], .int .i64 t455] (by rfl) rfl rfl (by (try simp only [List.map_toArray, List.map_cons, List.map_nil]); try rfl) ?_
          with_reducible refine (turnbuckleref11_Of.calls _ _ x429000_2 x429001_2 t455 t458 t459 t460 t461 t462 true _ ?side1 ?side2 A45.out).mono ?_
          (case side1 => repeat (first | exact (Kd.R_reads' HO_429000.out).2.2 | (with_reducible refine Kd.C_alloc ?_ _) | (with_reducible refine Kd.C_drewN ?_ _) | (with_reducible refine Kd.C_drew ?_)))
          (case side2 => exact (Kd.R_reads' HO_429000.out).2.1)
          rintro e w95 ⟨rfl, hb⟩
          refine ⟨_, rfl, ?_⟩
          have n0_ := Aside0.mk (Kd.R_below HO_429000.out hb)
          have n1_ := Aside0.mk (blk_below BK428.out hb)
          have n2_ := Aside0.mk (blk_below BK429.out hb)
          have n3_ := Aside0.mk (blk_below BK436.out hb)
          have n4_ := Aside0.mk (Kept.below (S := (fun k_ => P0_0_ k_)) HK.out hb)
          have n5_ := Aside0.mk (below_step HB.out hb)
          clear HO_429000
          clear BK428
          clear BK429
          clear BK436
          clear HK
          clear HB
          have HO_429000 := n0_
          have BK428 := n1_
          have BK429 := n2_
          have BK436 := n3_
          have HK := n4_
          have HB := n5_
          clear n0_ n1_ n2_ n3_ n4_ n5_
          (try clear hb)
          (try clear hb2)
          (try clear hk)
          (try clear hi)
          refine hK.out _ _ ⟨(blk_cell BK428.out 0).trans rfl, (blk_cell BK428.out 1).trans rfl⟩ (fun hHeld => ?_)
          clear hK K
          refine norm_ (a' := ?_) ?_ ?_
          rotate_left
          ·show Act.put _ (some 52) _ = _
           simp only [Act.put, List.setIfInBounds_toArray, List.set_cons_zero, List.set_cons_succ, i64_w, i32_w]
           rfl
          refine pure_ (i := 6) (N := some 53) (v := ?_) (a' := ?_) #[true, true, true, true, true, true, true] rfl rfl (by kernel_rfl) (fun _ _ _ h => h) (Or.inl ⟨by rfl, ?_⟩) ?_ ?_
          rotate_left
          ·intro w'
           go_simp
           with_reducible rfl
          rotate_left
          ·simp only [Act.put, List.setIfInBounds_toArray, List.set_cons_zero, List.set_cons_succ, i64_w, i32_w]
           rfl
          refine done_ (by kernel_rfl) ?_
          have hnb96 := NB428_429.out
          have hnc96 := NB429_428.out
          have hnb97 := NB428_436.out
          have hnc97 := NB436_428.out
          have hcz98_0 : w95.cell? ⟨gb428, 0, none⟩ = some (.slice Ao93 x429000_2.length co93) := (blk_cell BK428.out 0).trans rfl
          have hcz98_1 : w95.cell? ⟨gb428, 1, none⟩ = some (.int .i64 x429001_2) := (blk_cell BK428.out 1).trans rfl
          have hfz98_0 := blk_frozen BK428.out 0
          have hfz98_1 := blk_frozen BK428.out 1
          try go_wp2_with (first | ((with_reducible refine gate_callee (f := 51) rfl ?_); refine goesL_ (some 56) rfl rfl Try.func51 (by kernel_rfl) rfl #[.agg #[.slice Ao93 x429000_2.length co93, .int .i64 x429001_2], .int .i64 x1_2] rfl (by (try simp only [List.map_toArray, List.map_cons, List.map_nil]); try rfl) ?_; (with_reducible refine (turnbuckleref11_Of.calls _ _ x429000_2 x429001_2 x1_2 t468 t469 t470 t471 t472 t473 _ ?side1 ?side2 A47.out).mono ?_); (case side1 => repeat (first | exact (Kd.R_reads' HO_429000.out).2.2 | (with_reducible refine Kd.C_alloc ?_ _) | (with_reducible refine Kd.C_drewN ?_ _) | (with_reducible refine Kd.C_drew ?_))); (case side2 => exact (Kd.R_reads' HO_429000.out).2.1); rintro e w99 ⟨rfl, hb⟩; refine ⟨_, rfl, ?_⟩; replace HO_429000 := Aside0.mk (Kd.R_below HO_429000.out hb); replace BK428 := Aside0.mk (blk_below BK428.out hb); replace BK429 := Aside0.mk (blk_below BK429.out hb); replace BK436 := Aside0.mk (blk_below BK436.out hb); replace HK := Aside0.mk (Kept.below (S := (fun k_ => P0_0_ k_)) HK.out hb); replace HB := Aside0.mk (below_step HB.out hb); (try clear hb); (try clear hb2); (try clear hk); (try clear hi); have hcz100_0 : w99.cell? ⟨gb428, 0, none⟩ = some (.slice Ao93 x429000_2.length co93) := (blk_cell BK428.out 0).trans rfl; have hcz100_1 : w99.cell? ⟨gb428, 1, none⟩ = some (.int .i64 x429001_2) := (blk_cell BK428.out 1).trans rfl; have hfz100_0 := blk_frozen BK428.out 0; have hfz100_1 := blk_frozen BK428.out 1) | ((with_reducible refine gate_callee (f := 51) rfl ?_); refine goesL_ (some 60) rfl rfl Try.func51 (by kernel_rfl) rfl #[.agg #[.slice Ao93 x429000_2.length co93, .int .i64 x429001_2], .int .i64 t471] rfl (by (try simp only [List.map_toArray, List.map_cons, List.map_nil]); try rfl) ?_; (with_reducible refine (turnbuckleref11_Of.calls _ _ x429000_2 x429001_2 t471 t474 t475 t476 t477 t478 t479 _ ?side1 ?side2 A48.out).mono ?_); (case side1 => repeat (first | exact (Kd.R_reads' HO_429000.out).2.2 | (with_reducible refine Kd.C_alloc ?_ _) | (with_reducible refine Kd.C_drewN ?_ _) | (with_reducible refine Kd.C_drew ?_))); (case side2 => exact (Kd.R_reads' HO_429000.out).2.1); rintro e w101 ⟨rfl, hb⟩; refine ⟨_, rfl, ?_⟩; replace HO_429000 := Aside0.mk (Kd.R_below HO_429000.out hb); replace BK428 := Aside0.mk (blk_below BK428.out hb); replace BK429 := Aside0.mk (blk_below BK429.out hb); replace BK436 := Aside0.mk (blk_below BK436.out hb); replace HK := Aside0.mk (Kept.below (S := (fun k_ => P0_0_ k_)) HK.out hb); replace HB := Aside0.mk (below_step HB.out hb); (try clear hb); (try clear hb2); (try clear hk); (try clear hi); have hcz102_0 : w101.cell? ⟨gb428, 0, none⟩ = some (.slice Ao93 x429000_2.length co93) := (blk_cell BK428.out 0).trans rfl; have hcz102_1 : w101.cell? ⟨gb428, 1, none⟩ = some (.int .i64 x429001_2) := (blk_cell BK428.out 1).trans rfl; have hfz102_0 := blk_frozen BK428.out 0; have hfz102_1 := blk_frozen BK428.out 1) | ((with_reducible refine gate_callee (f := 58) rfl ?_); refine goesL_ (some 65) rfl rfl Try.func58 (by kernel_rfl) rfl #[.agg #[.slice Ao93 x429000_2.length co93, .int .i64 x429001_2], .int .i64 t477, .int .i64 t471] rfl (by (try simp only [List.map_toArray, List.map_cons, List.map_nil]); try rfl) ?_; (with_reducible refine (turnbuckleref11_onRight.calls _ _ x429000_2 x429001_2 t477 t471 t480 _ ?side1 ?side2 A49.out).mono ?_); (case side1 => repeat (first | exact (Kd.R_reads' HO_429000.out).2.2 | (with_reducible refine Kd.C_alloc ?_ _) | (with_reducible refine Kd.C_drewN ?_ _) | (with_reducible refine Kd.C_drew ?_))); (case side2 => exact (Kd.R_reads' HO_429000.out).2.1); rintro e w103 ⟨rfl, hb⟩; refine ⟨_, rfl, ?_⟩; replace HO_429000 := Aside0.mk (Kd.R_below HO_429000.out hb); replace BK428 := Aside0.mk (blk_below BK428.out hb); replace BK429 := Aside0.mk (blk_below BK429.out hb); replace BK436 := Aside0.mk (blk_below BK436.out hb); replace HK := Aside0.mk (Kept.below (S := (fun k_ => P0_0_ k_)) HK.out hb); replace HB := Aside0.mk (below_step HB.out hb); (try clear hb); (try clear hb2); (try clear hk); (try clear hi); have hcz104_0 : w103.cell? ⟨gb428, 0, none⟩ = some (.slice Ao93 x429000_2.length co93) := (blk_cell BK428.out 0).trans rfl; have hcz104_1 : w103.cell? ⟨gb428, 1, none⟩ = some (.int .i64 x429001_2) := (blk_cell BK428.out 1).trans rfl; have hfz104_0 := blk_frozen BK428.out 0; have hfz104_1 := blk_frozen BK428.out 1) | ((with_reducible refine gate_callee (f := 57) rfl ?_); refine goesL_ (some 70) rfl rfl Try.func57 (by kernel_rfl) rfl #[.agg #[.slice Ao93 x429000_2.length co93, .int .i64 x429001_2], .int .i64 t477, .bool (!t480)] rfl (by (try simp only [List.map_toArray, List.map_cons, List.map_nil]); try rfl) ?_; (with_reducible refine (turnbuckleref11_Child.calls _ _ x429000_2 x429001_2 t477 (!t480) t481 _ ?side1 ?side2 A50.out).mono ?_); (case side1 => repeat (first | exact (Kd.R_reads' HO_429000.out).2.2 | (with_reducible refine Kd.C_alloc ?_ _) | (with_reducible refine Kd.C_drewN ?_ _) | (with_reducible refine Kd.C_drew ?_))); (case side2 => exact (Kd.R_reads' HO_429000.out).2.1); rintro e w105 ⟨rfl, hb⟩; refine ⟨_, rfl, ?_⟩; replace HO_429000 := Aside0.mk (Kd.R_below HO_429000.out hb); replace BK428 := Aside0.mk (blk_below BK428.out hb); replace BK429 := Aside0.mk (blk_below BK429.out hb); replace BK436 := Aside0.mk (blk_below BK436.out hb); replace HK := Aside0.mk (Kept.below (S := (fun k_ => P0_0_ k_)) HK.out hb); replace HB := Aside0.mk (below_step HB.out hb); (try clear hb); (try clear hb2); (try clear hk); (try clear hi); have hcz106_0 : w105.cell? ⟨gb428, 0, none⟩ = some (.slice Ao93 x429000_2.length co93) := (blk_cell BK428.out 0).trans rfl; have hcz106_1 : w105.cell? ⟨gb428, 1, none⟩ = some (.int .i64 x429001_2) := (blk_cell BK428.out 1).trans rfl; have hfz106_0 := blk_frozen BK428.out 0; have hfz106_1 := blk_frozen BK428.out 1) | ((with_reducible refine gate_callee (f := 51) rfl ?_); refine goesL_ (some 73) rfl rfl Try.func51 (by kernel_rfl) rfl #[.agg #[.slice Ao93 x429000_2.length co93, .int .i64 x429001_2], .int .i64 t481] rfl (by (try simp only [List.map_toArray, List.map_cons, List.map_nil]); try rfl) ?_; (with_reducible refine (turnbuckleref11_Of.calls _ _ x429000_2 x429001_2 t481 t482 t483 t484 t485 t486 false _ ?side1 ?side2 A51.out).mono ?_); (case side1 => repeat (first | exact (Kd.R_reads' HO_429000.out).2.2 | (with_reducible refine Kd.C_alloc ?_ _) | (with_reducible refine Kd.C_drewN ?_ _) | (with_reducible refine Kd.C_drew ?_))); (case side2 => exact (Kd.R_reads' HO_429000.out).2.1); rintro e w107 ⟨rfl, hb⟩; refine ⟨_, rfl, ?_⟩; replace HO_429000 := Aside0.mk (Kd.R_below HO_429000.out hb); replace BK428 := Aside0.mk (blk_below BK428.out hb); replace BK429 := Aside0.mk (blk_below BK429.out hb); replace BK436 := Aside0.mk (blk_below BK436.out hb); replace HK := Aside0.mk (Kept.below (S := (fun k_ => P0_0_ k_)) HK.out hb); replace HB := Aside0.mk (below_step HB.out hb); (try clear hb); (try clear hb2); (try clear hk); (try clear hi); have hcz108_0 : w107.cell? ⟨gb428, 0, none⟩ = some (.slice Ao93 x429000_2.length co93) := (blk_cell BK428.out 0).trans rfl; have hcz108_1 : w107.cell? ⟨gb428, 1, none⟩ = some (.int .i64 x429001_2) := (blk_cell BK428.out 1).trans rfl; have hfz108_0 := blk_frozen BK428.out 0; have hfz108_1 := blk_frozen BK428.out 1) | ((with_reducible refine gate_callee (f := 58) rfl ?_); refine goesL_ (some 88) rfl rfl Try.func58 (by kernel_rfl) rfl #[.agg #[.slice Ao93 x429000_2.length co93, .int .i64 x429001_2], .int .i64 t471, .int .i64 x1_2] rfl (by (try simp only [List.map_toArray, List.map_cons, List.map_nil]); try rfl) ?_; (with_reducible refine (turnbuckleref11_onRight.calls _ _ x429000_2 x429001_2 t471 x1_2 t500 _ ?side1 ?side2 A86.out).mono ?_); (case side1 => repeat (first | exact (Kd.R_reads' HO_429000.out).2.2 | (with_reducible refine Kd.C_alloc ?_ _) | (with_reducible refine Kd.C_drewN ?_ _) | (with_reducible refine Kd.C_drew ?_))); (case side2 => exact (Kd.R_reads' HO_429000.out).2.1); rintro e w109 ⟨rfl, hb⟩; refine ⟨_, rfl, ?_⟩; replace HO_429000 := Aside0.mk (Kd.R_below HO_429000.out hb); replace BK428 := Aside0.mk (blk_below BK428.out hb); replace BK429 := Aside0.mk (blk_below BK429.out hb); replace BK436 := Aside0.mk (blk_below BK436.out hb); replace HK := Aside0.mk (Kept.below (S := (fun k_ => P0_0_ k_)) HK.out hb); replace HB := Aside0.mk (below_step HB.out hb); (try clear hb); (try clear hb2); (try clear hk); (try clear hi); have hcz110_0 : w109.cell? ⟨gb428, 0, none⟩ = some (.slice Ao93 x429000_2.length co93) := (blk_cell BK428.out 0).trans rfl; have hcz110_1 : w109.cell? ⟨gb428, 1, none⟩ = some (.int .i64 x429001_2) := (blk_cell BK428.out 1).trans rfl; have hfz110_0 := blk_frozen BK428.out 0; have hfz110_1 := blk_frozen BK428.out 1) | ((with_reducible refine gate_callee (f := 59) rfl ?_); refine goesL_ (some 94) rfl rfl Try.func59 (by kernel_rfl) rfl #[.agg #[.slice Ao93 x429000_2.length co93, .int .i64 x429001_2], .int .i64 t471, .bool t480] rfl (by (try simp only [List.map_toArray, List.map_cons, List.map_nil]); try rfl) ?_; (with_reducible refine (turnbuckleref11_turn.calls (fun k_ => some k_ = (.slice Ao93 x429000_2.length co93 : Value).ownBlock) (.slice Ao93 x429000_2.length co93) x429000_2 x429001_2 t471 t480 t501 t504 w0 _ ?side1 ?side2 A88.out).mono ?_); (case side1 => repeat (first | (with_reducible first | exact HB.out | refine below_set ?_ GE428.out | refine below_set ?_ GE429.out | refine below_set ?_ GE436.out) | exact HB.out)); (case side2 => exact Kd.R_tight rfl HO_429000.out); rintro e w111 ⟨v502, rfl, ho0, hb, hkp⟩; refine ⟨_, rfl, ?_⟩; have HO503 := Aside0.mk (Kd.R_mono (ok' := fun k_ => (P0_0_ k_ ∨ w.heap.size ≤ k_) ∧ k_ ≠ gb436) ho0 (fun k_ hk_ => ⟨Or.elim hk_ (fun hs_ => (HO_429000.out.1 k_ (hs_).symm).1) (fun hn_ => (.inr (Nat.le_trans HK.out.1 hn_))), Or.elim hk_ (fun hs_ => fun e_ => (Kd.R_away HO_429000.out (fun _ hk => hk.2)) (by rw [← e_]; exact hs_)) (fun hn_ => (Kd.freshB BK436.out k_ hn_))⟩)); replace BK428 := Aside0.mk (blk_kept BK428.out hkp (fun hs_ => (fun e_ => (Kd.R_ne HO_429000.out BK428.out (by decide)) e_) hs_)); replace BK429 := Aside0.mk (blk_kept BK429.out hkp (fun hs_ => (fun e_ => (Kd.R_ne HO_429000.out BK429.out (by decide)) e_) hs_)); replace BK436 := Aside0.mk (blk_kept BK436.out hkp (fun hs_ => (fun e_ => (Kd.R_away HO_429000.out (fun _ hk => hk.2)) e_) hs_)); replace HK := Aside0.mk (Kept.then_ (S := (fun k_ => P0_0_ k_)) HK.out hkp (fun k_ hs_ => (fun e_ => (HO_429000.out.1 k_ e_.symm).1) hs_)); replace HB := Aside0.mk (hb); clear HO_429000; (try clear hb); (try clear hkp); (try clear ho0); obtain ⟨Ao112, co112, eo112⟩ := Kd.R_slice HO503.out; subst eo112; have hcz113_0 : w111.cell? ⟨gb428, 0, none⟩ = some (.slice Ao93 x429000_2.length co93) := (blk_cell BK428.out 0).trans rfl; have hcz113_1 : w111.cell? ⟨gb428, 1, none⟩ = some (.int .i64 x429001_2) := (blk_cell BK428.out 1).trans rfl; have hfz113_0 := blk_frozen BK428.out 0; have hfz113_1 := blk_frozen BK428.out 1) | ((with_reducible refine gate_store (t := 49) (p := 2) rfl ?_); refine store_event (t := 49) (p := 2) (v := ?vo_w114) (w1 := ((w111.setCell ⟨gb428, 0, none⟩ (.slice Ao112 t501.length co112)).setCell ⟨gb428, 1, none⟩ (.int .i64 t504))) ?hg ?ho ?hn ?hr ?_; (case ho => rfl); (case hg => rfl); (case hn => rfl); (case hr => first | (go_simp; done) | (go_simp; rfl)); intro w114 hw; replace HO503 : Aside0 (Kd.R k80 80 w114 w0.heap.size (fun k_ => (P0_0_ k_ ∨ w.heap.size ≤ k_) ∧ k_ ≠ gb436) (.slice Ao112 t501.length co112) t501) := ⟨(by rw [hw]; exact (by exact Kd.R_mono (Kd.R_far (p := ⟨gb428, 1, none⟩) (Kd.R_far (p := ⟨gb428, 0, none⟩) (Kd.R_types HO503.out BK428.out (by decide)) (fun _ hk => hk.2) (.slice Ao112 t501.length co112)) (fun _ hk => hk.2) (.int .i64 t504)) (fun _ hk => ⟨hk.1.1, hk.1.2⟩)))⟩; replace BK428 : Aside0 (w114.heap[gb428]? = some (.cells #[.slice Ao112 t501.length co112, .int .i64 t504] 49 (0, 0))) := ⟨(by rw [hw]; exact (by refine blk_put (cs := #[.slice Ao112 t501.length co112, .int .i64 x429001_2]) ?_ 1 _ rfl; refine blk_put (cs := #[.slice Ao93 x429000_2.length co93, .int .i64 x429001_2]) ?_ 0 _ rfl; exact BK428.out))⟩; replace BK429 : Aside0 (w114.heap[gb429]? = some (.cells #[.slice none 0 0, .int .i64 0] 49 (0, 0))) := ⟨(by rw [hw]; exact (by refine blk_far ?_ NB429_428.out _; refine blk_far ?_ NB429_428.out _; exact BK429.out))⟩; replace BK436 : Aside0 (w114.heap[gb436]? = some (.cells #[.int .u64 t430, .int .i64 t431, .int .i64 t432, .int .i64 t433, .bool false, .bool t435] 80 (0, 0))) := ⟨(by rw [hw]; exact (by refine blk_far ?_ NB436_428.out _; refine blk_far ?_ NB436_428.out _; exact BK436.out))⟩; replace HK : Aside0 (Kept w w114 (fun k_ => P0_0_ k_)) := ⟨(by rw [hw]; repeat (with_reducible first | exact HK.out | refine Kept.setCell ?_ (.inr GW428.out) _ | refine Kept.setCell ?_ (.inr GW429.out) _ | refine Kept.setCell ?_ (.inr GW436.out) _))⟩; replace HB : Aside0 (Below w0.heap.size w0 w114) := ⟨(by rw [hw]; repeat (with_reducible first | exact HB.out | refine below_set ?_ GE428.out | refine below_set ?_ GE429.out | refine below_set ?_ GE436.out))⟩; clear hw; have hcz115_0 : w114.cell? ⟨gb428, 0, none⟩ = some (.slice Ao112 t501.length co112) := (blk_cell BK428.out 0).trans rfl; have hcz115_1 : w114.cell? ⟨gb428, 1, none⟩ = some (.int .i64 t504) := (blk_cell BK428.out 1).trans rfl; have hfz115_0 := blk_frozen BK428.out 0; have hfz115_1 := blk_frozen BK428.out 1) | ((with_reducible refine gate_callee (f := 54) rfl ?_); refine goesL_ (some 100) rfl rfl Try.func54 (by kernel_rfl) rfl #[.agg #[.slice Ao112 t501.length co112, .int .i64 t504], .int .i64 x1_2, .bool false] rfl (by (try simp only [List.map_toArray, List.map_cons, List.map_nil]); try rfl) ?_; (with_reducible refine (turnbuckleref11_paint.calls (fun k_ => some k_ = (.slice Ao112 t501.length co112 : Value).ownBlock) (.slice Ao112 t501.length co112) t501 t504 x1_2 false t505 t508 w0 _ ?side1 ?side2 A89.out).mono ?_); (case side1 => repeat (first | (with_reducible first | exact HB.out | refine below_set ?_ GE428.out | refine below_set ?_ GE429.out | refine below_set ?_ GE436.out) | exact HB.out)); (case side2 => exact Kd.R_tight rfl HO503.out); rintro e w116 ⟨v506, rfl, ho0, hb, hkp⟩; refine ⟨_, rfl, ?_⟩; have HO507 := Aside0.mk (Kd.R_mono (ok' := fun k_ => (P0_0_ k_ ∨ w.heap.size ≤ k_) ∧ k_ ≠ gb436) ho0 (fun k_ hk_ => ⟨Or.elim hk_ (fun hs_ => (HO503.out.1 k_ (hs_).symm).1) (fun hn_ => (.inr (Nat.le_trans HK.out.1 hn_))), Or.elim hk_ (fun hs_ => fun e_ => (Kd.R_away HO503.out (fun _ hk => hk.2)) (by rw [← e_]; exact hs_)) (fun hn_ => (Kd.freshB BK436.out k_ hn_))⟩)); replace BK428 := Aside0.mk (blk_kept BK428.out hkp (fun hs_ => (fun e_ => (Kd.R_ne HO503.out BK428.out (by decide)) e_) hs_)); replace BK429 := Aside0.mk (blk_kept BK429.out hkp (fun hs_ => (fun e_ => (Kd.R_ne HO503.out BK429.out (by decide)) e_) hs_)); replace BK436 := Aside0.mk (blk_kept BK436.out hkp (fun hs_ => (fun e_ => (Kd.R_away HO503.out (fun _ hk => hk.2)) e_) hs_)); replace HK := Aside0.mk (Kept.then_ (S := (fun k_ => P0_0_ k_)) HK.out hkp (fun k_ hs_ => (fun e_ => (HO503.out.1 k_ e_.symm).1) hs_)); replace HB := Aside0.mk (hb); clear HO503; (try clear hb); (try clear hkp); (try clear ho0); obtain ⟨Ao117, co117, eo117⟩ := Kd.R_slice HO507.out; subst eo117; have hcz118_0 : w116.cell? ⟨gb428, 0, none⟩ = some (.slice Ao112 t501.length co112) := (blk_cell BK428.out 0).trans rfl; have hcz118_1 : w116.cell? ⟨gb428, 1, none⟩ = some (.int .i64 t504) := (blk_cell BK428.out 1).trans rfl; have hfz118_0 := blk_frozen BK428.out 0; have hfz118_1 := blk_frozen BK428.out 1) | ((with_reducible refine gate_store (t := 49) (p := 2) rfl ?_); refine store_event (t := 49) (p := 2) (v := ?vo_w119) (w1 := ((w116.setCell ⟨gb428, 0, none⟩ (.slice Ao117 t505.length co117)).setCell ⟨gb428, 1, none⟩ (.int .i64 t508))) ?hg ?ho ?hn ?hr ?_; (case ho => rfl); (case hg => rfl); (case hn => rfl); (case hr => first | (go_simp; done) | (go_simp; rfl)); intro w119 hw; replace HO507 : Aside0 (Kd.R k80 80 w119 w0.heap.size (fun k_ => (P0_0_ k_ ∨ w.heap.size ≤ k_) ∧ k_ ≠ gb436) (.slice Ao117 t505.length co117) t505) := ⟨(by rw [hw]; exact (by exact Kd.R_mono (Kd.R_far (p := ⟨gb428, 1, none⟩) (Kd.R_far (p := ⟨gb428, 0, none⟩) (Kd.R_types HO507.out BK428.out (by decide)) (fun _ hk => hk.2) (.slice Ao117 t505.length co117)) (fun _ hk => hk.2) (.int .i64 t508)) (fun _ hk => ⟨hk.1.1, hk.1.2⟩)))⟩; replace BK428 : Aside0 (w119.heap[gb428]? = some (.cells #[.slice Ao117 t505.length co117, .int .i64 t508] 49 (0, 0))) := ⟨(by rw [hw]; exact (by refine blk_put (cs := #[.slice Ao117 t505.length co117, .int .i64 t504]) ?_ 1 _ rfl; refine blk_put (cs := #[.slice Ao112 t501.length co112, .int .i64 t504]) ?_ 0 _ rfl; exact BK428.out))⟩; replace BK429 : Aside0 (w119.heap[gb429]? = some (.cells #[.slice none 0 0, .int .i64 0] 49 (0, 0))) := ⟨(by rw [hw]; exact (by refine blk_far ?_ NB429_428.out _; refine blk_far ?_ NB429_428.out _; exact BK429.out))⟩; replace BK436 : Aside0 (w119.heap[gb436]? = some (.cells #[.int .u64 t430, .int .i64 t431, .int .i64 t432, .int .i64 t433, .bool false, .bool t435] 80 (0, 0))) := ⟨(by rw [hw]; exact (by refine blk_far ?_ NB436_428.out _; refine blk_far ?_ NB436_428.out _; exact BK436.out))⟩; replace HK : Aside0 (Kept w w119 (fun k_ => P0_0_ k_)) := ⟨(by rw [hw]; repeat (with_reducible first | exact HK.out | refine Kept.setCell ?_ (.inr GW428.out) _ | refine Kept.setCell ?_ (.inr GW429.out) _ | refine Kept.setCell ?_ (.inr GW436.out) _))⟩; replace HB : Aside0 (Below w0.heap.size w0 w119) := ⟨(by rw [hw]; repeat (with_reducible first | exact HB.out | refine below_set ?_ GE428.out | refine below_set ?_ GE429.out | refine below_set ?_ GE436.out))⟩; clear hw; have hcz120_0 : w119.cell? ⟨gb428, 0, none⟩ = some (.slice Ao117 t505.length co117) := (blk_cell BK428.out 0).trans rfl; have hcz120_1 : w119.cell? ⟨gb428, 1, none⟩ = some (.int .i64 t508) := (blk_cell BK428.out 1).trans rfl; have hfz120_0 := blk_frozen BK428.out 0; have hfz120_1 := blk_frozen BK428.out 1) | ((with_reducible refine gate_callee (f := 54) rfl ?_); refine goesL_ (some 103) rfl rfl Try.func54 (by kernel_rfl) rfl #[.agg #[.slice Ao117 t505.length co117, .int .i64 t508], .int .i64 t477, .bool true] rfl (by (try simp only [List.map_toArray, List.map_cons, List.map_nil]); try rfl) ?_; (with_reducible refine (turnbuckleref11_paint.calls (fun k_ => some k_ = (.slice Ao117 t505.length co117 : Value).ownBlock) (.slice Ao117 t505.length co117) t505 t508 t477 true t509 t512 w0 _ ?side1 ?side2 A90.out).mono ?_); (case side1 => repeat (first | (with_reducible first | exact HB.out | refine below_set ?_ GE428.out | refine below_set ?_ GE429.out | refine below_set ?_ GE436.out) | exact HB.out)); (case side2 => exact Kd.R_tight rfl HO507.out); rintro e w121 ⟨v510, rfl, ho0, hb, hkp⟩; refine ⟨_, rfl, ?_⟩; have HO511 := Aside0.mk (Kd.R_mono (ok' := fun k_ => (P0_0_ k_ ∨ w.heap.size ≤ k_) ∧ k_ ≠ gb436) ho0 (fun k_ hk_ => ⟨Or.elim hk_ (fun hs_ => (HO507.out.1 k_ (hs_).symm).1) (fun hn_ => (.inr (Nat.le_trans HK.out.1 hn_))), Or.elim hk_ (fun hs_ => fun e_ => (Kd.R_away HO507.out (fun _ hk => hk.2)) (by rw [← e_]; exact hs_)) (fun hn_ => (Kd.freshB BK436.out k_ hn_))⟩)); replace BK428 := Aside0.mk (blk_kept BK428.out hkp (fun hs_ => (fun e_ => (Kd.R_ne HO507.out BK428.out (by decide)) e_) hs_)); replace BK429 := Aside0.mk (blk_kept BK429.out hkp (fun hs_ => (fun e_ => (Kd.R_ne HO507.out BK429.out (by decide)) e_) hs_)); replace BK436 := Aside0.mk (blk_kept BK436.out hkp (fun hs_ => (fun e_ => (Kd.R_away HO507.out (fun _ hk => hk.2)) e_) hs_)); replace HK := Aside0.mk (Kept.then_ (S := (fun k_ => P0_0_ k_)) HK.out hkp (fun k_ hs_ => (fun e_ => (HO507.out.1 k_ e_.symm).1) hs_)); replace HB := Aside0.mk (hb); clear HO507; (try clear hb); (try clear hkp); (try clear ho0); obtain ⟨Ao122, co122, eo122⟩ := Kd.R_slice HO511.out; subst eo122; have hcz123_0 : w121.cell? ⟨gb428, 0, none⟩ = some (.slice Ao117 t505.length co117) := (blk_cell BK428.out 0).trans rfl; have hcz123_1 : w121.cell? ⟨gb428, 1, none⟩ = some (.int .i64 t508) := (blk_cell BK428.out 1).trans rfl; have hfz123_0 := blk_frozen BK428.out 0; have hfz123_1 := blk_frozen BK428.out 1) | ((with_reducible refine gate_store (t := 49) (p := 2) rfl ?_); refine store_event (t := 49) (p := 2) (v := ?vo_w124) (w1 := ((w121.setCell ⟨gb428, 0, none⟩ (.slice Ao122 t509.length co122)).setCell ⟨gb428, 1, none⟩ (.int .i64 t512))) ?hg ?ho ?hn ?hr ?_; (case ho => rfl); (case hg => rfl); (case hn => rfl); (case hr => first | (go_simp; done) | (go_simp; rfl)); intro w124 hw; replace HO511 : Aside0 (Kd.R k80 80 w124 w0.heap.size (fun k_ => (P0_0_ k_ ∨ w.heap.size ≤ k_) ∧ k_ ≠ gb436) (.slice Ao122 t509.length co122) t509) := ⟨(by rw [hw]; exact (by exact Kd.R_mono (Kd.R_far (p := ⟨gb428, 1, none⟩) (Kd.R_far (p := ⟨gb428, 0, none⟩) (Kd.R_types HO511.out BK428.out (by decide)) (fun _ hk => hk.2) (.slice Ao122 t509.length co122)) (fun _ hk => hk.2) (.int .i64 t512)) (fun _ hk => ⟨hk.1.1, hk.1.2⟩)))⟩; replace BK428 : Aside0 (w124.heap[gb428]? = some (.cells #[.slice Ao122 t509.length co122, .int .i64 t512] 49 (0, 0))) := ⟨(by rw [hw]; exact (by refine blk_put (cs := #[.slice Ao122 t509.length co122, .int .i64 t508]) ?_ 1 _ rfl; refine blk_put (cs := #[.slice Ao117 t505.length co117, .int .i64 t508]) ?_ 0 _ rfl; exact BK428.out))⟩; replace BK429 : Aside0 (w124.heap[gb429]? = some (.cells #[.slice none 0 0, .int .i64 0] 49 (0, 0))) := ⟨(by rw [hw]; exact (by refine blk_far ?_ NB429_428.out _; refine blk_far ?_ NB429_428.out _; exact BK429.out))⟩; replace BK436 : Aside0 (w124.heap[gb436]? = some (.cells #[.int .u64 t430, .int .i64 t431, .int .i64 t432, .int .i64 t433, .bool false, .bool t435] 80 (0, 0))) := ⟨(by rw [hw]; exact (by refine blk_far ?_ NB436_428.out _; refine blk_far ?_ NB436_428.out _; exact BK436.out))⟩; replace HK : Aside0 (Kept w w124 (fun k_ => P0_0_ k_)) := ⟨(by rw [hw]; repeat (with_reducible first | exact HK.out | refine Kept.setCell ?_ (.inr GW428.out) _ | refine Kept.setCell ?_ (.inr GW429.out) _ | refine Kept.setCell ?_ (.inr GW436.out) _))⟩; replace HB : Aside0 (Below w0.heap.size w0 w124) := ⟨(by rw [hw]; repeat (with_reducible first | exact HB.out | refine below_set ?_ GE428.out | refine below_set ?_ GE429.out | refine below_set ?_ GE436.out))⟩; clear hw; have hcz125_0 : w124.cell? ⟨gb428, 0, none⟩ = some (.slice Ao122 t509.length co122) := (blk_cell BK428.out 0).trans rfl; have hcz125_1 : w124.cell? ⟨gb428, 1, none⟩ = some (.int .i64 t512) := (blk_cell BK428.out 1).trans rfl; have hfz125_0 := blk_frozen BK428.out 0; have hfz125_1 := blk_frozen BK428.out 1) | ((with_reducible refine gate_callee (f := 59) rfl ?_); refine goesL_ (some 108) rfl rfl Try.func59 (by kernel_rfl) rfl #[.agg #[.slice Ao122 t509.length co122, .int .i64 t512], .int .i64 t477, .bool (!t480)] rfl (by (try simp only [List.map_toArray, List.map_cons, List.map_nil]); try rfl) ?_; (with_reducible refine (turnbuckleref11_turn.calls (fun k_ => some k_ = (.slice Ao122 t509.length co122 : Value).ownBlock) (.slice Ao122 t509.length co122) t509 t512 t477 (!t480) t513 t516 w0 _ ?side1 ?side2 A91.out).mono ?_); (case side1 => repeat (first | (with_reducible first | exact HB.out | refine below_set ?_ GE428.out | refine below_set ?_ GE429.out | refine below_set ?_ GE436.out) | exact HB.out)); (case side2 => exact Kd.R_tight rfl HO511.out); rintro e w126 ⟨v514, rfl, ho0, hb, hkp⟩; refine ⟨_, rfl, ?_⟩; have HO515 := Aside0.mk (Kd.R_mono (ok' := fun k_ => (P0_0_ k_ ∨ w.heap.size ≤ k_) ∧ k_ ≠ gb436) ho0 (fun k_ hk_ => ⟨Or.elim hk_ (fun hs_ => (HO511.out.1 k_ (hs_).symm).1) (fun hn_ => (.inr (Nat.le_trans HK.out.1 hn_))), Or.elim hk_ (fun hs_ => fun e_ => (Kd.R_away HO511.out (fun _ hk => hk.2)) (by rw [← e_]; exact hs_)) (fun hn_ => (Kd.freshB BK436.out k_ hn_))⟩)); replace BK428 := Aside0.mk (blk_kept BK428.out hkp (fun hs_ => (fun e_ => (Kd.R_ne HO511.out BK428.out (by decide)) e_) hs_)); replace BK429 := Aside0.mk (blk_kept BK429.out hkp (fun hs_ => (fun e_ => (Kd.R_ne HO511.out BK429.out (by decide)) e_) hs_)); replace BK436 := Aside0.mk (blk_kept BK436.out hkp (fun hs_ => (fun e_ => (Kd.R_away HO511.out (fun _ hk => hk.2)) e_) hs_)); replace HK := Aside0.mk (Kept.then_ (S := (fun k_ => P0_0_ k_)) HK.out hkp (fun k_ hs_ => (fun e_ => (HO511.out.1 k_ e_.symm).1) hs_)); replace HB := Aside0.mk (hb); clear HO511; (try clear hb); (try clear hkp); (try clear ho0); obtain ⟨Ao127, co127, eo127⟩ := Kd.R_slice HO515.out; subst eo127; have hcz128_0 : w126.cell? ⟨gb428, 0, none⟩ = some (.slice Ao122 t509.length co122) := (blk_cell BK428.out 0).trans rfl; have hcz128_1 : w126.cell? ⟨gb428, 1, none⟩ = some (.int .i64 t512) := (blk_cell BK428.out 1).trans rfl; have hfz128_0 := blk_frozen BK428.out 0; have hfz128_1 := blk_frozen BK428.out 1))
          go_roundg k2
          case measure => have := HK1.out; have := HK2.out; omega
          case rel => exact ⟨(t471), (t513), (t516), (.slice Ao127 t513.length co127), (by first | rfl | (simp; done) | (simp [*]; done)), H', ⟨by have := HK1.out; have := HK2.out; omega⟩, ⟨by exact Kd.R_mono (Kd.R_far (p := ⟨gb428, 1, none⟩) (Kd.R_far (p := ⟨gb428, 0, none⟩) (Kd.R_types HO515.out BK428.out (by decide)) (fun _ hk => hk.2) (.slice Ao127 t513.length co127)) (fun _ hk => hk.2) (.int .i64 t516)) (fun _ hk => ⟨hk.1.1, hk.1.2⟩)⟩, ⟨by refine blk_put (cs := #[.slice Ao127 t513.length co127, .int .i64 t512]) ?_ 1 _ rfl; refine blk_put (cs := #[.slice Ao122 t509.length co122, .int .i64 t512]) ?_ 0 _ rfl; exact BK428.out⟩, ⟨by refine blk_far ?_ NB429_428.out _; refine blk_far ?_ NB429_428.out _; exact BK429.out⟩, ⟨by refine blk_far ?_ NB436_428.out _; refine blk_far ?_ NB436_428.out _; exact BK436.out⟩, ⟨by repeat (first | (with_reducible first | exact HK.out | refine Kept.setCell ?_ (.inr GW428.out) _ | refine Kept.setCell ?_ (.inr GW429.out) _ | refine Kept.setCell ?_ (.inr GW436.out) _) | exact HK.out)⟩, ⟨by repeat (first | (with_reducible first | exact HB.out | refine below_set ?_ GE428.out | refine below_set ?_ GE429.out | refine below_set ?_ GE436.out) | exact HB.out)⟩⟩
         ·rw [if_neg c87] at H
          have c87b0 : (t500 != t480) = false := by simpa using c87
          (try (have c87b1 : decide (t500 = t480) = true := by simpa using c87))
          (try (have c87b2 : (t500 == t480) = true := by simpa using c87))
          clear c87
          replace H := Option.bind_eq_some_iff.mp H
          obtain ⟨⟨t517, t520⟩, A1290, H⟩ := H
          replace H : ((turnbuckleref11_paint.f t517 t520 t477 true).bind fun bt521 => ((turnbuckleref11_turn.f bt521.1 bt521.2 t477 (!t480)).bind fun bt525 => (turnbuckleref11_Add.l1 k2 x1_2 bt525.1 bt525.2))) = some (r1, r2, r3) := H
          have A129 := Aside0.mk A1290
          clear A1290
          replace H := Option.bind_eq_some_iff.mp H
          obtain ⟨⟨t521, t524⟩, A1300, H⟩ := H
          replace H : ((turnbuckleref11_turn.f t521 t524 t477 (!t480)).bind fun bt525 => (turnbuckleref11_Add.l1 k2 x1_2 bt525.1 bt525.2)) = some (r1, r2, r3) := H
          have A130 := Aside0.mk A1300
          clear A1300
          replace H := Option.bind_eq_some_iff.mp H
          obtain ⟨⟨t525, t528⟩, A1310, H⟩ := H
          replace H : (turnbuckleref11_Add.l1 k2 x1_2 t525 t528) = some (r1, r2, r3) := H
          have A131 := Aside0.mk A1310
          clear A1310
          have H' := Aside0.mk H
          clear H
          try go_wp2
          have n0_ := Aside0.mk (Kd.R_drew HO_429000.out)
          have n1_ := Aside0.mk (blk_drew BK428.out)
          have n2_ := Aside0.mk (blk_drew BK429.out)
          have n3_ := Aside0.mk (blk_drew BK436.out)
          have n4_ := Aside0.mk (Kept.drew HK.out)
          have n5_ := Aside0.mk (below_drew1 HB.out)
          clear HO_429000
          clear BK428
          clear BK429
          clear BK436
          clear HK
          clear HB
          have HO_429000 := n0_
          have BK428 := n1_
          have BK429 := n2_
          have BK436 := n3_
          have HK := n4_
          have HB := n5_
          clear n0_ n1_ n2_ n3_ n4_ n5_
          obtain ⟨Ao133, co133, eo133⟩ := Kd.R_slice HO_429000.out
          (first | subst eo133 | (injection eo133 with f1_ f2_ f3_; have f4_ := f1_.symm; have f5_ := f3_.symm; clear f1_ f2_ f3_; subst f4_; subst f5_))
          refine start_ (n := 7) (S := fun w' => w'.cell? ⟨gb428, 0, none⟩ = some (.slice Ao133 x429000_2.length co133) ∧ w'.cell? ⟨gb428, 1, none⟩ = some (.int .i64 x429001_2)) (ds := []) #[false, false, false, false, false, false, false] (by kernel_rfl) rfl rfl ⟨(blk_cell BK428.out 0).trans rfl, (blk_cell BK428.out 1).trans rfl⟩ (fun hHeld => ?_)
          generalize wr.drew = w132 at HO_429000 BK428 BK429 BK436 HK HB hHeld ⊢
          refine pure_ (i := 2) (N := some 49) (v := ?_) (a' := ?_) #[false, false, true, false, false, false, false] rfl rfl (by kernel_rfl) (fun _ _ _ h => h) (Or.inl ⟨by rfl, ?_⟩) ?_ ?_
          rotate_left
          ·intro w'
           go_simp
           with_reducible rfl
          rotate_left
          ·simp only [Act.put, List.setIfInBounds_toArray, List.set_cons_zero, List.set_cons_succ, i64_w, i32_w]
           rfl
          refine take_ (i := 0) (N := some 47) (v := ?_) (a' := ?_) #[true, false, true, false, false, false, false] rfl rfl (by kernel_rfl) (fun _ _ _ h => h) (Or.inl ⟨by rfl, ?_⟩) hHeld ?_ ?_
          rotate_left
          ·rintro w' ⟨s0, s1⟩
           go_simp
           with_reducible rfl
          rotate_left
          ·simp only [Act.put, List.setIfInBounds_toArray, List.set_cons_zero, List.set_cons_succ, i64_w, i32_w]
           rfl
          refine take_ (i := 1) (N := some 48) (v := ?_) (a' := ?_) #[true, true, true, false, false, false, false] rfl rfl (by kernel_rfl) (fun _ _ _ h => h) (Or.inl ⟨by rfl, ?_⟩) hHeld ?_ ?_
          rotate_left
          ·rintro w' ⟨s0, s1⟩
           go_simp
           with_reducible rfl
          rotate_left
          ·simp only [Act.put, List.setIfInBounds_toArray, List.set_cons_zero, List.set_cons_succ, i64_w, i32_w]
           rfl
          refine one_ (i := 3) (N := some 50) #[true, true, true, true, false, false, false] rfl rfl (by kernel_rfl) (by decide) (fun K hK => ?_)
          refine goes_ Try.func51 (by kernel_rfl) rfl #[.agg #[.slice Ao133 x429000_2.length co133, .int .i64 x429001_2], .int .i64 x1_2] (by rfl) rfl rfl (by (try simp only [List.map_toArray, List.map_cons, List.map_nil]); try rfl) ?_
          with_reducible refine (turnbuckleref11_Of.calls _ _ x429000_2 x429001_2 x1_2 t452 t453 t454 t455 t456 t457 _ ?side1 ?side2 A44.out).mono ?_
          (case side1 => repeat (first | exact (Kd.R_reads' HO_429000.out).2.2 | (with_reducible refine Kd.C_alloc ?_ _) | (with_reducible refine Kd.C_drewN ?_ _) | (with_reducible refine Kd.C_drew ?_)))
          (case side2 => exact (Kd.R_reads' HO_429000.out).2.1)
          rintro e w134 ⟨rfl, hb⟩
          refine ⟨_, rfl, ?_⟩
          have n0_ := Aside0.mk (Kd.R_below HO_429000.out hb)
          have n1_ := Aside0.mk (blk_below BK428.out hb)
          have n2_ := Aside0.mk (blk_below BK429.out hb)
          have n3_ := Aside0.mk (blk_below BK436.out hb)
          have n4_ := Aside0.mk (Kept.below (S := (fun k_ => P0_0_ k_)) HK.out hb)
          have n5_ := Aside0.mk (below_step HB.out hb)
          clear HO_429000
          clear BK428
          clear BK429
          clear BK436
          clear HK
          clear HB
          have HO_429000 := n0_
          have BK428 := n1_
          have BK429 := n2_
          have BK436 := n3_
          have HK := n4_
          have HB := n5_
          clear n0_ n1_ n2_ n3_ n4_ n5_
          (try clear hb)
          (try clear hb2)
          (try clear hk)
          (try clear hi)
          refine hK.out _ _ ⟨(blk_cell BK428.out 0).trans rfl, (blk_cell BK428.out 1).trans rfl⟩ (fun hHeld => ?_)
          clear hK K
          refine norm_ (a' := ?_) ?_ ?_
          rotate_left
          ·show Act.put _ (some 50) _ = _
           simp only [Act.put, List.setIfInBounds_toArray, List.set_cons_zero, List.set_cons_succ, i64_w, i32_w]
           rfl
          refine pure_ (i := 4) (N := some 51) (v := ?_) (a' := ?_) #[true, true, true, true, true, false, false] rfl rfl (by kernel_rfl) (fun _ _ _ h => h) (Or.inl ⟨by rfl, ?_⟩) ?_ ?_
          rotate_left
          ·intro w'
           go_simp
           with_reducible rfl
          rotate_left
          ·simp only [Act.put, List.setIfInBounds_toArray, List.set_cons_zero, List.set_cons_succ, i64_w, i32_w]
           rfl
          refine one_ (i := 5) (N := some 52) #[true, true, true, true, true, true, false] rfl rfl (by kernel_rfl) (by decide) (fun K hK => ?_)
          refine goes_ Try.func51 (by kernel_rfl) rfl #[.agg #[.slice Ao133 x429000_2.length co133, .int .i64 x429001_2], .int .i64 t455] (by rfl) rfl rfl (by (try simp only [List.map_toArray, List.map_cons, List.map_nil]); try rfl) ?_
          with_reducible refine (turnbuckleref11_Of.calls _ _ x429000_2 x429001_2 t455 t458 t459 t460 t461 t462 true _ ?side1 ?side2 A45.out).mono ?_
          (case side1 => repeat (first | exact (Kd.R_reads' HO_429000.out).2.2 | (with_reducible refine Kd.C_alloc ?_ _) | (with_reducible refine Kd.C_drewN ?_ _) | (with_reducible refine Kd.C_drew ?_)))
          (case side2 => exact (Kd.R_reads' HO_429000.out).2.1)
          rintro e w135 ⟨rfl, hb⟩
          refine ⟨_, rfl, ?_⟩
          have n0_ := Aside0.mk (Kd.R_below HO_429000.out hb)
          have n1_ := Aside0.mk (blk_below BK428.out hb)
          have n2_ := Aside0.mk (blk_below BK429.out hb)
          have n3_ := Aside0.mk (blk_below BK436.out hb)
          have n4_ := Aside0.mk (Kept.below (S := (fun k_ => P0_0_ k_)) HK.out hb)
          have n5_ := Aside0.mk (below_step HB.out hb)
          clear HO_429000
          clear BK428
          clear BK429
          clear BK436
          clear HK
          clear HB
          have HO_429000 := n0_
          have BK428 := n1_
          have BK429 := n2_
          have BK436 := n3_
          have HK := n4_
          have HB := n5_
          clear n0_ n1_ n2_ n3_ n4_ n5_
          (try clear hb)
          (try clear hb2)
          (try clear hk)
          (try clear hi)
          refine hK.out _ _ ⟨(blk_cell BK428.out 0).trans rfl, (blk_cell BK428.out 1).trans rfl⟩ (fun hHeld => ?_)
          clear hK K
          refine norm_ (a' := ?_) ?_ ?_
          rotate_left
          ·show Act.put _ (some 52) _ = _
           simp only [Act.put, List.setIfInBounds_toArray, List.set_cons_zero, List.set_cons_succ, i64_w, i32_w]
           rfl
          refine pure_ (i := 6) (N := some 53) (v := ?_) (a' := ?_) #[true, true, true, true, true, true, true] rfl rfl (by kernel_rfl) (fun _ _ _ h => h) (Or.inl ⟨by rfl, ?_⟩) ?_ ?_
          rotate_left
          ·intro w'
           go_simp
           with_reducible rfl
          rotate_left
          ·simp only [Act.put, List.setIfInBounds_toArray, List.set_cons_zero, List.set_cons_succ, i64_w, i32_w]
           rfl
          refine done_ (by kernel_rfl) ?_
          have hnb136 := NB428_429.out
          have hnc136 := NB429_428.out
          have hnb137 := NB428_436.out
          have hnc137 := NB436_428.out
          have hcz138_0 : w135.cell? ⟨gb428, 0, none⟩ = some (.slice Ao133 x429000_2.length co133) := (blk_cell BK428.out 0).trans rfl
          have hcz138_1 : w135.cell? ⟨gb428, 1, none⟩ = some (.int .i64 x429001_2) := (blk_cell BK428.out 1).trans rfl
          have hfz138_0 := blk_frozen BK428.out 0
          have hfz138_1 := blk_frozen BK428.out 1
          try go_wp2_with (first | ((with_reducible refine gate_callee (f := 51) rfl ?_); refine goesL_ (some 56) rfl rfl Try.func51 (by kernel_rfl) rfl #[.agg #[.slice Ao133 x429000_2.length co133, .int .i64 x429001_2], .int .i64 x1_2] rfl (by (try simp only [List.map_toArray, List.map_cons, List.map_nil]); try rfl) ?_; (with_reducible refine (turnbuckleref11_Of.calls _ _ x429000_2 x429001_2 x1_2 t468 t469 t470 t471 t472 t473 _ ?side1 ?side2 A47.out).mono ?_); (case side1 => repeat (first | exact (Kd.R_reads' HO_429000.out).2.2 | (with_reducible refine Kd.C_alloc ?_ _) | (with_reducible refine Kd.C_drewN ?_ _) | (with_reducible refine Kd.C_drew ?_))); (case side2 => exact (Kd.R_reads' HO_429000.out).2.1); rintro e w139 ⟨rfl, hb⟩; refine ⟨_, rfl, ?_⟩; replace HO_429000 := Aside0.mk (Kd.R_below HO_429000.out hb); replace BK428 := Aside0.mk (blk_below BK428.out hb); replace BK429 := Aside0.mk (blk_below BK429.out hb); replace BK436 := Aside0.mk (blk_below BK436.out hb); replace HK := Aside0.mk (Kept.below (S := (fun k_ => P0_0_ k_)) HK.out hb); replace HB := Aside0.mk (below_step HB.out hb); (try clear hb); (try clear hb2); (try clear hk); (try clear hi); have hcz140_0 : w139.cell? ⟨gb428, 0, none⟩ = some (.slice Ao133 x429000_2.length co133) := (blk_cell BK428.out 0).trans rfl; have hcz140_1 : w139.cell? ⟨gb428, 1, none⟩ = some (.int .i64 x429001_2) := (blk_cell BK428.out 1).trans rfl; have hfz140_0 := blk_frozen BK428.out 0; have hfz140_1 := blk_frozen BK428.out 1) | ((with_reducible refine gate_callee (f := 51) rfl ?_); refine goesL_ (some 60) rfl rfl Try.func51 (by kernel_rfl) rfl #[.agg #[.slice Ao133 x429000_2.length co133, .int .i64 x429001_2], .int .i64 t471] rfl (by (try simp only [List.map_toArray, List.map_cons, List.map_nil]); try rfl) ?_; (with_reducible refine (turnbuckleref11_Of.calls _ _ x429000_2 x429001_2 t471 t474 t475 t476 t477 t478 t479 _ ?side1 ?side2 A48.out).mono ?_); (case side1 => repeat (first | exact (Kd.R_reads' HO_429000.out).2.2 | (with_reducible refine Kd.C_alloc ?_ _) | (with_reducible refine Kd.C_drewN ?_ _) | (with_reducible refine Kd.C_drew ?_))); (case side2 => exact (Kd.R_reads' HO_429000.out).2.1); rintro e w141 ⟨rfl, hb⟩; refine ⟨_, rfl, ?_⟩; replace HO_429000 := Aside0.mk (Kd.R_below HO_429000.out hb); replace BK428 := Aside0.mk (blk_below BK428.out hb); replace BK429 := Aside0.mk (blk_below BK429.out hb); replace BK436 := Aside0.mk (blk_below BK436.out hb); replace HK := Aside0.mk (Kept.below (S := (fun k_ => P0_0_ k_)) HK.out hb); replace HB := Aside0.mk (below_step HB.out hb); (try clear hb); (try clear hb2); (try clear hk); (try clear hi); have hcz142_0 : w141.cell? ⟨gb428, 0, none⟩ = some (.slice Ao133 x429000_2.length co133) := (blk_cell BK428.out 0).trans rfl; have hcz142_1 : w141.cell? ⟨gb428, 1, none⟩ = some (.int .i64 x429001_2) := (blk_cell BK428.out 1).trans rfl; have hfz142_0 := blk_frozen BK428.out 0; have hfz142_1 := blk_frozen BK428.out 1) | ((with_reducible refine gate_callee (f := 58) rfl ?_); refine goesL_ (some 65) rfl rfl Try.func58 (by kernel_rfl) rfl #[.agg #[.slice Ao133 x429000_2.length co133, .int .i64 x429001_2], .int .i64 t477, .int .i64 t471] rfl (by (try simp only [List.map_toArray, List.map_cons, List.map_nil]); try rfl) ?_; (with_reducible refine (turnbuckleref11_onRight.calls _ _ x429000_2 x429001_2 t477 t471 t480 _ ?side1 ?side2 A49.out).mono ?_); (case side1 => repeat (first | exact (Kd.R_reads' HO_429000.out).2.2 | (with_reducible refine Kd.C_alloc ?_ _) | (with_reducible refine Kd.C_drewN ?_ _) | (with_reducible refine Kd.C_drew ?_))); (case side2 => exact (Kd.R_reads' HO_429000.out).2.1); rintro e w143 ⟨rfl, hb⟩; refine ⟨_, rfl, ?_⟩; replace HO_429000 := Aside0.mk (Kd.R_below HO_429000.out hb); replace BK428 := Aside0.mk (blk_below BK428.out hb); replace BK429 := Aside0.mk (blk_below BK429.out hb); replace BK436 := Aside0.mk (blk_below BK436.out hb); replace HK := Aside0.mk (Kept.below (S := (fun k_ => P0_0_ k_)) HK.out hb); replace HB := Aside0.mk (below_step HB.out hb); (try clear hb); (try clear hb2); (try clear hk); (try clear hi); have hcz144_0 : w143.cell? ⟨gb428, 0, none⟩ = some (.slice Ao133 x429000_2.length co133) := (blk_cell BK428.out 0).trans rfl; have hcz144_1 : w143.cell? ⟨gb428, 1, none⟩ = some (.int .i64 x429001_2) := (blk_cell BK428.out 1).trans rfl; have hfz144_0 := blk_frozen BK428.out 0; have hfz144_1 := blk_frozen BK428.out 1) | ((with_reducible refine gate_callee (f := 57) rfl ?_); refine goesL_ (some 70) rfl rfl Try.func57 (by kernel_rfl) rfl #[.agg #[.slice Ao133 x429000_2.length co133, .int .i64 x429001_2], .int .i64 t477, .bool (!t480)] rfl (by (try simp only [List.map_toArray, List.map_cons, List.map_nil]); try rfl) ?_; (with_reducible refine (turnbuckleref11_Child.calls _ _ x429000_2 x429001_2 t477 (!t480) t481 _ ?side1 ?side2 A50.out).mono ?_); (case side1 => repeat (first | exact (Kd.R_reads' HO_429000.out).2.2 | (with_reducible refine Kd.C_alloc ?_ _) | (with_reducible refine Kd.C_drewN ?_ _) | (with_reducible refine Kd.C_drew ?_))); (case side2 => exact (Kd.R_reads' HO_429000.out).2.1); rintro e w145 ⟨rfl, hb⟩; refine ⟨_, rfl, ?_⟩; replace HO_429000 := Aside0.mk (Kd.R_below HO_429000.out hb); replace BK428 := Aside0.mk (blk_below BK428.out hb); replace BK429 := Aside0.mk (blk_below BK429.out hb); replace BK436 := Aside0.mk (blk_below BK436.out hb); replace HK := Aside0.mk (Kept.below (S := (fun k_ => P0_0_ k_)) HK.out hb); replace HB := Aside0.mk (below_step HB.out hb); (try clear hb); (try clear hb2); (try clear hk); (try clear hi); have hcz146_0 : w145.cell? ⟨gb428, 0, none⟩ = some (.slice Ao133 x429000_2.length co133) := (blk_cell BK428.out 0).trans rfl; have hcz146_1 : w145.cell? ⟨gb428, 1, none⟩ = some (.int .i64 x429001_2) := (blk_cell BK428.out 1).trans rfl; have hfz146_0 := blk_frozen BK428.out 0; have hfz146_1 := blk_frozen BK428.out 1) | ((with_reducible refine gate_callee (f := 51) rfl ?_); refine goesL_ (some 73) rfl rfl Try.func51 (by kernel_rfl) rfl #[.agg #[.slice Ao133 x429000_2.length co133, .int .i64 x429001_2], .int .i64 t481] rfl (by (try simp only [List.map_toArray, List.map_cons, List.map_nil]); try rfl) ?_; (with_reducible refine (turnbuckleref11_Of.calls _ _ x429000_2 x429001_2 t481 t482 t483 t484 t485 t486 false _ ?side1 ?side2 A51.out).mono ?_); (case side1 => repeat (first | exact (Kd.R_reads' HO_429000.out).2.2 | (with_reducible refine Kd.C_alloc ?_ _) | (with_reducible refine Kd.C_drewN ?_ _) | (with_reducible refine Kd.C_drew ?_))); (case side2 => exact (Kd.R_reads' HO_429000.out).2.1); rintro e w147 ⟨rfl, hb⟩; refine ⟨_, rfl, ?_⟩; replace HO_429000 := Aside0.mk (Kd.R_below HO_429000.out hb); replace BK428 := Aside0.mk (blk_below BK428.out hb); replace BK429 := Aside0.mk (blk_below BK429.out hb); replace BK436 := Aside0.mk (blk_below BK436.out hb); replace HK := Aside0.mk (Kept.below (S := (fun k_ => P0_0_ k_)) HK.out hb); replace HB := Aside0.mk (below_step HB.out hb); (try clear hb); (try clear hb2); (try clear hk); (try clear hi); have hcz148_0 : w147.cell? ⟨gb428, 0, none⟩ = some (.slice Ao133 x429000_2.length co133) := (blk_cell BK428.out 0).trans rfl; have hcz148_1 : w147.cell? ⟨gb428, 1, none⟩ = some (.int .i64 x429001_2) := (blk_cell BK428.out 1).trans rfl; have hfz148_0 := blk_frozen BK428.out 0; have hfz148_1 := blk_frozen BK428.out 1) | ((with_reducible refine gate_callee (f := 58) rfl ?_); refine goesL_ (some 88) rfl rfl Try.func58 (by kernel_rfl) rfl #[.agg #[.slice Ao133 x429000_2.length co133, .int .i64 x429001_2], .int .i64 t471, .int .i64 x1_2] rfl (by (try simp only [List.map_toArray, List.map_cons, List.map_nil]); try rfl) ?_; (with_reducible refine (turnbuckleref11_onRight.calls _ _ x429000_2 x429001_2 t471 x1_2 t500 _ ?side1 ?side2 A86.out).mono ?_); (case side1 => repeat (first | exact (Kd.R_reads' HO_429000.out).2.2 | (with_reducible refine Kd.C_alloc ?_ _) | (with_reducible refine Kd.C_drewN ?_ _) | (with_reducible refine Kd.C_drew ?_))); (case side2 => exact (Kd.R_reads' HO_429000.out).2.1); rintro e w149 ⟨rfl, hb⟩; refine ⟨_, rfl, ?_⟩; replace HO_429000 := Aside0.mk (Kd.R_below HO_429000.out hb); replace BK428 := Aside0.mk (blk_below BK428.out hb); replace BK429 := Aside0.mk (blk_below BK429.out hb); replace BK436 := Aside0.mk (blk_below BK436.out hb); replace HK := Aside0.mk (Kept.below (S := (fun k_ => P0_0_ k_)) HK.out hb); replace HB := Aside0.mk (below_step HB.out hb); (try clear hb); (try clear hb2); (try clear hk); (try clear hi); have hcz150_0 : w149.cell? ⟨gb428, 0, none⟩ = some (.slice Ao133 x429000_2.length co133) := (blk_cell BK428.out 0).trans rfl; have hcz150_1 : w149.cell? ⟨gb428, 1, none⟩ = some (.int .i64 x429001_2) := (blk_cell BK428.out 1).trans rfl; have hfz150_0 := blk_frozen BK428.out 0; have hfz150_1 := blk_frozen BK428.out 1) | ((with_reducible refine gate_callee (f := 54) rfl ?_); refine goesL_ (some 100) rfl rfl Try.func54 (by kernel_rfl) rfl #[.agg #[.slice Ao133 x429000_2.length co133, .int .i64 x429001_2], .int .i64 t471, .bool false] rfl (by (try simp only [List.map_toArray, List.map_cons, List.map_nil]); try rfl) ?_; (with_reducible refine (turnbuckleref11_paint.calls (fun k_ => some k_ = (.slice Ao133 x429000_2.length co133 : Value).ownBlock) (.slice Ao133 x429000_2.length co133) x429000_2 x429001_2 t471 false t517 t520 w0 _ ?side1 ?side2 A129.out).mono ?_); (case side1 => repeat (first | (with_reducible first | exact HB.out | refine below_set ?_ GE428.out | refine below_set ?_ GE429.out | refine below_set ?_ GE436.out) | exact HB.out)); (case side2 => exact Kd.R_tight rfl HO_429000.out); rintro e w151 ⟨v518, rfl, ho0, hb, hkp⟩; refine ⟨_, rfl, ?_⟩; have HO519 := Aside0.mk (Kd.R_mono (ok' := fun k_ => (P0_0_ k_ ∨ w.heap.size ≤ k_) ∧ k_ ≠ gb436) ho0 (fun k_ hk_ => ⟨Or.elim hk_ (fun hs_ => (HO_429000.out.1 k_ (hs_).symm).1) (fun hn_ => (.inr (Nat.le_trans HK.out.1 hn_))), Or.elim hk_ (fun hs_ => fun e_ => (Kd.R_away HO_429000.out (fun _ hk => hk.2)) (by rw [← e_]; exact hs_)) (fun hn_ => (Kd.freshB BK436.out k_ hn_))⟩)); replace BK428 := Aside0.mk (blk_kept BK428.out hkp (fun hs_ => (fun e_ => (Kd.R_ne HO_429000.out BK428.out (by decide)) e_) hs_)); replace BK429 := Aside0.mk (blk_kept BK429.out hkp (fun hs_ => (fun e_ => (Kd.R_ne HO_429000.out BK429.out (by decide)) e_) hs_)); replace BK436 := Aside0.mk (blk_kept BK436.out hkp (fun hs_ => (fun e_ => (Kd.R_away HO_429000.out (fun _ hk => hk.2)) e_) hs_)); replace HK := Aside0.mk (Kept.then_ (S := (fun k_ => P0_0_ k_)) HK.out hkp (fun k_ hs_ => (fun e_ => (HO_429000.out.1 k_ e_.symm).1) hs_)); replace HB := Aside0.mk (hb); clear HO_429000; (try clear hb); (try clear hkp); (try clear ho0); obtain ⟨Ao152, co152, eo152⟩ := Kd.R_slice HO519.out; subst eo152; have hcz153_0 : w151.cell? ⟨gb428, 0, none⟩ = some (.slice Ao133 x429000_2.length co133) := (blk_cell BK428.out 0).trans rfl; have hcz153_1 : w151.cell? ⟨gb428, 1, none⟩ = some (.int .i64 x429001_2) := (blk_cell BK428.out 1).trans rfl; have hfz153_0 := blk_frozen BK428.out 0; have hfz153_1 := blk_frozen BK428.out 1) | ((with_reducible refine gate_store (t := 49) (p := 2) rfl ?_); refine store_event (t := 49) (p := 2) (v := ?vo_w154) (w1 := ((w151.setCell ⟨gb428, 0, none⟩ (.slice Ao152 t517.length co152)).setCell ⟨gb428, 1, none⟩ (.int .i64 t520))) ?hg ?ho ?hn ?hr ?_; (case ho => rfl); (case hg => rfl); (case hn => rfl); (case hr => first | (go_simp; done) | (go_simp; rfl)); intro w154 hw; replace HO519 : Aside0 (Kd.R k80 80 w154 w0.heap.size (fun k_ => (P0_0_ k_ ∨ w.heap.size ≤ k_) ∧ k_ ≠ gb436) (.slice Ao152 t517.length co152) t517) := ⟨(by rw [hw]; exact (by exact Kd.R_mono (Kd.R_far (p := ⟨gb428, 1, none⟩) (Kd.R_far (p := ⟨gb428, 0, none⟩) (Kd.R_types HO519.out BK428.out (by decide)) (fun _ hk => hk.2) (.slice Ao152 t517.length co152)) (fun _ hk => hk.2) (.int .i64 t520)) (fun _ hk => ⟨hk.1.1, hk.1.2⟩)))⟩; replace BK428 : Aside0 (w154.heap[gb428]? = some (.cells #[.slice Ao152 t517.length co152, .int .i64 t520] 49 (0, 0))) := ⟨(by rw [hw]; exact (by refine blk_put (cs := #[.slice Ao152 t517.length co152, .int .i64 x429001_2]) ?_ 1 _ rfl; refine blk_put (cs := #[.slice Ao133 x429000_2.length co133, .int .i64 x429001_2]) ?_ 0 _ rfl; exact BK428.out))⟩; replace BK429 : Aside0 (w154.heap[gb429]? = some (.cells #[.slice none 0 0, .int .i64 0] 49 (0, 0))) := ⟨(by rw [hw]; exact (by refine blk_far ?_ NB429_428.out _; refine blk_far ?_ NB429_428.out _; exact BK429.out))⟩; replace BK436 : Aside0 (w154.heap[gb436]? = some (.cells #[.int .u64 t430, .int .i64 t431, .int .i64 t432, .int .i64 t433, .bool false, .bool t435] 80 (0, 0))) := ⟨(by rw [hw]; exact (by refine blk_far ?_ NB436_428.out _; refine blk_far ?_ NB436_428.out _; exact BK436.out))⟩; replace HK : Aside0 (Kept w w154 (fun k_ => P0_0_ k_)) := ⟨(by rw [hw]; repeat (with_reducible first | exact HK.out | refine Kept.setCell ?_ (.inr GW428.out) _ | refine Kept.setCell ?_ (.inr GW429.out) _ | refine Kept.setCell ?_ (.inr GW436.out) _))⟩; replace HB : Aside0 (Below w0.heap.size w0 w154) := ⟨(by rw [hw]; repeat (with_reducible first | exact HB.out | refine below_set ?_ GE428.out | refine below_set ?_ GE429.out | refine below_set ?_ GE436.out))⟩; clear hw; have hcz155_0 : w154.cell? ⟨gb428, 0, none⟩ = some (.slice Ao152 t517.length co152) := (blk_cell BK428.out 0).trans rfl; have hcz155_1 : w154.cell? ⟨gb428, 1, none⟩ = some (.int .i64 t520) := (blk_cell BK428.out 1).trans rfl; have hfz155_0 := blk_frozen BK428.out 0; have hfz155_1 := blk_frozen BK428.out 1) | ((with_reducible refine gate_callee (f := 54) rfl ?_); refine goesL_ (some 103) rfl rfl Try.func54 (by kernel_rfl) rfl #[.agg #[.slice Ao152 t517.length co152, .int .i64 t520], .int .i64 t477, .bool true] rfl (by (try simp only [List.map_toArray, List.map_cons, List.map_nil]); try rfl) ?_; (with_reducible refine (turnbuckleref11_paint.calls (fun k_ => some k_ = (.slice Ao152 t517.length co152 : Value).ownBlock) (.slice Ao152 t517.length co152) t517 t520 t477 true t521 t524 w0 _ ?side1 ?side2 A130.out).mono ?_); (case side1 => repeat (first | (with_reducible first | exact HB.out | refine below_set ?_ GE428.out | refine below_set ?_ GE429.out | refine below_set ?_ GE436.out) | exact HB.out)); (case side2 => exact Kd.R_tight rfl HO519.out); rintro e w156 ⟨v522, rfl, ho0, hb, hkp⟩; refine ⟨_, rfl, ?_⟩; have HO523 := Aside0.mk (Kd.R_mono (ok' := fun k_ => (P0_0_ k_ ∨ w.heap.size ≤ k_) ∧ k_ ≠ gb436) ho0 (fun k_ hk_ => ⟨Or.elim hk_ (fun hs_ => (HO519.out.1 k_ (hs_).symm).1) (fun hn_ => (.inr (Nat.le_trans HK.out.1 hn_))), Or.elim hk_ (fun hs_ => fun e_ => (Kd.R_away HO519.out (fun _ hk => hk.2)) (by rw [← e_]; exact hs_)) (fun hn_ => (Kd.freshB BK436.out k_ hn_))⟩)); replace BK428 := Aside0.mk (blk_kept BK428.out hkp (fun hs_ => (fun e_ => (Kd.R_ne HO519.out BK428.out (by decide)) e_) hs_)); replace BK429 := Aside0.mk (blk_kept BK429.out hkp (fun hs_ => (fun e_ => (Kd.R_ne HO519.out BK429.out (by decide)) e_) hs_)); replace BK436 := Aside0.mk (blk_kept BK436.out hkp (fun hs_ => (fun e_ => (Kd.R_away HO519.out (fun _ hk => hk.2)) e_) hs_)); replace HK := Aside0.mk (Kept.then_ (S := (fun k_ => P0_0_ k_)) HK.out hkp (fun k_ hs_ => (fun e_ => (HO519.out.1 k_ e_.symm).1) hs_)); replace HB := Aside0.mk (hb); clear HO519; (try clear hb); (try clear hkp); (try clear ho0); obtain ⟨Ao157, co157, eo157⟩ := Kd.R_slice HO523.out; subst eo157; have hcz158_0 : w156.cell? ⟨gb428, 0, none⟩ = some (.slice Ao152 t517.length co152) := (blk_cell BK428.out 0).trans rfl; have hcz158_1 : w156.cell? ⟨gb428, 1, none⟩ = some (.int .i64 t520) := (blk_cell BK428.out 1).trans rfl; have hfz158_0 := blk_frozen BK428.out 0; have hfz158_1 := blk_frozen BK428.out 1) | ((with_reducible refine gate_store (t := 49) (p := 2) rfl ?_); refine store_event (t := 49) (p := 2) (v := ?vo_w159) (w1 := ((w156.setCell ⟨gb428, 0, none⟩ (.slice Ao157 t521.length co157)).setCell ⟨gb428, 1, none⟩ (.int .i64 t524))) ?hg ?ho ?hn ?hr ?_; (case ho => rfl); (case hg => rfl); (case hn => rfl); (case hr => first | (go_simp; done) | (go_simp; rfl)); intro w159 hw; replace HO523 : Aside0 (Kd.R k80 80 w159 w0.heap.size (fun k_ => (P0_0_ k_ ∨ w.heap.size ≤ k_) ∧ k_ ≠ gb436) (.slice Ao157 t521.length co157) t521) := ⟨(by rw [hw]; exact (by exact Kd.R_mono (Kd.R_far (p := ⟨gb428, 1, none⟩) (Kd.R_far (p := ⟨gb428, 0, none⟩) (Kd.R_types HO523.out BK428.out (by decide)) (fun _ hk => hk.2) (.slice Ao157 t521.length co157)) (fun _ hk => hk.2) (.int .i64 t524)) (fun _ hk => ⟨hk.1.1, hk.1.2⟩)))⟩; replace BK428 : Aside0 (w159.heap[gb428]? = some (.cells #[.slice Ao157 t521.length co157, .int .i64 t524] 49 (0, 0))) := ⟨(by rw [hw]; exact (by refine blk_put (cs := #[.slice Ao157 t521.length co157, .int .i64 t520]) ?_ 1 _ rfl; refine blk_put (cs := #[.slice Ao152 t517.length co152, .int .i64 t520]) ?_ 0 _ rfl; exact BK428.out))⟩; replace BK429 : Aside0 (w159.heap[gb429]? = some (.cells #[.slice none 0 0, .int .i64 0] 49 (0, 0))) := ⟨(by rw [hw]; exact (by refine blk_far ?_ NB429_428.out _; refine blk_far ?_ NB429_428.out _; exact BK429.out))⟩; replace BK436 : Aside0 (w159.heap[gb436]? = some (.cells #[.int .u64 t430, .int .i64 t431, .int .i64 t432, .int .i64 t433, .bool false, .bool t435] 80 (0, 0))) := ⟨(by rw [hw]; exact (by refine blk_far ?_ NB436_428.out _; refine blk_far ?_ NB436_428.out _; exact BK436.out))⟩; replace HK : Aside0 (Kept w w159 (fun k_ => P0_0_ k_)) := ⟨(by rw [hw]; repeat (with_reducible first | exact HK.out | refine Kept.setCell ?_ (.inr GW428.out) _ | refine Kept.setCell ?_ (.inr GW429.out) _ | refine Kept.setCell ?_ (.inr GW436.out) _))⟩; replace HB : Aside0 (Below w0.heap.size w0 w159) := ⟨(by rw [hw]; repeat (with_reducible first | exact HB.out | refine below_set ?_ GE428.out | refine below_set ?_ GE429.out | refine below_set ?_ GE436.out))⟩; clear hw; have hcz160_0 : w159.cell? ⟨gb428, 0, none⟩ = some (.slice Ao157 t521.length co157) := (blk_cell BK428.out 0).trans rfl; have hcz160_1 : w159.cell? ⟨gb428, 1, none⟩ = some (.int .i64 t524) := (blk_cell BK428.out 1).trans rfl; have hfz160_0 := blk_frozen BK428.out 0; have hfz160_1 := blk_frozen BK428.out 1) | ((with_reducible refine gate_callee (f := 59) rfl ?_); refine goesL_ (some 108) rfl rfl Try.func59 (by kernel_rfl) rfl #[.agg #[.slice Ao157 t521.length co157, .int .i64 t524], .int .i64 t477, .bool (!t480)] rfl (by (try simp only [List.map_toArray, List.map_cons, List.map_nil]); try rfl) ?_; (with_reducible refine (turnbuckleref11_turn.calls (fun k_ => some k_ = (.slice Ao157 t521.length co157 : Value).ownBlock) (.slice Ao157 t521.length co157) t521 t524 t477 (!t480) t525 t528 w0 _ ?side1 ?side2 A131.out).mono ?_); (case side1 => repeat (first | (with_reducible first | exact HB.out | refine below_set ?_ GE428.out | refine below_set ?_ GE429.out | refine below_set ?_ GE436.out) | exact HB.out)); (case side2 => exact Kd.R_tight rfl HO523.out); rintro e w161 ⟨v526, rfl, ho0, hb, hkp⟩; refine ⟨_, rfl, ?_⟩; have HO527 := Aside0.mk (Kd.R_mono (ok' := fun k_ => (P0_0_ k_ ∨ w.heap.size ≤ k_) ∧ k_ ≠ gb436) ho0 (fun k_ hk_ => ⟨Or.elim hk_ (fun hs_ => (HO523.out.1 k_ (hs_).symm).1) (fun hn_ => (.inr (Nat.le_trans HK.out.1 hn_))), Or.elim hk_ (fun hs_ => fun e_ => (Kd.R_away HO523.out (fun _ hk => hk.2)) (by rw [← e_]; exact hs_)) (fun hn_ => (Kd.freshB BK436.out k_ hn_))⟩)); replace BK428 := Aside0.mk (blk_kept BK428.out hkp (fun hs_ => (fun e_ => (Kd.R_ne HO523.out BK428.out (by decide)) e_) hs_)); replace BK429 := Aside0.mk (blk_kept BK429.out hkp (fun hs_ => (fun e_ => (Kd.R_ne HO523.out BK429.out (by decide)) e_) hs_)); replace BK436 := Aside0.mk (blk_kept BK436.out hkp (fun hs_ => (fun e_ => (Kd.R_away HO523.out (fun _ hk => hk.2)) e_) hs_)); replace HK := Aside0.mk (Kept.then_ (S := (fun k_ => P0_0_ k_)) HK.out hkp (fun k_ hs_ => (fun e_ => (HO523.out.1 k_ e_.symm).1) hs_)); replace HB := Aside0.mk (hb); clear HO523; (try clear hb); (try clear hkp); (try clear ho0); obtain ⟨Ao162, co162, eo162⟩ := Kd.R_slice HO527.out; subst eo162; have hcz163_0 : w161.cell? ⟨gb428, 0, none⟩ = some (.slice Ao157 t521.length co157) := (blk_cell BK428.out 0).trans rfl; have hcz163_1 : w161.cell? ⟨gb428, 1, none⟩ = some (.int .i64 t524) := (blk_cell BK428.out 1).trans rfl; have hfz163_0 := blk_frozen BK428.out 0; have hfz163_1 := blk_frozen BK428.out 1))
          go_roundg k2
          case measure => have := HK1.out; have := HK2.out; omega
          case rel => exact ⟨(x1_2), (t525), (t528), (.slice Ao162 t525.length co162), (by first | rfl | (simp; done) | (simp [*]; done)), H', ⟨by have := HK1.out; have := HK2.out; omega⟩, ⟨by exact Kd.R_mono (Kd.R_far (p := ⟨gb428, 1, none⟩) (Kd.R_far (p := ⟨gb428, 0, none⟩) (Kd.R_types HO527.out BK428.out (by decide)) (fun _ hk => hk.2) (.slice Ao162 t525.length co162)) (fun _ hk => hk.2) (.int .i64 t528)) (fun _ hk => ⟨hk.1.1, hk.1.2⟩)⟩, ⟨by refine blk_put (cs := #[.slice Ao162 t525.length co162, .int .i64 t524]) ?_ 1 _ rfl; refine blk_put (cs := #[.slice Ao157 t521.length co157, .int .i64 t524]) ?_ 0 _ rfl; exact BK428.out⟩, ⟨by refine blk_far ?_ NB429_428.out _; refine blk_far ?_ NB429_428.out _; exact BK429.out⟩, ⟨by refine blk_far ?_ NB436_428.out _; refine blk_far ?_ NB436_428.out _; exact BK436.out⟩, ⟨by repeat (first | (with_reducible first | exact HK.out | refine Kept.setCell ?_ (.inr GW428.out) _ | refine Kept.setCell ?_ (.inr GW429.out) _ | refine Kept.setCell ?_ (.inr GW436.out) _) | exact HK.out)⟩, ⟨by repeat (first | (with_reducible first | exact HB.out | refine below_set ?_ GE428.out | refine below_set ?_ GE429.out | refine below_set ?_ GE436.out) | exact HB.out)⟩⟩
       ·replace c46 := Bool.eq_false_iff.mpr c46
        subst c46
        have H1 : ((turnbuckleref11_paint.f x429000_2 x429001_2 x429001_2 false).bind fun bt464 => (some (bt464.1, bt464.2, 0))) = some (r1, r2, r3) := by rw [if_neg (show ¬ (false = true) by decide)] at H; exact H
        clear H
        have H := H1
        clear H1
        replace H := Option.bind_eq_some_iff.mp H
        obtain ⟨⟨t464, t467⟩, A1640, H⟩ := H
        replace H : (some (t464, t467, 0)) = some (r1, r2, r3) := H
        have A164 := Aside0.mk A1640
        clear A1640
        simp only [Option.some.injEq, Prod.mk.injEq] at H
        obtain ⟨rfl, rfl, rfl⟩ := H
        try go_wp2
        have n0_ := Aside0.mk (Kd.R_drew HO_429000.out)
        have n1_ := Aside0.mk (blk_drew BK428.out)
        have n2_ := Aside0.mk (blk_drew BK429.out)
        have n3_ := Aside0.mk (blk_drew BK436.out)
        have n4_ := Aside0.mk (Kept.drew HK.out)
        have n5_ := Aside0.mk (below_drew1 HB.out)
        clear HO_429000
        clear BK428
        clear BK429
        clear BK436
        clear HK
        clear HB
        have HO_429000 := n0_
        have BK428 := n1_
        have BK429 := n2_
        have BK436 := n3_
        have HK := n4_
        have HB := n5_
        clear n0_ n1_ n2_ n3_ n4_ n5_
        obtain ⟨Ao166, co166, eo166⟩ := Kd.R_slice HO_429000.out
        (first | subst eo166 | (injection eo166 with f1_ f2_ f3_; have f4_ := f1_.symm; have f5_ := f3_.symm; clear f1_ f2_ f3_; subst f4_; subst f5_))
        refine start_ (n := 7) (S := fun w' => w'.cell? ⟨gb428, 0, none⟩ = some (.slice Ao166 x429000_2.length co166) ∧ w'.cell? ⟨gb428, 1, none⟩ = some (.int .i64 x429001_2)) (ds := []) #[false, false, false, false, false, false, false] (by kernel_rfl) rfl rfl ⟨(blk_cell BK428.out 0).trans rfl, (blk_cell BK428.out 1).trans rfl⟩ (fun hHeld => ?_)
        generalize wr.drew = w165 at HO_429000 BK428 BK429 BK436 HK HB hHeld ⊢
        refine pure_ (i := 2) (N := some 49) (v := ?_) (a' := ?_) #[false, false, true, false, false, false, false] rfl rfl (by kernel_rfl) (fun _ _ _ h => h) (Or.inl ⟨by rfl, ?_⟩) ?_ ?_
        rotate_left
        ·intro w'
         go_simp
         with_reducible rfl
        rotate_left
        ·simp only [Act.put, List.setIfInBounds_toArray, List.set_cons_zero, List.set_cons_succ, i64_w, i32_w]
         rfl
        refine take_ (i := 0) (N := some 47) (v := ?_) (a' := ?_) #[true, false, true, false, false, false, false] rfl rfl (by kernel_rfl) (fun _ _ _ h => h) (Or.inl ⟨by rfl, ?_⟩) hHeld ?_ ?_
        rotate_left
        ·rintro w' ⟨s0, s1⟩
         go_simp
         with_reducible rfl
        rotate_left
        ·simp only [Act.put, List.setIfInBounds_toArray, List.set_cons_zero, List.set_cons_succ, i64_w, i32_w]
         rfl
        refine take_ (i := 1) (N := some 48) (v := ?_) (a' := ?_) #[true, true, true, false, false, false, false] rfl rfl (by kernel_rfl) (fun _ _ _ h => h) (Or.inl ⟨by rfl, ?_⟩) hHeld ?_ ?_
        rotate_left
        ·rintro w' ⟨s0, s1⟩
         go_simp
         with_reducible rfl
        rotate_left
        ·simp only [Act.put, List.setIfInBounds_toArray, List.set_cons_zero, List.set_cons_succ, i64_w, i32_w]
         rfl
        refine one_ (i := 3) (N := some 50) #[true, true, true, true, false, false, false] rfl rfl (by kernel_rfl) (by decide) (fun K hK => ?_)
        refine goes_ Try.func51 (by kernel_rfl) rfl #[.agg #[.slice Ao166 x429000_2.length co166, .int .i64 x429001_2], .int .i64 x1_2] (by rfl) rfl rfl (by (try simp only [List.map_toArray, List.map_cons, List.map_nil]); try rfl) ?_
        with_reducible refine (turnbuckleref11_Of.calls _ _ x429000_2 x429001_2 x1_2 t452 t453 t454 t455 t456 t457 _ ?side1 ?side2 A44.out).mono ?_
        (case side1 => repeat (first | exact (Kd.R_reads' HO_429000.out).2.2 | (with_reducible refine Kd.C_alloc ?_ _) | (with_reducible refine Kd.C_drewN ?_ _) | (with_reducible refine Kd.C_drew ?_)))
        (case side2 => exact (Kd.R_reads' HO_429000.out).2.1)
        rintro e w167 ⟨rfl, hb⟩
        refine ⟨_, rfl, ?_⟩
        have n0_ := Aside0.mk (Kd.R_below HO_429000.out hb)
        have n1_ := Aside0.mk (blk_below BK428.out hb)
        have n2_ := Aside0.mk (blk_below BK429.out hb)
        have n3_ := Aside0.mk (blk_below BK436.out hb)
        have n4_ := Aside0.mk (Kept.below (S := (fun k_ => P0_0_ k_)) HK.out hb)
        have n5_ := Aside0.mk (below_step HB.out hb)
        clear HO_429000
        clear BK428
        clear BK429
        clear BK436
        clear HK
        clear HB
        have HO_429000 := n0_
        have BK428 := n1_
        have BK429 := n2_
        have BK436 := n3_
        have HK := n4_
        have HB := n5_
        clear n0_ n1_ n2_ n3_ n4_ n5_
        (try clear hb)
        (try clear hb2)
        (try clear hk)
        (try clear hi)
        refine hK.out _ _ ⟨(blk_cell BK428.out 0).trans rfl, (blk_cell BK428.out 1).trans rfl⟩ (fun hHeld => ?_)
        clear hK K
        refine norm_ (a' := ?_) ?_ ?_
        rotate_left
        ·show Act.put _ (some 50) _ = _
         simp only [Act.put, List.setIfInBounds_toArray, List.set_cons_zero, List.set_cons_succ, i64_w, i32_w]
         rfl
        refine pure_ (i := 4) (N := some 51) (v := ?_) (a' := ?_) #[true, true, true, true, true, false, false] rfl rfl (by kernel_rfl) (fun _ _ _ h => h) (Or.inl ⟨by rfl, ?_⟩) ?_ ?_
        rotate_left
        ·intro w'
         go_simp
         with_reducible rfl
        rotate_left
        ·simp only [Act.put, List.setIfInBounds_toArray, List.set_cons_zero, List.set_cons_succ, i64_w, i32_w]
         rfl
        refine one_ (i := 5) (N := some 52) #[true, true, true, true, true, true, false] rfl rfl (by kernel_rfl) (by decide) (fun K hK => ?_)
        refine goes_ Try.func51 (by kernel_rfl) rfl #[.agg #[.slice Ao166 x429000_2.length co166, .int .i64 x429001_2], .int .i64 t455] (by rfl) rfl rfl (by (try simp only [List.map_toArray, List.map_cons, List.map_nil]); try rfl) ?_
        with_reducible refine (turnbuckleref11_Of.calls _ _ x429000_2 x429001_2 t455 t458 t459 t460 t461 t462 false _ ?side1 ?side2 A45.out).mono ?_
        (case side1 => repeat (first | exact (Kd.R_reads' HO_429000.out).2.2 | (with_reducible refine Kd.C_alloc ?_ _) | (with_reducible refine Kd.C_drewN ?_ _) | (with_reducible refine Kd.C_drew ?_)))
        (case side2 => exact (Kd.R_reads' HO_429000.out).2.1)
        rintro e w168 ⟨rfl, hb⟩
        refine ⟨_, rfl, ?_⟩
        have n0_ := Aside0.mk (Kd.R_below HO_429000.out hb)
        have n1_ := Aside0.mk (blk_below BK428.out hb)
        have n2_ := Aside0.mk (blk_below BK429.out hb)
        have n3_ := Aside0.mk (blk_below BK436.out hb)
        have n4_ := Aside0.mk (Kept.below (S := (fun k_ => P0_0_ k_)) HK.out hb)
        have n5_ := Aside0.mk (below_step HB.out hb)
        clear HO_429000
        clear BK428
        clear BK429
        clear BK436
        clear HK
        clear HB
        have HO_429000 := n0_
        have BK428 := n1_
        have BK429 := n2_
        have BK436 := n3_
        have HK := n4_
        have HB := n5_
        clear n0_ n1_ n2_ n3_ n4_ n5_
        (try clear hb)
        (try clear hb2)
        (try clear hk)
        (try clear hi)
        refine hK.out _ _ ⟨(blk_cell BK428.out 0).trans rfl, (blk_cell BK428.out 1).trans rfl⟩ (fun hHeld => ?_)
        clear hK K
        refine norm_ (a' := ?_) ?_ ?_
        rotate_left
        ·show Act.put _ (some 52) _ = _
         simp only [Act.put, List.setIfInBounds_toArray, List.set_cons_zero, List.set_cons_succ, i64_w, i32_w]
         rfl
        refine pure_ (i := 6) (N := some 53) (v := ?_) (a' := ?_) #[true, true, true, true, true, true, true] rfl rfl (by kernel_rfl) (fun _ _ _ h => h) (Or.inl ⟨by rfl, ?_⟩) ?_ ?_
        rotate_left
        ·intro w'
         go_simp
         with_reducible rfl
        rotate_left
        ·simp only [Act.put, List.setIfInBounds_toArray, List.set_cons_zero, List.set_cons_succ, i64_w, i32_w]
         rfl
        refine done_ (by kernel_rfl) ?_
        have hnb169 := NB428_429.out
        have hnc169 := NB429_428.out
        have hnb170 := NB428_436.out
        have hnc170 := NB436_428.out
        have hcz171_0 : w168.cell? ⟨gb428, 0, none⟩ = some (.slice Ao166 x429000_2.length co166) := (blk_cell BK428.out 0).trans rfl
        have hcz171_1 : w168.cell? ⟨gb428, 1, none⟩ = some (.int .i64 x429001_2) := (blk_cell BK428.out 1).trans rfl
        have hfz171_0 := blk_frozen BK428.out 0
        have hfz171_1 := blk_frozen BK428.out 1
        try go_wp2_with (first | ((with_reducible refine gate_callee (f := 54) rfl ?_); refine goesL_ (some 112) rfl rfl Try.func54 (by kernel_rfl) rfl #[.agg #[.slice Ao166 x429000_2.length co166, .int .i64 x429001_2], .int .i64 x429001_2, .bool false] rfl (by (try simp only [List.map_toArray, List.map_cons, List.map_nil]); try rfl) ?_; (with_reducible refine (turnbuckleref11_paint.calls (fun k_ => some k_ = (.slice Ao166 x429000_2.length co166 : Value).ownBlock) (.slice Ao166 x429000_2.length co166) x429000_2 x429001_2 x429001_2 false t464 t467 w0 _ ?side1 ?side2 A164.out).mono ?_); (case side1 => repeat (first | (with_reducible first | exact HB.out | refine below_set ?_ GE428.out | refine below_set ?_ GE429.out | refine below_set ?_ GE436.out) | exact HB.out)); (case side2 => exact Kd.R_tight rfl HO_429000.out); rintro e w172 ⟨v465, rfl, ho0, hb, hkp⟩; refine ⟨_, rfl, ?_⟩; have HO466 := Aside0.mk (Kd.R_mono (ok' := fun k_ => (P0_0_ k_ ∨ w.heap.size ≤ k_) ∧ k_ ≠ gb436) ho0 (fun k_ hk_ => ⟨Or.elim hk_ (fun hs_ => (HO_429000.out.1 k_ (hs_).symm).1) (fun hn_ => (.inr (Nat.le_trans HK.out.1 hn_))), Or.elim hk_ (fun hs_ => fun e_ => (Kd.R_away HO_429000.out (fun _ hk => hk.2)) (by rw [← e_]; exact hs_)) (fun hn_ => (Kd.freshB BK436.out k_ hn_))⟩)); replace BK428 := Aside0.mk (blk_kept BK428.out hkp (fun hs_ => (fun e_ => (Kd.R_ne HO_429000.out BK428.out (by decide)) e_) hs_)); replace BK429 := Aside0.mk (blk_kept BK429.out hkp (fun hs_ => (fun e_ => (Kd.R_ne HO_429000.out BK429.out (by decide)) e_) hs_)); replace BK436 := Aside0.mk (blk_kept BK436.out hkp (fun hs_ => (fun e_ => (Kd.R_away HO_429000.out (fun _ hk => hk.2)) e_) hs_)); replace HK := Aside0.mk (Kept.then_ (S := (fun k_ => P0_0_ k_)) HK.out hkp (fun k_ hs_ => (fun e_ => (HO_429000.out.1 k_ e_.symm).1) hs_)); replace HB := Aside0.mk (hb); clear HO_429000; (try clear hb); (try clear hkp); (try clear ho0); obtain ⟨Ao173, co173, eo173⟩ := Kd.R_slice HO466.out; subst eo173; have hnb174 := NB429_436.out; have hnc174 := NB436_429.out; have hcz175_0 : w172.cell? ⟨gb429, 0, none⟩ = some (.slice none 0 0) := (blk_cell BK429.out 0).trans rfl; have hcz175_1 : w172.cell? ⟨gb429, 1, none⟩ = some (.int .i64 0) := (blk_cell BK429.out 1).trans rfl; have hfz175_0 := blk_frozen BK429.out 0; have hfz175_1 := blk_frozen BK429.out 1))
        refine bodyPost_ret (results_ct rfl _ _ gb429 49 #[.slice Ao173 t464.length co173, .int .i64 t467] (0, 0) _ rfl (by refine blk_put (cs := #[.slice Ao173 t464.length co173, .int .i64 0]) ?_ 1 _ rfl; refine blk_put (cs := #[.slice none 0 0, .int .i64 0]) ?_ 0 _ rfl; exact BK429.out) Try.underlying49 rfl (by kernel_rfl)) rfl ?_
        exact ⟨_, by first | rfl | (simp [errW_none, errW_some] <;> rfl) | (simp [*, errW_none, errW_some] <;> rfl), by exact Kd.R_mono (Kd.R_far (p := ⟨gb429, 1, none⟩) (Kd.R_far (p := ⟨gb429, 0, none⟩) (Kd.R_types HO466.out BK429.out (by decide)) (fun _ hk => hk.2) (.slice Ao173 t464.length co173)) (fun _ hk => hk.2) (.int .i64 t467)) (fun _ hk => hk.1.1), by repeat (first | (with_reducible first | exact HB.out | refine below_set ?_ GE428.out | refine below_set ?_ GE429.out | refine below_set ?_ GE436.out) | exact HB.out), by repeat (first | (with_reducible first | exact HK.out | refine Kept.setCell ?_ (.inr GW428.out) _ | refine Kept.setCell ?_ (.inr GW429.out) _ | refine Kept.setCell ?_ (.inr GW436.out) _) | exact HK.out)⟩
    ·rw [if_neg c28] at H
     have c28b0 : (x9_1 == 0) = false := beq_eq_false_iff_ne.mpr c28
     have c28b1 : (x9_1 != 0) = true := bne_iff_ne.mpr c28
     replace H := Option.bind_eq_some_iff.mp H
     obtain ⟨⟨t437, t438, t439, t440, t441, t442⟩, A1760, H⟩ := H
     replace H : ((turnbuckleref11_Child.f l0_0 a0_1 x9_1 (decide (t430 ≥ t437))).bind fun t443 => (turnbuckleref11_Add.l0 k1 a1 x9_1 (decide (t430 ≥ t437)) t443 l0_0 a0_1 t430 t431 t432 t433 false t435)) = some (r1, r2, r3) := H
     have A176 := Aside0.mk A1760
     clear A1760
     replace H := Option.bind_eq_some_iff.mp H
     obtain ⟨t443, A1770, H⟩ := H
     replace H : (turnbuckleref11_Add.l0 k1 a1 x9_1 (decide (t430 ≥ t437)) t443 l0_0 a0_1 t430 t431 t432 t433 false t435) = some (r1, r2, r3) := H
     have A177 := Aside0.mk A1770
     clear A1770
     have H' := Aside0.mk H
     clear H
     try go_wp2
     have n0_ := Aside0.mk (Kd.R_drew HO_429000.out)
     have n1_ := Aside0.mk (blk_drew BK428.out)
     have n2_ := Aside0.mk (blk_drew BK429.out)
     have n3_ := Aside0.mk (blk_drew BK436.out)
     have n4_ := Aside0.mk (Kept.drew HK.out)
     have n5_ := Aside0.mk (below_drew1 HB.out)
     clear HO_429000
     clear BK428
     clear BK429
     clear BK436
     clear HK
     clear HB
     have HO_429000 := n0_
     have BK428 := n1_
     have BK429 := n2_
     have BK436 := n3_
     have HK := n4_
     have HB := n5_
     clear n0_ n1_ n2_ n3_ n4_ n5_
     refine start_ (n := 8) (S := fun w' => w'.cell? ⟨gb436, 0, none⟩ = some (.int .u64 t430) ∧ w'.cell? ⟨gb436, 1, none⟩ = some (.int .i64 t431) ∧ w'.cell? ⟨gb436, 2, none⟩ = some (.int .i64 t432) ∧ w'.cell? ⟨gb436, 3, none⟩ = some (.int .i64 t433) ∧ w'.cell? ⟨gb436, 4, none⟩ = some (.bool false) ∧ w'.cell? ⟨gb436, 5, none⟩ = some (.bool t435) ∧ w'.cell? ⟨gb428, 0, none⟩ = some (.slice Ao17 l0_0.length co17) ∧ w'.cell? ⟨gb428, 1, none⟩ = some (.int .i64 a0_1)) (ds := []) #[false, false, false, false, false, false, false, false] (by kernel_rfl) rfl rfl ⟨(blk_cell BK436.out 0).trans rfl, (blk_cell BK436.out 1).trans rfl, (blk_cell BK436.out 2).trans rfl, (blk_cell BK436.out 3).trans rfl, (blk_cell BK436.out 4).trans rfl, (blk_cell BK436.out 5).trans rfl, (blk_cell BK428.out 0).trans rfl, (blk_cell BK428.out 1).trans rfl⟩ (fun hHeld => ?_); refine with_tabW turnbuckleref11_Add.tab9 turnbuckleref11_Add.bits9 (fun HT_ HW_ => ?_)
     generalize wr.drew = w178 at HO_429000 BK428 BK429 BK436 HK HB hHeld ⊢
     refine pure_ (i := 0) (N := some 25) (v := ?_) (a' := ?_) #[true, false, false, false, false, false, false, false] rfl rfl (any_of HT_.out (by kernel_rfl)) (fun _ _ _ h => h) (Or.inl ⟨by rfl, ?_⟩) ?_ ?_
     rotate_left
     ·intro w'
      go_simp
      with_reducible rfl
     rotate_left
     ·simp only [Act.put, List.setIfInBounds_toArray, List.set_cons_zero, List.set_cons_succ, i64_w, i32_w]
      rfl
     refine pure_ (i := 3) (N := some 28) (v := ?_) (a' := ?_) #[true, false, false, true, false, false, false, false] rfl rfl (any_of HT_.out (by kernel_rfl)) (fun _ _ _ h => h) (Or.inl ⟨by rfl, ?_⟩) ?_ ?_
     rotate_left
     ·intro w'
      go_simp
      with_reducible rfl
     rotate_left
     ·simp only [Act.put, List.setIfInBounds_toArray, List.set_cons_zero, List.set_cons_succ, i64_w, i32_w]
      rfl
     refine take_ (i := 1) (N := some 26) (v := ?_) (a' := ?_) #[true, true, false, true, false, false, false, false] rfl rfl (take_ofW HT_.out HW_.out (by kernel_rfl)) (fun _ _ _ h => h) (Or.inl ⟨by rfl, ?_⟩) hHeld ?_ ?_
     rotate_left
     ·rintro w' ⟨s0, s1, s2, s3, s4, s5, s6, s7⟩
      go_simp
      with_reducible rfl
     rotate_left
     ·simp only [Act.put, List.setIfInBounds_toArray, List.set_cons_zero, List.set_cons_succ, i64_w, i32_w]
      rfl
     refine take_ (i := 2) (N := some 27) (v := ?_) (a' := ?_) #[true, true, true, true, false, false, false, false] rfl rfl (take_ofW HT_.out HW_.out (by kernel_rfl)) (fun _ _ _ h => h) (Or.inl ⟨by rfl, ?_⟩) hHeld ?_ ?_
     rotate_left
     ·rintro w' ⟨s0, s1, s2, s3, s4, s5, s6, s7⟩
      go_simp
      with_reducible rfl
     rotate_left
     ·simp only [Act.put, List.setIfInBounds_toArray, List.set_cons_zero, List.set_cons_succ, i64_w, i32_w]
      rfl
     refine one_ (i := 4) (N := some 29) #[true, true, true, true, true, false, false, false] rfl rfl (one_of HT_.out (by kernel_rfl)) (by decide) (fun K hK => ?_)
     refine goes_ Try.func51 (by kernel_rfl) rfl #[.agg #[.slice Ao17 l0_0.length co17, .int .i64 a0_1], .int .i64 x9_1] (by rfl) rfl rfl (by (try simp only [List.map_toArray, List.map_cons, List.map_nil]); try rfl) ?_
     with_reducible refine (turnbuckleref11_Of.calls _ _ l0_0 a0_1 x9_1 t437 t438 t439 t440 t441 t442 _ ?side1 ?side2 A176.out).mono ?_
     (case side1 => repeat (first | exact (Kd.R_reads' HO_429000.out).2.2 | (with_reducible refine Kd.C_alloc ?_ _) | (with_reducible refine Kd.C_drewN ?_ _) | (with_reducible refine Kd.C_drew ?_)))
     (case side2 => exact (Kd.R_reads' HO_429000.out).2.1)
     rintro e w179 ⟨rfl, hb⟩
     refine ⟨_, rfl, ?_⟩
     have n0_ := Aside0.mk (Kd.R_below HO_429000.out hb)
     have n1_ := Aside0.mk (blk_below BK428.out hb)
     have n2_ := Aside0.mk (blk_below BK429.out hb)
     have n3_ := Aside0.mk (blk_below BK436.out hb)
     have n4_ := Aside0.mk (Kept.below (S := (fun k_ => P0_0_ k_)) HK.out hb)
     have n5_ := Aside0.mk (below_step HB.out hb)
     clear HO_429000
     clear BK428
     clear BK429
     clear BK436
     clear HK
     clear HB
     have HO_429000 := n0_
     have BK428 := n1_
     have BK429 := n2_
     have BK436 := n3_
     have HK := n4_
     have HB := n5_
     clear n0_ n1_ n2_ n3_ n4_ n5_
     (try clear hb)
     (try clear hb2)
     (try clear hk)
     (try clear hi)
     refine hK.out _ _ ⟨(blk_cell BK436.out 0).trans rfl, (blk_cell BK436.out 1).trans rfl, (blk_cell BK436.out 2).trans rfl, (blk_cell BK436.out 3).trans rfl, (blk_cell BK436.out 4).trans rfl, (blk_cell BK436.out 5).trans rfl, (blk_cell BK428.out 0).trans rfl, (blk_cell BK428.out 1).trans rfl⟩ (fun hHeld => ?_)
     clear hK K
     refine norm_ (a' := ?_) ?_ ?_
     rotate_left
     ·show Act.put _ (some 29) _ = _
      simp only [Act.put, List.setIfInBounds_toArray, List.set_cons_zero, List.set_cons_succ, i64_w, i32_w]
      rfl
     refine pure_ (i := 5) (N := some 30) (v := ?_) (a' := ?_) #[true, true, true, true, true, true, false, false] rfl rfl (any_of HT_.out (by kernel_rfl)) (fun _ _ _ h => h) (Or.inl ⟨by rfl, ?_⟩) ?_ ?_
     rotate_left
     ·intro w'
      go_simp
      with_reducible rfl
     rotate_left
     ·simp only [Act.put, List.setIfInBounds_toArray, List.set_cons_zero, List.set_cons_succ, i64_w, i32_w]
      rfl
     refine pure_ (i := 6) (N := some 31) (v := ?_) (a' := ?_) #[true, true, true, true, true, true, true, false] rfl rfl (any_of HT_.out (by kernel_rfl)) (fun _ _ _ h => h) (Or.inl ⟨by rfl, ?_⟩) ?_ ?_
     rotate_left
     ·intro w'
      go_simp
      with_reducible rfl
     rotate_left
     ·simp only [Act.put, List.setIfInBounds_toArray, List.set_cons_zero, List.set_cons_succ, i64_w, i32_w]
      rfl
     refine pure_ (i := 7) (N := some 8) (v := ?_) (a' := ?_) #[true, true, true, true, true, true, true, true] rfl rfl (any_of HT_.out (by kernel_rfl)) (fun _ _ _ h => h) (Or.inl ⟨by rfl, ?_⟩) ?_ ?_
     rotate_left
     ·intro w'
      go_simp
      with_reducible rfl
     rotate_left
     ·simp only [Act.put, List.setIfInBounds_toArray, List.set_cons_zero, List.set_cons_succ, i64_w, i32_w]
      rfl
     refine done_ (done_of HT_.out (by kernel_rfl)) ?_
     have hnb180 := NB428_429.out
     have hnc180 := NB429_428.out
     have hnb181 := NB428_436.out
     have hnc181 := NB436_428.out
     have hcz182_0 : w179.cell? ⟨gb428, 0, none⟩ = some (.slice Ao17 l0_0.length co17) := (blk_cell BK428.out 0).trans rfl
     have hcz182_1 : w179.cell? ⟨gb428, 1, none⟩ = some (.int .i64 a0_1) := (blk_cell BK428.out 1).trans rfl
     have hfz182_0 := blk_frozen BK428.out 0
     have hfz182_1 := blk_frozen BK428.out 1
     try go_wp2_with (first | ((with_reducible refine gate_callee (f := 57) rfl ?_); refine goesL_ (some 35) rfl rfl Try.func57 (by kernel_rfl) rfl #[.agg #[.slice Ao17 l0_0.length co17, .int .i64 a0_1], .int .i64 x9_1, .bool (decide (t430 ≥ t437))] rfl (by (try simp only [List.map_toArray, List.map_cons, List.map_nil]); try rfl) ?_; (with_reducible refine (turnbuckleref11_Child.calls _ _ l0_0 a0_1 x9_1 (decide (t430 ≥ t437)) t443 _ ?side1 ?side2 A177.out).mono ?_); (case side1 => repeat (first | exact (Kd.R_reads' HO_429000.out).2.2 | (with_reducible refine Kd.C_alloc ?_ _) | (with_reducible refine Kd.C_drewN ?_ _) | (with_reducible refine Kd.C_drew ?_))); (case side2 => exact (Kd.R_reads' HO_429000.out).2.1); rintro e w183 ⟨rfl, hb⟩; refine ⟨_, rfl, ?_⟩; replace HO_429000 := Aside0.mk (Kd.R_below HO_429000.out hb); replace BK428 := Aside0.mk (blk_below BK428.out hb); replace BK429 := Aside0.mk (blk_below BK429.out hb); replace BK436 := Aside0.mk (blk_below BK436.out hb); replace HK := Aside0.mk (Kept.below (S := (fun k_ => P0_0_ k_)) HK.out hb); replace HB := Aside0.mk (below_step HB.out hb); (try clear hb); (try clear hb2); (try clear hk); (try clear hi)))
     go_roundg k1
     case measure => have := HK1.out; omega
     case rel => exact ⟨(x9_1), (decide (t430 ≥ t437)), (t443), (by first | rfl | (simp; done) | (simp [*]; done)), (by first | rfl | (simp; done) | (simp [*]; done)), (by first | rfl | (simp; done) | (simp [*]; done)), H', ⟨by have := HK1.out; omega⟩, ⟨by exact HO_429000.out⟩, ⟨by exact BK428.out⟩, ⟨by exact BK429.out⟩, ⟨by exact BK436.out⟩, ⟨by repeat (first | (with_reducible first | exact HK.out | refine Kept.setCell ?_ (.inr GW428.out) _ | refine Kept.setCell ?_ (.inr GW429.out) _ | refine Kept.setCell ?_ (.inr GW436.out) _) | exact HK.out)⟩, ⟨by repeat (first | (with_reducible first | exact HB.out | refine below_set ?_ GE428.out | refine below_set ?_ GE429.out | refine below_set ?_ GE436.out) | exact HB.out)⟩⟩
end Go.Proofs.Ythkppnkhiimaeaa.PTreePlays
