/- Lemmas of the claim TreePlays. -/
import Derived.Test.YthkppnkhiimaeaaTrRf0
import Derived.Test.YthkppnkhiimaeaaTrRf1
import Derived.Test.YthkppnkhiimaeaaTrRf2
/- The reference of layer 11 (began as a printed text, which falls). -/
namespace Go.Proofs.Ythkppnkhiimaeaa.PTreePlays
open Go.RowKit Go.Proofs.YthkppnkhiimaeaaW.PrintWords Go.Proofs.YthkppnkhiimaeaaW.PrintLast Go.Proofs.YthkppnkhiimaeaaW.PrintMore
attribute [local go_sem] fld80_0 fld80_1 fld80_2 fld80_3 fld80_4 fld80_5 max2_int min2_int max_two min_two max_three min_three max_four min_four   -- for this text's walks alone
set_option linter.unusedVariables false
set_option linter.unusedSimpArgs false
/-! ### turnbuckleref11_fix: function 56 -/
mutual
def turnbuckleref11_fix.l0 : Nat → Int → Int → List (S80) → Int → Option ((List (S80)) × Int)
 | 0, _, _, _, _ => none
 | k + 1, x1, x2, x258000, x258001 => if x1 = x258001 then (turnbuckleref11_fix.j1 k x1 x2 false x258000 x258001) else ((turnbuckleref11_Of.f x258000 x258001 x1).bind fun bt259 => (turnbuckleref11_fix.j1 k x1 x2 (!bt259.2.2.2.2.2) x258000 x258001))
def turnbuckleref11_fix.j1 : Nat → Int → Int → Bool → List (S80) → Int → Option ((List (S80)) × Int)
 | 0, _, _, _, _, _ => none
 | k + 1, x1, x2, x21, x258000, x258001 => if x21 = true then ((turnbuckleref11_onRight.f x258000 x258001 x2 x1).bind fun t269 => ((turnbuckleref11_Child.f x258000 x258001 x2 (!t269)).bind fun t270 => ((turnbuckleref11_Of.f x258000 x258001 t270).bind fun bt271 => (if bt271.2.2.2.2.2 = true then ((turnbuckleref11_paint.f x258000 x258001 t270 false).bind fun bt277 => ((turnbuckleref11_paint.f bt277.1 bt277.2 x2 true).bind fun bt281 => ((turnbuckleref11_turn.f bt281.1 bt281.2 x2 t269).bind fun bt285 => ((turnbuckleref11_Child.f bt285.1 bt285.2 x2 (!t269)).bind fun t289 => (turnbuckleref11_fix.j2 k x2 t269 t289 bt285.1 bt285.2))))) else (turnbuckleref11_fix.j2 k x2 t269 t270 x258000 x258001))))) else ((turnbuckleref11_paint.f x258000 x258001 x1 false).bind fun bt265 => (some (bt265.1, bt265.2)))
def turnbuckleref11_fix.j2 : Nat → Int → Bool → Int → List (S80) → Int → Option ((List (S80)) × Int)
 | 0, _, _, _, _, _ => none
 | k + 1, x2, x7, x8, x258000, x258001 => (turnbuckleref11_Child.f x258000 x258001 x8 x7).bind fun t290 => ((turnbuckleref11_Child.f x258000 x258001 x8 (!x7)).bind fun t291 => ((turnbuckleref11_Of.f x258000 x258001 t290).bind fun bt292 => (if bt292.2.2.2.2.2 = true then (turnbuckleref11_fix.j3 k x2 x7 x8 t290 t291 false x258000 x258001) else ((turnbuckleref11_Of.f x258000 x258001 t291).bind fun bt298 => (turnbuckleref11_fix.j3 k x2 x7 x8 t290 t291 (!bt298.2.2.2.2.2) x258000 x258001)))))
def turnbuckleref11_fix.j3 : Nat → Int → Bool → Int → Int → Int → Bool → List (S80) → Int → Option ((List (S80)) × Int)
 | 0, _, _, _, _, _, _, _, _ => none
 | k + 1, x2, x7, x8, x9, x10, x70, x258000, x258001 => if x70 = true then ((turnbuckleref11_paint.f x258000 x258001 x8 true).bind fun bt304 => ((turnbuckleref11_Of.f bt304.1 bt304.2 x2).bind fun bt308 => (turnbuckleref11_fix.l0 k x2 bt308.2.2.2.1 bt304.1 bt304.2))) else ((turnbuckleref11_Of.f x258000 x258001 x10).bind fun bt314 => (if bt314.2.2.2.2.2 = true then (turnbuckleref11_fix.j4 k x2 x7 x8 x258000 x258001) else ((turnbuckleref11_paint.f x258000 x258001 x9 false).bind fun bt320 => ((turnbuckleref11_paint.f bt320.1 bt320.2 x8 true).bind fun bt324 => ((turnbuckleref11_turn.f bt324.1 bt324.2 x8 (!x7)).bind fun bt328 => ((turnbuckleref11_Child.f bt328.1 bt328.2 x2 (!x7)).bind fun t332 => (turnbuckleref11_fix.j4 k x2 x7 t332 bt328.1 bt328.2)))))))
def turnbuckleref11_fix.j4 : Nat → Int → Bool → Int → List (S80) → Int → Option ((List (S80)) × Int)
 | 0, _, _, _, _, _ => none
 | k + 1, x2, x7, x8, x258000, x258001 => (turnbuckleref11_Of.f x258000 x258001 x2).bind fun bt333 => ((turnbuckleref11_paint.f x258000 x258001 x8 bt333.2.2.2.2.2).bind fun bt339 => ((turnbuckleref11_paint.f bt339.1 bt339.2 x2 false).bind fun bt343 => ((turnbuckleref11_Child.f bt343.1 bt343.2 x8 (!x7)).bind fun t347 => ((turnbuckleref11_paint.f bt343.1 bt343.2 t347 false).bind fun bt348 => ((turnbuckleref11_turn.f bt348.1 bt348.2 x2 x7).bind fun bt352 => (turnbuckleref11_fix.l0 k bt352.2 x2 bt352.1 bt352.2))))))
end
def turnbuckleref11_fix.f (k : Nat) (l0_0 : List (S80)) (a0_1 : Int) (a1 : Int) (a2 : Int) : Option ((List (S80)) × Int) := turnbuckleref11_fix.l0 k a1 a2 l0_0 a0_1
theorem turnbuckleref11_fix.mono_l : ∀ k, (∀ y0 y1 y2 y3, LeO (turnbuckleref11_fix.l0 k y0 y1 y2 y3) (turnbuckleref11_fix.l0 (k + 1) y0 y1 y2 y3)) ∧ (∀ y0 y1 y2 y3 y4, LeO (turnbuckleref11_fix.j1 k y0 y1 y2 y3 y4) (turnbuckleref11_fix.j1 (k + 1) y0 y1 y2 y3 y4)) ∧ (∀ y0 y1 y2 y3 y4, LeO (turnbuckleref11_fix.j2 k y0 y1 y2 y3 y4) (turnbuckleref11_fix.j2 (k + 1) y0 y1 y2 y3 y4)) ∧ (∀ y0 y1 y2 y3 y4 y5 y6 y7, LeO (turnbuckleref11_fix.j3 k y0 y1 y2 y3 y4 y5 y6 y7) (turnbuckleref11_fix.j3 (k + 1) y0 y1 y2 y3 y4 y5 y6 y7)) ∧ (∀ y0 y1 y2 y3 y4, LeO (turnbuckleref11_fix.j4 k y0 y1 y2 y3 y4) (turnbuckleref11_fix.j4 (k + 1) y0 y1 y2 y3 y4))
 | 0 => ⟨fun _ _ _ _ r h => by simp [turnbuckleref11_fix.l0] at h, fun _ _ _ _ _ r h => by simp [turnbuckleref11_fix.j1] at h, fun _ _ _ _ _ r h => by simp [turnbuckleref11_fix.j2] at h, fun _ _ _ _ _ _ _ _ r h => by simp [turnbuckleref11_fix.j3] at h, fun _ _ _ _ _ r h => by simp [turnbuckleref11_fix.j4] at h⟩
 | k + 1 => by
  obtain ⟨ih0, ih1, ih2, ih3, ih4⟩ := turnbuckleref11_fix.mono_l k
  refine ⟨?_, ?_, ?_, ?_, ?_⟩
  ·intro y0 y1 y2 y3
   unfold turnbuckleref11_fix.l0
   repeat' first
   | (with_reducible exact ih0 _ _ _ _)
   | (with_reducible exact ih1 _ _ _ _ _)
   | (with_reducible exact ih2 _ _ _ _ _)
   | (with_reducible exact ih3 _ _ _ _ _ _ _ _)
   | (with_reducible exact ih4 _ _ _ _ _)
   | (with_reducible exact LeO.refl _)
   | (with_reducible exact LeO.none _)
   | (with_reducible refine LeO.ite ?_ ?_)
   | (with_reducible refine LeO.bind ?_ (fun _ => ?_))
   | exact ih0 _ _ _ _
   | exact ih1 _ _ _ _ _
   | exact ih2 _ _ _ _ _
   | exact ih3 _ _ _ _ _ _ _ _
   | exact ih4 _ _ _ _ _
   | exact LeO.none _
   | refine LeO.ite ?_ ?_
   | refine LeO.bind ?_ (fun _ => ?_)
  ·intro y0 y1 y2 y3 y4
   unfold turnbuckleref11_fix.j1
   repeat' first
   | (with_reducible exact ih0 _ _ _ _)
   | (with_reducible exact ih1 _ _ _ _ _)
   | (with_reducible exact ih2 _ _ _ _ _)
   | (with_reducible exact ih3 _ _ _ _ _ _ _ _)
   | (with_reducible exact ih4 _ _ _ _ _)
   | (with_reducible exact LeO.refl _)
   | (with_reducible exact LeO.none _)
   | (with_reducible refine LeO.ite ?_ ?_)
   | (with_reducible refine LeO.bind ?_ (fun _ => ?_))
   | exact ih0 _ _ _ _
   | exact ih1 _ _ _ _ _
   | exact ih2 _ _ _ _ _
   | exact ih3 _ _ _ _ _ _ _ _
   | exact ih4 _ _ _ _ _
   | exact LeO.none _
   | refine LeO.ite ?_ ?_
   | refine LeO.bind ?_ (fun _ => ?_)
  ·intro y0 y1 y2 y3 y4
   unfold turnbuckleref11_fix.j2
   repeat' first
   | (with_reducible exact ih0 _ _ _ _)
   | (with_reducible exact ih1 _ _ _ _ _)
   | (with_reducible exact ih2 _ _ _ _ _)
   | (with_reducible exact ih3 _ _ _ _ _ _ _ _)
   | (with_reducible exact ih4 _ _ _ _ _)
   | (with_reducible exact LeO.refl _)
   | (with_reducible exact LeO.none _)
   | (with_reducible refine LeO.ite ?_ ?_)
   | (with_reducible refine LeO.bind ?_ (fun _ => ?_))
   | exact ih0 _ _ _ _
   | exact ih1 _ _ _ _ _
   | exact ih2 _ _ _ _ _
   | exact ih3 _ _ _ _ _ _ _ _
   | exact ih4 _ _ _ _ _
   | exact LeO.none _
   | refine LeO.ite ?_ ?_
   | refine LeO.bind ?_ (fun _ => ?_)
  ·intro y0 y1 y2 y3 y4 y5 y6 y7
   unfold turnbuckleref11_fix.j3
   repeat' first
   | (with_reducible exact ih0 _ _ _ _)
   | (with_reducible exact ih1 _ _ _ _ _)
   | (with_reducible exact ih2 _ _ _ _ _)
   | (with_reducible exact ih3 _ _ _ _ _ _ _ _)
   | (with_reducible exact ih4 _ _ _ _ _)
   | (with_reducible exact LeO.refl _)
   | (with_reducible exact LeO.none _)
   | (with_reducible refine LeO.ite ?_ ?_)
   | (with_reducible refine LeO.bind ?_ (fun _ => ?_))
   | exact ih0 _ _ _ _
   | exact ih1 _ _ _ _ _
   | exact ih2 _ _ _ _ _
   | exact ih3 _ _ _ _ _ _ _ _
   | exact ih4 _ _ _ _ _
   | exact LeO.none _
   | refine LeO.ite ?_ ?_
   | refine LeO.bind ?_ (fun _ => ?_)
  ·intro y0 y1 y2 y3 y4
   unfold turnbuckleref11_fix.j4
   repeat' first
   | (with_reducible exact ih0 _ _ _ _)
   | (with_reducible exact ih1 _ _ _ _ _)
   | (with_reducible exact ih2 _ _ _ _ _)
   | (with_reducible exact ih3 _ _ _ _ _ _ _ _)
   | (with_reducible exact ih4 _ _ _ _ _)
   | (with_reducible exact LeO.refl _)
   | (with_reducible exact LeO.none _)
   | (with_reducible refine LeO.ite ?_ ?_)
   | (with_reducible refine LeO.bind ?_ (fun _ => ?_))
   | exact ih0 _ _ _ _
   | exact ih1 _ _ _ _ _
   | exact ih2 _ _ _ _ _
   | exact ih3 _ _ _ _ _ _ _ _
   | exact ih4 _ _ _ _ _
   | exact LeO.none _
   | refine LeO.ite ?_ ?_
   | refine LeO.bind ?_ (fun _ => ?_)
theorem turnbuckleref11_fix.mono : ∀ a0 a1 a2 a3 k, LeO (turnbuckleref11_fix.f k a0 a1 a2 a3) (turnbuckleref11_fix.f (k + 1) a0 a1 a2 a3) := by
 intro a0 a1 a2 a3 k
 obtain ⟨ih0, ih1, ih2, ih3, ih4⟩ := turnbuckleref11_fix.mono_l k
 unfold turnbuckleref11_fix.f
 repeat' first
  | (with_reducible exact ih0 _ _ _ _)
  | (with_reducible exact ih1 _ _ _ _ _)
  | (with_reducible exact ih2 _ _ _ _ _)
  | (with_reducible exact ih3 _ _ _ _ _ _ _ _)
  | (with_reducible exact ih4 _ _ _ _ _)
  | (with_reducible exact LeO.refl _)
  | (with_reducible exact LeO.none _)
  | (with_reducible refine LeO.ite ?_ ?_)
  | (with_reducible refine LeO.bind ?_ (fun _ => ?_))
  | exact ih0 _ _ _ _
  | exact ih1 _ _ _ _ _
  | exact ih2 _ _ _ _ _
  | exact ih3 _ _ _ _ _ _ _ _
  | exact ih4 _ _ _ _ _
  | exact LeO.none _
  | refine LeO.ite ?_ ?_
  | refine LeO.bind ?_ (fun _ => ?_)
def turnbuckleref11_fix.T20 : Bool × List (List Nat × List Nat) := (true, [([], []), ([], []), ([], []), ([], []), ([2, 3], [2, 3]), ([4], [4]), ([0, 1, 5, 4], [0, 1, 5]), ([6, 6, 0, 1, 2, 3, 4, 5, 6], [6])])
def turnbuckleref11_fix.B20 : List Nat := [0, 0, 0, 0, 12, 28, 63, 127]
theorem turnbuckleref11_fix.tab20 : rtab .any (opsOf Try.f56 20) = turnbuckleref11_fix.T20 := by kernel_rfl
theorem turnbuckleref11_fix.bits20 : waitsOk turnbuckleref11_fix.T20.2 turnbuckleref11_fix.B20 = true := by kernel_rfl
def turnbuckleref11_fix.T22 : Bool × List (List Nat × List Nat) := (true, [([], []), ([], []), ([], []), ([], []), ([3], [3]), ([1, 2, 4], [1, 2, 4]), ([0, 5, 5], [0, 5]), ([6, 6, 0, 1, 2, 3, 4, 5, 6], [6])])
def turnbuckleref11_fix.B22 : List Nat := [0, 0, 0, 0, 8, 30, 63, 127]
theorem turnbuckleref11_fix.tab22 : rtab .any (opsOf Try.f56 22) = turnbuckleref11_fix.T22 := by kernel_rfl
theorem turnbuckleref11_fix.bits22 : waitsOk turnbuckleref11_fix.T22.2 turnbuckleref11_fix.B22 = true := by kernel_rfl
set_option maxHeartbeats 8000000 in
set_option maxRecDepth 100000 in
theorem turnbuckleref11_fix.calls (k : Nat) (P0_0_ : Nat → Prop) (u9000_ : Value) (l0_0 : List (S80)) (a0_1 : Int) (a1 : Int) (a2 : Int) (r1 : List (S80)) (r2 : Int) (w0 w : World) (hB : Below w0.heap.size w0 w) (ho0_0 : Kd.R k80 80 w w0.heap.size P0_0_ u9000_ l0_0) (h : turnbuckleref11_fix.f k l0_0 a0_1 a1 a2 = some (r1, r2)) :
  Calls Try.prog 56 #[.agg #[u9000_, .int .i64 a0_1], .int .i64 a1, .int .i64 a2] w fun e w' => ∃ v0_ : Value, e = .returned (.agg #[v0_, .int .i64 r2]) ∧ Kd.R k80 80 w' w0.heap.size (fun k_ => (P0_0_ k_ ∨ w.heap.size ≤ k_)) v0_ r1 ∧ Below w0.heap.size w0 w' ∧ Kept w w' (fun k_ => P0_0_ k_) := by
 have hu49 := Try.underlying49
 have HO0_0 := Aside0.mk (show Kd.R k80 80 w w0.heap.size (fun k_ => (P0_0_ k_ ∨ w.heap.size ≤ k_)) u9000_ l0_0 from Kd.R_mono ho0_0 (fun k_ hk => (.inl hk)))
 have HK := Aside0.mk (Kept.refl w (fun k_ => P0_0_ k_))
 have HW0 := Aside0.mk hB.size
 have HB := Aside0.mk hB
 clear hB
 have H : (turnbuckleref11_fix.l0 k a1 a2 l0_0 a0_1) = some (r1, r2) := h
 clear h
 have H' := Aside0.mk H
 clear H
 obtain ⟨Ao4, co4, eo4⟩ := Kd.R_slice HO0_0.out
 subst eo4
 go_enter Try.func56, Try.ntmps56
 go_wp2_with (first | ((with_reducible refine gate_dst (N := 3) rfl ?_); refine box_event ?hg (N := 3) ?hd (cs := #[.slice Ao4 l0_0.length co4, .int .i64 a0_1]) (t := 49) ?hr ?_; (case hd => rfl); (case hg => rfl); (case hr => first | (go_simp; done) | (go_simp; rfl)); intro gb257 hg w5 hbox hb; have BK257 := Aside0.mk (hbox); have GW257 := Aside0.mk ((by rw [hg]; exact HK.out.1 : w.heap.size ≤ gb257)); have GE257 := Aside0.mk ((by rw [hg]; exact (below_size HB.out) : w0.heap.size ≤ gb257)); replace HO0_0 := Aside0.mk (Kd.R_below HO0_0.out hb); replace HK := Aside0.mk (Kept.below (S := (fun k_ => P0_0_ k_)) HK.out hb); replace HB := Aside0.mk (below_step HB.out hb); clear hb hbox hg) | ((with_reducible refine gate_dst (N := 6) rfl ?_); refine box_event ?hg (N := 6) ?hd (cs := #[.slice none 0 0, .int .i64 0]) (t := 49) ?hr ?_; (case hd => rfl); (case hg => rfl); (case hr => first | (go_simp; done) | (go_simp; rfl)); intro gb258 hg w6 hbox hb; have BK258 := Aside0.mk (hbox); have GW258 := Aside0.mk ((by rw [hg]; exact HK.out.1 : w.heap.size ≤ gb258)); have GE258 := Aside0.mk ((by rw [hg]; exact (below_size (by repeat (with_reducible first | exact HB.out | refine below_set ?_ GE257.out))) : w0.heap.size ≤ gb258)); have NB257_258 := Aside0.mk ((by rw [hg]; exact Nat.ne_of_lt (blk_lt BK257.out) : gb257 ≠ gb258)); have NB258_257 := Aside0.mk ((by rw [hg]; exact Nat.ne_of_gt (blk_lt BK257.out) : gb258 ≠ gb257)); replace HO0_0 := Aside0.mk (Kd.R_below HO0_0.out hb); replace BK257 := Aside0.mk (blk_below BK257.out hb); replace HK := Aside0.mk (Kept.below (S := (fun k_ => P0_0_ k_)) (by repeat (with_reducible first | exact HK.out | refine Kept.setCell ?_ (.inr GW257.out) _)) hb); replace HB := Aside0.mk (below_step (by repeat (with_reducible first | exact HB.out | refine below_set ?_ GE257.out)) hb); clear hb hbox hg))
 go_simp
 go_loopg [1, 2] k (fun kq v1 v2 w' => ∃ (x1_1 : Int) (x2_1 : Int) (x258000_1 : List (S80)) (x258001_1 : Int) (u258000 : Value), v1 = .int .i64 x1_1 ∧ v2 = .int .i64 x2_1 ∧ Aside0 (turnbuckleref11_fix.l0 kq x1_1 x2_1 x258000_1 x258001_1 = some (r1, r2)) ∧ Aside0 (kq ≤ k) ∧ Aside0 (Kd.R k80 80 w' w0.heap.size (fun k_ => (P0_0_ k_ ∨ w.heap.size ≤ k_)) u258000 x258000_1) ∧ Aside0 (w'.heap[gb257]? = some (.cells #[u258000, .int .i64 x258001_1] 49 (0, 0))) ∧ Aside0 (w'.heap[gb258]? = some (.cells #[(.slice none 0 0), .int .i64 0] 49 (0, 0))) ∧ Aside0 (Kept w w' (fun k_ => P0_0_ k_)) ∧ Aside0 (Below w0.heap.size w0 w'))
 case atStart => exact ⟨(a1), (a2), (l0_0), (a0_1), (.slice Ao4 l0_0.length co4), (by first | rfl | (simp; done) | (simp [*]; done)), (by first | rfl | (simp; done) | (simp [*]; done)), H', ⟨Nat.le_refl _⟩, ⟨by exact HO0_0.out⟩, ⟨by exact BK257.out⟩, ⟨by exact BK258.out⟩, ⟨by repeat (first | (with_reducible first | exact HK.out | refine Kept.setCell ?_ (.inr GW257.out) _ | refine Kept.setCell ?_ (.inr GW258.out) _) | exact HK.out)⟩, ⟨by repeat (first | (with_reducible first | exact HB.out | refine below_set ?_ GE257.out | refine below_set ?_ GE258.out) | exact HB.out)⟩⟩
 case round =>
  clear H'
  try clear p2
  try clear c5
  obtain ⟨x1_1, x2_1, x258000_1, x258001_1, u258000, rfl, rfl, HA, HK1, HO_258000, BK257, BK258, HK, HB⟩ := hrel
  cases gk with
  | zero => exact absurd HA.out (by simp [turnbuckleref11_fix.l0])
  | succ k1 =>
   have H := HA.out
   clear HA
   simp only [turnbuckleref11_fix.l0] at H
   have HC7 := Aside0.mk H
   clear H
   go_upto_region 1 with (fail)
   go_cut [21] (fun v21 wc => ∃ (kq : Nat) (x21_6 : Bool), v21 = .bool x21_6 ∧ Aside0 (turnbuckleref11_fix.j1 kq x1_1 x2_1 x21_6 x258000_1 x258001_1 = some (r1, r2)) ∧ Aside0 (kq ≤ k1) ∧ Aside0 (Kd.R k80 80 wc w0.heap.size (fun k_ => (P0_0_ k_ ∨ w.heap.size ≤ k_)) u258000 x258000_1) ∧ Aside0 (wc.heap[gb257]? = some (.cells #[u258000, .int .i64 x258001_1] 49 (0, 0))) ∧ Aside0 (wc.heap[gb258]? = some (.cells #[(.slice none 0 0), .int .i64 0] 49 (0, 0))) ∧ Aside0 (Kept w wc (fun k_ => P0_0_ k_)) ∧ Aside0 (Below w0.heap.size w0 wc))
   case first =>
    have H := HC7.out
    clear HC7
    by_cases c8 : x1_1 = x258001_1
    ·rw [if_pos c8] at H
     have c8b0 : (x1_1 == x258001_1) = true := beq_iff_eq.mpr c8
     have c8b1 : (x1_1 != x258001_1) = false := bne_eq_false_iff_eq.mpr c8
     clear c8
     (first | rw [c8b0] | (simp only [i64_w, i32_w]; rw [c8b0]) | skip)
     have H' := Aside0.mk H
     clear H
     have hnb9 := NB257_258.out
     have hnc9 := NB258_257.out
     have hcz10_0 : wr.cell? ⟨gb257, 0, none⟩ = some (u258000) := (blk_cell BK257.out 0).trans rfl
     have hcz10_1 : wr.cell? ⟨gb257, 1, none⟩ = some (.int .i64 x258001_1) := (blk_cell BK257.out 1).trans rfl
     have hfz10_0 := blk_frozen BK257.out 0
     have hfz10_1 := blk_frozen BK257.out 1
     go_wp2
     go_meet
     case rel => exact ⟨_, (false), (by first | rfl | (simp; done) | (simp [*]; done)), H', ⟨by have := HK1.out; first | omega | exact Nat.le_refl _⟩, ⟨by exact HO_258000.out⟩, ⟨by exact BK257.out⟩, ⟨by exact BK258.out⟩, ⟨by repeat (first | (with_reducible first | exact HK.out | refine Kept.setCell ?_ (.inr GW257.out) _ | refine Kept.setCell ?_ (.inr GW258.out) _) | exact HK.out)⟩, ⟨by repeat (first | (with_reducible first | exact HB.out | refine below_set ?_ GE257.out | refine below_set ?_ GE258.out) | exact HB.out)⟩⟩
    ·rw [if_neg c8] at H
     have c8b0 : (x1_1 == x258001_1) = false := beq_eq_false_iff_ne.mpr c8
     have c8b1 : (x1_1 != x258001_1) = true := bne_iff_ne.mpr c8
     (first | rw [c8b0] | (simp only [i64_w, i32_w]; rw [c8b0]) | skip)
     replace H := Option.bind_eq_some_iff.mp H
     obtain ⟨⟨t259, t260, t261, t262, t263, t264⟩, A110, H⟩ := H
     replace H : (turnbuckleref11_fix.j1 k1 x1_1 x2_1 (!t264) x258000_1 x258001_1) = some (r1, r2) := H
     have A11 := Aside0.mk A110
     clear A110
     have H' := Aside0.mk H
     clear H
     have hnb12 := NB257_258.out
     have hnc12 := NB258_257.out
     have hcz13_0 : wr.cell? ⟨gb257, 0, none⟩ = some (u258000) := (blk_cell BK257.out 0).trans rfl
     have hcz13_1 : wr.cell? ⟨gb257, 1, none⟩ = some (.int .i64 x258001_1) := (blk_cell BK257.out 1).trans rfl
     have hfz13_0 := blk_frozen BK257.out 0
     have hfz13_1 := blk_frozen BK257.out 1
     obtain ⟨Ao14, co14, eo14⟩ := Kd.R_slice HO_258000.out
     subst eo14
     go_wp2_with (first | (go_at_call 51; (with_reducible refine (turnbuckleref11_Of.calls _ _ x258000_1 x258001_1 x1_1 t259 t260 t261 t262 t263 t264 _ ?side1 ?side2 A11.out).mono ?_); (case side1 => repeat (first | exact (Kd.R_reads' HO_258000.out).2.2 | (with_reducible refine Kd.C_alloc ?_ _) | (with_reducible refine Kd.C_drewN ?_ _) | (with_reducible refine Kd.C_drew ?_))); (case side2 => exact (Kd.R_reads' HO_258000.out).2.1); rintro e w15 ⟨rfl, hb⟩; replace HO_258000 := Aside0.mk (Kd.R_below HO_258000.out hb); replace BK257 := Aside0.mk (blk_below BK257.out hb); replace BK258 := Aside0.mk (blk_below BK258.out hb); replace HK := Aside0.mk (Kept.below (S := (fun k_ => P0_0_ k_)) (by repeat (with_reducible first | exact HK.out | refine Kept.setCell ?_ (.inr GW257.out) _ | refine Kept.setCell ?_ (.inr GW258.out) _)) hb); replace HB := Aside0.mk (below_step (by repeat (with_reducible first | exact HB.out | refine below_set ?_ GE257.out | refine below_set ?_ GE258.out)) hb); (try clear hb); (try clear hb2); (try clear hk); (try clear hi)))
     go_meet
     case rel => exact ⟨_, (!t264), (by first | rfl | (simp; done) | (simp [*]; done)), H', ⟨by have := HK1.out; first | omega | exact Nat.le_refl _⟩, ⟨by exact HO_258000.out⟩, ⟨by exact BK257.out⟩, ⟨by exact BK258.out⟩, ⟨by repeat (first | (with_reducible first | exact HK.out | refine Kept.setCell ?_ (.inr GW257.out) _ | refine Kept.setCell ?_ (.inr GW258.out) _) | exact HK.out)⟩, ⟨by repeat (first | (with_reducible first | exact HB.out | refine below_set ?_ GE257.out | refine below_set ?_ GE258.out) | exact HB.out)⟩⟩
   case rest =>
    clear HC7
    try clear c1
    try clear p2
    try clear c5
    try clear c8
    try clear c8b0
    try clear c8b1
    try clear c9
    try clear c12
    try clear hcz10_0
    try clear hcz10_1
    try clear hcz13_0
    try clear hcz13_1
    try clear hfz10_0
    try clear hfz10_1
    try clear hfz13_0
    try clear hfz13_1
    try clear p2
    obtain ⟨kq, x21_6, rfl, HA, HJ6, HO_258000, BK257, BK258, HK, HB⟩ := hcut
    cases kq with
    | zero => exact absurd HA.out (by simp [turnbuckleref11_fix.j1])
    | succ kj6 =>
     have H := HA.out
     clear HA
     simp only [turnbuckleref11_fix.j1] at H
     by_cases c16 : x21_6 = true
     ·subst c16
      have H1 : ((turnbuckleref11_onRight.f x258000_1 x258001_1 x2_1 x1_1).bind fun t269 => ((turnbuckleref11_Child.f x258000_1 x258001_1 x2_1 (!t269)).bind fun t270 => ((turnbuckleref11_Of.f x258000_1 x258001_1 t270).bind fun bt271 => (if bt271.2.2.2.2.2 = true then ((turnbuckleref11_paint.f x258000_1 x258001_1 t270 false).bind fun bt277 => ((turnbuckleref11_paint.f bt277.1 bt277.2 x2_1 true).bind fun bt281 => ((turnbuckleref11_turn.f bt281.1 bt281.2 x2_1 t269).bind fun bt285 => ((turnbuckleref11_Child.f bt285.1 bt285.2 x2_1 (!t269)).bind fun t289 => (turnbuckleref11_fix.j2 kj6 x2_1 t269 t289 bt285.1 bt285.2))))) else (turnbuckleref11_fix.j2 kj6 x2_1 t269 t270 x258000_1 x258001_1))))) = some (r1, r2) := by rw [if_pos rfl] at H; exact H
      clear H
      have H := H1
      clear H1
      replace H := Option.bind_eq_some_iff.mp H
      obtain ⟨t269, A170, H⟩ := H
      replace H : ((turnbuckleref11_Child.f x258000_1 x258001_1 x2_1 (!t269)).bind fun t270 => ((turnbuckleref11_Of.f x258000_1 x258001_1 t270).bind fun bt271 => (if bt271.2.2.2.2.2 = true then ((turnbuckleref11_paint.f x258000_1 x258001_1 t270 false).bind fun bt277 => ((turnbuckleref11_paint.f bt277.1 bt277.2 x2_1 true).bind fun bt281 => ((turnbuckleref11_turn.f bt281.1 bt281.2 x2_1 t269).bind fun bt285 => ((turnbuckleref11_Child.f bt285.1 bt285.2 x2_1 (!t269)).bind fun t289 => (turnbuckleref11_fix.j2 kj6 x2_1 t269 t289 bt285.1 bt285.2))))) else (turnbuckleref11_fix.j2 kj6 x2_1 t269 t270 x258000_1 x258001_1)))) = some (r1, r2) := H
      have A17 := Aside0.mk A170
      clear A170
      replace H := Option.bind_eq_some_iff.mp H
      obtain ⟨t270, A180, H⟩ := H
      replace H : ((turnbuckleref11_Of.f x258000_1 x258001_1 t270).bind fun bt271 => (if bt271.2.2.2.2.2 = true then ((turnbuckleref11_paint.f x258000_1 x258001_1 t270 false).bind fun bt277 => ((turnbuckleref11_paint.f bt277.1 bt277.2 x2_1 true).bind fun bt281 => ((turnbuckleref11_turn.f bt281.1 bt281.2 x2_1 t269).bind fun bt285 => ((turnbuckleref11_Child.f bt285.1 bt285.2 x2_1 (!t269)).bind fun t289 => (turnbuckleref11_fix.j2 kj6 x2_1 t269 t289 bt285.1 bt285.2))))) else (turnbuckleref11_fix.j2 kj6 x2_1 t269 t270 x258000_1 x258001_1))) = some (r1, r2) := H
      have A18 := Aside0.mk A180
      clear A180
      replace H := Option.bind_eq_some_iff.mp H
      obtain ⟨⟨t271, t272, t273, t274, t275, t276⟩, A190, H⟩ := H
      replace H : (if t276 = true then ((turnbuckleref11_paint.f x258000_1 x258001_1 t270 false).bind fun bt277 => ((turnbuckleref11_paint.f bt277.1 bt277.2 x2_1 true).bind fun bt281 => ((turnbuckleref11_turn.f bt281.1 bt281.2 x2_1 t269).bind fun bt285 => ((turnbuckleref11_Child.f bt285.1 bt285.2 x2_1 (!t269)).bind fun t289 => (turnbuckleref11_fix.j2 kj6 x2_1 t269 t289 bt285.1 bt285.2))))) else (turnbuckleref11_fix.j2 kj6 x2_1 t269 t270 x258000_1 x258001_1)) = some (r1, r2) := H
      have A19 := Aside0.mk A190
      clear A190
      have HC20 := Aside0.mk H
      clear H
      have hnb21 := NB257_258.out
      have hnc21 := NB258_257.out
      have hcz22_0 : wc.cell? ⟨gb257, 0, none⟩ = some (u258000) := (blk_cell BK257.out 0).trans rfl
      have hcz22_1 : wc.cell? ⟨gb257, 1, none⟩ = some (.int .i64 x258001_1) := (blk_cell BK257.out 1).trans rfl
      have hfz22_0 := blk_frozen BK257.out 0
      have hfz22_1 := blk_frozen BK257.out 1
      obtain ⟨Ao23, co23, eo23⟩ := Kd.R_slice HO_258000.out
      subst eo23
      go_upto_if 34 with (first | ((with_reducible refine gate_callee (f := 58) rfl ?_); refine goesL_ (some 25) rfl rfl Try.func58 (by kernel_rfl) rfl #[.agg #[.slice Ao23 x258000_1.length co23, .int .i64 x258001_1], .int .i64 x2_1, .int .i64 x1_1] rfl (by (try simp only [List.map_toArray, List.map_cons, List.map_nil]); try rfl) ?_; (with_reducible refine (turnbuckleref11_onRight.calls _ _ x258000_1 x258001_1 x2_1 x1_1 t269 _ ?side1 ?side2 A17.out).mono ?_); (case side1 => repeat (first | exact (Kd.R_reads' HO_258000.out).2.2 | (with_reducible refine Kd.C_alloc ?_ _) | (with_reducible refine Kd.C_drewN ?_ _) | (with_reducible refine Kd.C_drew ?_))); (case side2 => exact (Kd.R_reads' HO_258000.out).2.1); rintro e w24 ⟨rfl, hb⟩; refine ⟨_, rfl, ?_⟩; replace HO_258000 := Aside0.mk (Kd.R_below HO_258000.out hb); replace BK257 := Aside0.mk (blk_below BK257.out hb); replace BK258 := Aside0.mk (blk_below BK258.out hb); replace HK := Aside0.mk (Kept.below (S := (fun k_ => P0_0_ k_)) (by repeat (with_reducible first | exact HK.out | refine Kept.setCell ?_ (.inr GW257.out) _ | refine Kept.setCell ?_ (.inr GW258.out) _)) hb); replace HB := Aside0.mk (below_step (by repeat (with_reducible first | exact HB.out | refine below_set ?_ GE257.out | refine below_set ?_ GE258.out)) hb); (try clear hb); (try clear hb2); (try clear hk); (try clear hi); have hcz25_0 : w24.cell? ⟨gb257, 0, none⟩ = some (.slice Ao23 x258000_1.length co23) := (blk_cell BK257.out 0).trans rfl; have hcz25_1 : w24.cell? ⟨gb257, 1, none⟩ = some (.int .i64 x258001_1) := (blk_cell BK257.out 1).trans rfl; have hfz25_0 := blk_frozen BK257.out 0; have hfz25_1 := blk_frozen BK257.out 1) | ((with_reducible refine gate_callee (f := 57) rfl ?_); refine goesL_ (some 30) rfl rfl Try.func57 (by kernel_rfl) rfl #[.agg #[.slice Ao23 x258000_1.length co23, .int .i64 x258001_1], .int .i64 x2_1, .bool (!t269)] rfl (by (try simp only [List.map_toArray, List.map_cons, List.map_nil]); try rfl) ?_; (with_reducible refine (turnbuckleref11_Child.calls _ _ x258000_1 x258001_1 x2_1 (!t269) t270 _ ?side1 ?side2 A18.out).mono ?_); (case side1 => repeat (first | exact (Kd.R_reads' HO_258000.out).2.2 | (with_reducible refine Kd.C_alloc ?_ _) | (with_reducible refine Kd.C_drewN ?_ _) | (with_reducible refine Kd.C_drew ?_))); (case side2 => exact (Kd.R_reads' HO_258000.out).2.1); rintro e w26 ⟨rfl, hb⟩; refine ⟨_, rfl, ?_⟩; replace HO_258000 := Aside0.mk (Kd.R_below HO_258000.out hb); replace BK257 := Aside0.mk (blk_below BK257.out hb); replace BK258 := Aside0.mk (blk_below BK258.out hb); replace HK := Aside0.mk (Kept.below (S := (fun k_ => P0_0_ k_)) (by repeat (with_reducible first | exact HK.out | refine Kept.setCell ?_ (.inr GW257.out) _ | refine Kept.setCell ?_ (.inr GW258.out) _)) hb); replace HB := Aside0.mk (below_step (by repeat (with_reducible first | exact HB.out | refine below_set ?_ GE257.out | refine below_set ?_ GE258.out)) hb); (try clear hb); (try clear hb2); (try clear hk); (try clear hi); have hcz27_0 : w26.cell? ⟨gb257, 0, none⟩ = some (.slice Ao23 x258000_1.length co23) := (blk_cell BK257.out 0).trans rfl; have hcz27_1 : w26.cell? ⟨gb257, 1, none⟩ = some (.int .i64 x258001_1) := (blk_cell BK257.out 1).trans rfl; have hfz27_0 := blk_frozen BK257.out 0; have hfz27_1 := blk_frozen BK257.out 1) | ((with_reducible refine gate_callee (f := 51) rfl ?_); refine goesL_ (some 33) rfl rfl Try.func51 (by kernel_rfl) rfl #[.agg #[.slice Ao23 x258000_1.length co23, .int .i64 x258001_1], .int .i64 t270] rfl (by (try simp only [List.map_toArray, List.map_cons, List.map_nil]); try rfl) ?_; (with_reducible refine (turnbuckleref11_Of.calls _ _ x258000_1 x258001_1 t270 t271 t272 t273 t274 t275 t276 _ ?side1 ?side2 A19.out).mono ?_); (case side1 => repeat (first | exact (Kd.R_reads' HO_258000.out).2.2 | (with_reducible refine Kd.C_alloc ?_ _) | (with_reducible refine Kd.C_drewN ?_ _) | (with_reducible refine Kd.C_drew ?_))); (case side2 => exact (Kd.R_reads' HO_258000.out).2.1); rintro e w28 ⟨rfl, hb⟩; refine ⟨_, rfl, ?_⟩; replace HO_258000 := Aside0.mk (Kd.R_below HO_258000.out hb); replace BK257 := Aside0.mk (blk_below BK257.out hb); replace BK258 := Aside0.mk (blk_below BK258.out hb); replace HK := Aside0.mk (Kept.below (S := (fun k_ => P0_0_ k_)) (by repeat (with_reducible first | exact HK.out | refine Kept.setCell ?_ (.inr GW257.out) _ | refine Kept.setCell ?_ (.inr GW258.out) _)) hb); replace HB := Aside0.mk (below_step (by repeat (with_reducible first | exact HB.out | refine below_set ?_ GE257.out | refine below_set ?_ GE258.out)) hb); (try clear hb); (try clear hb2); (try clear hk); (try clear hi)))
      (try simp only [Act.put, List.setIfInBounds_toArray, List.set_cons_zero, List.set_cons_succ])
      go_cut [8] (fun v8 wc => ∃ (kq : Nat) (x8_19 : Int) (x258000_19 : List (S80)) (x258001_19 : Int) (u258000 : Value), v8 = .int .i64 x8_19 ∧ Aside0 (turnbuckleref11_fix.j2 kq x2_1 t269 x8_19 x258000_19 x258001_19 = some (r1, r2)) ∧ Aside0 (kq ≤ kj6) ∧ Aside0 (Kd.R k80 80 wc w0.heap.size (fun k_ => (P0_0_ k_ ∨ w.heap.size ≤ k_)) u258000 x258000_19) ∧ Aside0 (wc.heap[gb257]? = some (.cells #[u258000, .int .i64 x258001_19] 49 (0, 0))) ∧ Aside0 (wc.heap[gb258]? = some (.cells #[(.slice none 0 0), .int .i64 0] 49 (0, 0))) ∧ Aside0 (Kept w wc (fun k_ => P0_0_ k_)) ∧ Aside0 (Below w0.heap.size w0 wc))
      case first =>
       have H := HC20.out
       clear HC20
       by_cases c29 : t276 = true
       ·subst c29
        have H1 : ((turnbuckleref11_paint.f x258000_1 x258001_1 t270 false).bind fun bt277 => ((turnbuckleref11_paint.f bt277.1 bt277.2 x2_1 true).bind fun bt281 => ((turnbuckleref11_turn.f bt281.1 bt281.2 x2_1 t269).bind fun bt285 => ((turnbuckleref11_Child.f bt285.1 bt285.2 x2_1 (!t269)).bind fun t289 => (turnbuckleref11_fix.j2 kj6 x2_1 t269 t289 bt285.1 bt285.2))))) = some (r1, r2) := by rw [if_pos rfl] at H; exact H
        clear H
        have H := H1
        clear H1
        replace H := Option.bind_eq_some_iff.mp H
        obtain ⟨⟨t277, t280⟩, A300, H⟩ := H
        replace H : ((turnbuckleref11_paint.f t277 t280 x2_1 true).bind fun bt281 => ((turnbuckleref11_turn.f bt281.1 bt281.2 x2_1 t269).bind fun bt285 => ((turnbuckleref11_Child.f bt285.1 bt285.2 x2_1 (!t269)).bind fun t289 => (turnbuckleref11_fix.j2 kj6 x2_1 t269 t289 bt285.1 bt285.2)))) = some (r1, r2) := H
        have A30 := Aside0.mk A300
        clear A300
        replace H := Option.bind_eq_some_iff.mp H
        obtain ⟨⟨t281, t284⟩, A310, H⟩ := H
        replace H : ((turnbuckleref11_turn.f t281 t284 x2_1 t269).bind fun bt285 => ((turnbuckleref11_Child.f bt285.1 bt285.2 x2_1 (!t269)).bind fun t289 => (turnbuckleref11_fix.j2 kj6 x2_1 t269 t289 bt285.1 bt285.2))) = some (r1, r2) := H
        have A31 := Aside0.mk A310
        clear A310
        replace H := Option.bind_eq_some_iff.mp H
        obtain ⟨⟨t285, t288⟩, A320, H⟩ := H
        replace H : ((turnbuckleref11_Child.f t285 t288 x2_1 (!t269)).bind fun t289 => (turnbuckleref11_fix.j2 kj6 x2_1 t269 t289 t285 t288)) = some (r1, r2) := H
        have A32 := Aside0.mk A320
        clear A320
        replace H := Option.bind_eq_some_iff.mp H
        obtain ⟨t289, A330, H⟩ := H
        replace H : (turnbuckleref11_fix.j2 kj6 x2_1 t269 t289 t285 t288) = some (r1, r2) := H
        have A33 := Aside0.mk A330
        clear A330
        have H' := Aside0.mk H
        clear H
        have hnb34 := NB257_258.out
        have hnc34 := NB258_257.out
        have hcz35_0 : w28.cell? ⟨gb257, 0, none⟩ = some (.slice Ao23 x258000_1.length co23) := (blk_cell BK257.out 0).trans rfl
        have hcz35_1 : w28.cell? ⟨gb257, 1, none⟩ = some (.int .i64 x258001_1) := (blk_cell BK257.out 1).trans rfl
        have hfz35_0 := blk_frozen BK257.out 0
        have hfz35_1 := blk_frozen BK257.out 1
        go_wp2_with (first | ((with_reducible refine gate_callee (f := 54) rfl ?_); refine goesL_ (some 37) rfl rfl Try.func54 (by kernel_rfl) rfl #[.agg #[.slice Ao23 x258000_1.length co23, .int .i64 x258001_1], .int .i64 t270, .bool false] rfl (by (try simp only [List.map_toArray, List.map_cons, List.map_nil]); try rfl) ?_; (with_reducible refine (turnbuckleref11_paint.calls (fun k_ => some k_ = (.slice Ao23 x258000_1.length co23 : Value).ownBlock) (.slice Ao23 x258000_1.length co23) x258000_1 x258001_1 t270 false t277 t280 w0 _ ?side1 ?side2 A30.out).mono ?_); (case side1 => repeat (first | (with_reducible first | exact HB.out | refine below_set ?_ GE257.out | refine below_set ?_ GE258.out) | exact HB.out)); (case side2 => exact Kd.R_tight rfl HO_258000.out); rintro e w36 ⟨v278, rfl, ho0, hb, hkp⟩; refine ⟨_, rfl, ?_⟩; have HO279 := Aside0.mk (Kd.R_mono (ok' := fun k_ => (P0_0_ k_ ∨ w.heap.size ≤ k_)) ho0 (fun k_ hk_ => Or.elim hk_ (fun hs_ => (HO_258000.out.1 k_ (hs_).symm)) (fun hn_ => (.inr (Nat.le_trans HK.out.1 hn_))))); replace BK257 := Aside0.mk (blk_kept BK257.out hkp (fun hs_ => (fun e_ => (Kd.R_ne HO_258000.out BK257.out (by decide)) e_) hs_)); replace BK258 := Aside0.mk (blk_kept BK258.out hkp (fun hs_ => (fun e_ => (Kd.R_ne HO_258000.out BK258.out (by decide)) e_) hs_)); replace HK := Aside0.mk (Kept.then_ (S := (fun k_ => P0_0_ k_)) (by repeat (with_reducible first | exact HK.out | refine Kept.setCell ?_ (.inr GW257.out) _ | refine Kept.setCell ?_ (.inr GW258.out) _)) hkp (fun k_ hs_ => (fun e_ => (HO_258000.out.1 k_ e_.symm)) hs_)); replace HB := Aside0.mk (hb); clear HO_258000; (try clear hb); (try clear hkp); (try clear ho0); obtain ⟨Ao37, co37, eo37⟩ := Kd.R_slice HO279.out; subst eo37; have hcz38_0 : w36.cell? ⟨gb257, 0, none⟩ = some (.slice Ao23 x258000_1.length co23) := (blk_cell BK257.out 0).trans rfl; have hcz38_1 : w36.cell? ⟨gb257, 1, none⟩ = some (.int .i64 x258001_1) := (blk_cell BK257.out 1).trans rfl; have hfz38_0 := blk_frozen BK257.out 0; have hfz38_1 := blk_frozen BK257.out 1) | ((with_reducible refine gate_store (t := 49) (p := 3) rfl ?_); refine store_event (t := 49) (p := 3) (v := ?vo_w39) (w1 := ((w36.setCell ⟨gb257, 0, none⟩ (.slice Ao37 t277.length co37)).setCell ⟨gb257, 1, none⟩ (.int .i64 t280))) ?hg ?ho ?hn ?hr ?_; (case ho => rfl); (case hg => rfl); (case hn => rfl); (case hr => first | (go_simp; done) | (go_simp; rfl)); intro w39 hw; replace HO279 : Aside0 (Kd.R k80 80 w39 w0.heap.size (fun k_ => (P0_0_ k_ ∨ w.heap.size ≤ k_)) (.slice Ao37 t277.length co37) t277) := ⟨(by rw [hw]; exact (by exact Kd.R_mono (Kd.R_far (p := ⟨gb257, 1, none⟩) (Kd.R_far (p := ⟨gb257, 0, none⟩) (Kd.R_types HO279.out BK257.out (by decide)) (fun _ hk => hk.2) (.slice Ao37 t277.length co37)) (fun _ hk => hk.2) (.int .i64 t280)) (fun _ hk => hk.1)))⟩; replace BK257 : Aside0 (w39.heap[gb257]? = some (.cells #[.slice Ao37 t277.length co37, .int .i64 t280] 49 (0, 0))) := ⟨(by rw [hw]; exact (by refine blk_put (cs := #[.slice Ao37 t277.length co37, .int .i64 x258001_1]) ?_ 1 _ rfl; refine blk_put (cs := #[.slice Ao23 x258000_1.length co23, .int .i64 x258001_1]) ?_ 0 _ rfl; exact BK257.out))⟩; replace BK258 : Aside0 (w39.heap[gb258]? = some (.cells #[.slice none 0 0, .int .i64 0] 49 (0, 0))) := ⟨(by rw [hw]; exact (by refine blk_far ?_ NB258_257.out _; refine blk_far ?_ NB258_257.out _; exact BK258.out))⟩; replace HK : Aside0 (Kept w w39 (fun k_ => P0_0_ k_)) := ⟨(by rw [hw]; repeat (with_reducible first | exact HK.out | refine Kept.setCell ?_ (.inr GW257.out) _ | refine Kept.setCell ?_ (.inr GW258.out) _))⟩; replace HB : Aside0 (Below w0.heap.size w0 w39) := ⟨(by rw [hw]; repeat (with_reducible first | exact HB.out | refine below_set ?_ GE257.out | refine below_set ?_ GE258.out))⟩; clear hw; have hcz40_0 : w39.cell? ⟨gb257, 0, none⟩ = some (.slice Ao37 t277.length co37) := (blk_cell BK257.out 0).trans rfl; have hcz40_1 : w39.cell? ⟨gb257, 1, none⟩ = some (.int .i64 t280) := (blk_cell BK257.out 1).trans rfl; have hfz40_0 := blk_frozen BK257.out 0; have hfz40_1 := blk_frozen BK257.out 1) | ((with_reducible refine gate_callee (f := 54) rfl ?_); refine goesL_ (some 40) rfl rfl Try.func54 (by kernel_rfl) rfl #[.agg #[.slice Ao37 t277.length co37, .int .i64 t280], .int .i64 x2_1, .bool true] rfl (by (try simp only [List.map_toArray, List.map_cons, List.map_nil]); try rfl) ?_; (with_reducible refine (turnbuckleref11_paint.calls (fun k_ => some k_ = (.slice Ao37 t277.length co37 : Value).ownBlock) (.slice Ao37 t277.length co37) t277 t280 x2_1 true t281 t284 w0 _ ?side1 ?side2 A31.out).mono ?_); (case side1 => repeat (first | (with_reducible first | exact HB.out | refine below_set ?_ GE257.out | refine below_set ?_ GE258.out) | exact HB.out)); (case side2 => exact Kd.R_tight rfl HO279.out); rintro e w41 ⟨v282, rfl, ho0, hb, hkp⟩; refine ⟨_, rfl, ?_⟩; have HO283 := Aside0.mk (Kd.R_mono (ok' := fun k_ => (P0_0_ k_ ∨ w.heap.size ≤ k_)) ho0 (fun k_ hk_ => Or.elim hk_ (fun hs_ => (HO279.out.1 k_ (hs_).symm)) (fun hn_ => (.inr (Nat.le_trans HK.out.1 hn_))))); replace BK257 := Aside0.mk (blk_kept BK257.out hkp (fun hs_ => (fun e_ => (Kd.R_ne HO279.out BK257.out (by decide)) e_) hs_)); replace BK258 := Aside0.mk (blk_kept BK258.out hkp (fun hs_ => (fun e_ => (Kd.R_ne HO279.out BK258.out (by decide)) e_) hs_)); replace HK := Aside0.mk (Kept.then_ (S := (fun k_ => P0_0_ k_)) (by repeat (with_reducible first | exact HK.out | refine Kept.setCell ?_ (.inr GW257.out) _ | refine Kept.setCell ?_ (.inr GW258.out) _)) hkp (fun k_ hs_ => (fun e_ => (HO279.out.1 k_ e_.symm)) hs_)); replace HB := Aside0.mk (hb); clear HO279; (try clear hb); (try clear hkp); (try clear ho0); obtain ⟨Ao42, co42, eo42⟩ := Kd.R_slice HO283.out; subst eo42; have hcz43_0 : w41.cell? ⟨gb257, 0, none⟩ = some (.slice Ao37 t277.length co37) := (blk_cell BK257.out 0).trans rfl; have hcz43_1 : w41.cell? ⟨gb257, 1, none⟩ = some (.int .i64 t280) := (blk_cell BK257.out 1).trans rfl; have hfz43_0 := blk_frozen BK257.out 0; have hfz43_1 := blk_frozen BK257.out 1) | ((with_reducible refine gate_store (t := 49) (p := 3) rfl ?_); refine store_event (t := 49) (p := 3) (v := ?vo_w44) (w1 := ((w41.setCell ⟨gb257, 0, none⟩ (.slice Ao42 t281.length co42)).setCell ⟨gb257, 1, none⟩ (.int .i64 t284))) ?hg ?ho ?hn ?hr ?_; (case ho => rfl); (case hg => rfl); (case hn => rfl); (case hr => first | (go_simp; done) | (go_simp; rfl)); intro w44 hw; replace HO283 : Aside0 (Kd.R k80 80 w44 w0.heap.size (fun k_ => (P0_0_ k_ ∨ w.heap.size ≤ k_)) (.slice Ao42 t281.length co42) t281) := ⟨(by rw [hw]; exact (by exact Kd.R_mono (Kd.R_far (p := ⟨gb257, 1, none⟩) (Kd.R_far (p := ⟨gb257, 0, none⟩) (Kd.R_types HO283.out BK257.out (by decide)) (fun _ hk => hk.2) (.slice Ao42 t281.length co42)) (fun _ hk => hk.2) (.int .i64 t284)) (fun _ hk => hk.1)))⟩; replace BK257 : Aside0 (w44.heap[gb257]? = some (.cells #[.slice Ao42 t281.length co42, .int .i64 t284] 49 (0, 0))) := ⟨(by rw [hw]; exact (by refine blk_put (cs := #[.slice Ao42 t281.length co42, .int .i64 t280]) ?_ 1 _ rfl; refine blk_put (cs := #[.slice Ao37 t277.length co37, .int .i64 t280]) ?_ 0 _ rfl; exact BK257.out))⟩; replace BK258 : Aside0 (w44.heap[gb258]? = some (.cells #[.slice none 0 0, .int .i64 0] 49 (0, 0))) := ⟨(by rw [hw]; exact (by refine blk_far ?_ NB258_257.out _; refine blk_far ?_ NB258_257.out _; exact BK258.out))⟩; replace HK : Aside0 (Kept w w44 (fun k_ => P0_0_ k_)) := ⟨(by rw [hw]; repeat (with_reducible first | exact HK.out | refine Kept.setCell ?_ (.inr GW257.out) _ | refine Kept.setCell ?_ (.inr GW258.out) _))⟩; replace HB : Aside0 (Below w0.heap.size w0 w44) := ⟨(by rw [hw]; repeat (with_reducible first | exact HB.out | refine below_set ?_ GE257.out | refine below_set ?_ GE258.out))⟩; clear hw; have hcz45_0 : w44.cell? ⟨gb257, 0, none⟩ = some (.slice Ao42 t281.length co42) := (blk_cell BK257.out 0).trans rfl; have hcz45_1 : w44.cell? ⟨gb257, 1, none⟩ = some (.int .i64 t284) := (blk_cell BK257.out 1).trans rfl; have hfz45_0 := blk_frozen BK257.out 0; have hfz45_1 := blk_frozen BK257.out 1) | ((with_reducible refine gate_callee (f := 59) rfl ?_); refine goesL_ (some 44) rfl rfl Try.func59 (by kernel_rfl) rfl #[.agg #[.slice Ao42 t281.length co42, .int .i64 t284], .int .i64 x2_1, .bool t269] rfl (by (try simp only [List.map_toArray, List.map_cons, List.map_nil]); try rfl) ?_; (with_reducible refine (turnbuckleref11_turn.calls (fun k_ => some k_ = (.slice Ao42 t281.length co42 : Value).ownBlock) (.slice Ao42 t281.length co42) t281 t284 x2_1 t269 t285 t288 w0 _ ?side1 ?side2 A32.out).mono ?_); (case side1 => repeat (first | (with_reducible first | exact HB.out | refine below_set ?_ GE257.out | refine below_set ?_ GE258.out) | exact HB.out)); (case side2 => exact Kd.R_tight rfl HO283.out); rintro e w46 ⟨v286, rfl, ho0, hb, hkp⟩; refine ⟨_, rfl, ?_⟩; have HO287 := Aside0.mk (Kd.R_mono (ok' := fun k_ => (P0_0_ k_ ∨ w.heap.size ≤ k_)) ho0 (fun k_ hk_ => Or.elim hk_ (fun hs_ => (HO283.out.1 k_ (hs_).symm)) (fun hn_ => (.inr (Nat.le_trans HK.out.1 hn_))))); replace BK257 := Aside0.mk (blk_kept BK257.out hkp (fun hs_ => (fun e_ => (Kd.R_ne HO283.out BK257.out (by decide)) e_) hs_)); replace BK258 := Aside0.mk (blk_kept BK258.out hkp (fun hs_ => (fun e_ => (Kd.R_ne HO283.out BK258.out (by decide)) e_) hs_)); replace HK := Aside0.mk (Kept.then_ (S := (fun k_ => P0_0_ k_)) (by repeat (with_reducible first | exact HK.out | refine Kept.setCell ?_ (.inr GW257.out) _ | refine Kept.setCell ?_ (.inr GW258.out) _)) hkp (fun k_ hs_ => (fun e_ => (HO283.out.1 k_ e_.symm)) hs_)); replace HB := Aside0.mk (hb); clear HO283; (try clear hb); (try clear hkp); (try clear ho0); obtain ⟨Ao47, co47, eo47⟩ := Kd.R_slice HO287.out; subst eo47; have hcz48_0 : w46.cell? ⟨gb257, 0, none⟩ = some (.slice Ao42 t281.length co42) := (blk_cell BK257.out 0).trans rfl; have hcz48_1 : w46.cell? ⟨gb257, 1, none⟩ = some (.int .i64 t284) := (blk_cell BK257.out 1).trans rfl; have hfz48_0 := blk_frozen BK257.out 0; have hfz48_1 := blk_frozen BK257.out 1) | ((with_reducible refine gate_callee (f := 57) rfl ?_); refine goesL_ (some 49) rfl rfl Try.func57 (by kernel_rfl) rfl #[.agg #[.slice Ao47 t285.length co47, .int .i64 t288], .int .i64 x2_1, .bool (!t269)] rfl (by (try simp only [List.map_toArray, List.map_cons, List.map_nil]); try rfl) ?_; (with_reducible refine (turnbuckleref11_Child.calls _ _ t285 t288 x2_1 (!t269) t289 _ ?side1 ?side2 A33.out).mono ?_); (case side1 => refine (Kd.R_reads' (e := 80) (base := w0.heap.size) (ok := fun k_ => (P0_0_ k_ ∨ w.heap.size ≤ k_)) (n := t285.length) (c := co47) ?_).2.2; exact (by exact (Kd.R_mono (Kd.R_far (p := ⟨gb257, 1, none⟩) (Kd.R_far (p := ⟨gb257, 0, none⟩) (Kd.R_types HO287.out BK257.out (by decide)) (fun _ hk => hk.2) (.slice Ao47 t285.length co47)) (fun _ hk => hk.2) (.int .i64 t288)) (fun _ h_ => h_.1)))); (case side2 => exact (Kd.R_reads' HO287.out).2.1); rintro e w49 ⟨rfl, hb⟩; refine ⟨_, rfl, ?_⟩; replace HO287 := Aside0.mk (Kd.R_below (by exact (Kd.R_mono (Kd.R_far (p := ⟨gb257, 1, none⟩) (Kd.R_far (p := ⟨gb257, 0, none⟩) (Kd.R_types HO287.out BK257.out (by decide)) (fun _ hk => hk.2) (.slice Ao47 t285.length co47)) (fun _ hk => hk.2) (.int .i64 t288)) (fun _ h_ => h_.1))) hb); replace BK257 := Aside0.mk (blk_below (g := gb257) (o := .cells #[.slice Ao47 t285.length co47, .int .i64 t288] 49 (0, 0)) (by refine blk_put (cs := #[.slice Ao47 t285.length co47, .int .i64 t284]) ?_ 1 _ rfl; refine blk_put (cs := #[.slice Ao42 t281.length co42, .int .i64 t284]) ?_ 0 _ rfl; exact BK257.out) hb); replace BK258 := Aside0.mk (blk_below (g := gb258) (o := .cells #[.slice none 0 0, .int .i64 0] 49 (0, 0)) (by refine blk_far ?_ NB258_257.out _; refine blk_far ?_ NB258_257.out _; exact BK258.out) hb); replace HK := Aside0.mk (Kept.below (S := (fun k_ => P0_0_ k_)) (by repeat (with_reducible first | exact HK.out | refine Kept.setCell ?_ (.inr GW257.out) _ | refine Kept.setCell ?_ (.inr GW258.out) _)) hb); replace HB := Aside0.mk (below_step (by repeat (with_reducible first | exact HB.out | refine below_set ?_ GE257.out | refine below_set ?_ GE258.out)) hb); (try clear hb); (try clear hb2); (try clear hk); (try clear hi)))
        go_meet
        case rel => exact ⟨_, (t289), (t285), (t288), (.slice Ao47 t285.length co47), (by first | rfl | (simp; done) | (simp [*]; done)), H', ⟨by have := HK1.out; have := HJ6.out; first | omega | exact Nat.le_refl _⟩, ⟨by exact HO287.out⟩, ⟨by exact BK257.out⟩, ⟨by exact BK258.out⟩, ⟨by repeat (first | (with_reducible first | exact HK.out | refine Kept.setCell ?_ (.inr GW257.out) _ | refine Kept.setCell ?_ (.inr GW258.out) _) | exact HK.out)⟩, ⟨by repeat (first | (with_reducible first | exact HB.out | refine below_set ?_ GE257.out | refine below_set ?_ GE258.out) | exact HB.out)⟩⟩
       ·replace c29 := Bool.eq_false_iff.mpr c29
        subst c29
        have H1 : (turnbuckleref11_fix.j2 kj6 x2_1 t269 t270 x258000_1 x258001_1) = some (r1, r2) := by rw [if_neg (show ¬ (false = true) by decide)] at H; exact H
        clear H
        have H := H1
        clear H1
        have H' := Aside0.mk H
        clear H
        go_wp2
        go_meet
        case rel => exact ⟨_, (t270), (x258000_1), (x258001_1), (.slice Ao23 x258000_1.length co23), (by first | rfl | (simp; done) | (simp [*]; done)), H', ⟨by have := HK1.out; have := HJ6.out; first | omega | exact Nat.le_refl _⟩, ⟨by exact HO_258000.out⟩, ⟨by exact BK257.out⟩, ⟨by exact BK258.out⟩, ⟨by repeat (first | (with_reducible first | exact HK.out | refine Kept.setCell ?_ (.inr GW257.out) _ | refine Kept.setCell ?_ (.inr GW258.out) _) | exact HK.out)⟩, ⟨by repeat (first | (with_reducible first | exact HB.out | refine below_set ?_ GE257.out | refine below_set ?_ GE258.out) | exact HB.out)⟩⟩
      case rest =>
       clear HC20
       try clear c1
       try clear c2
       try clear p2
       try clear c3
       try clear c5
       try clear c8
       try clear c8b0
       try clear c8b1
       try clear c9
       try clear c12
       try clear c16
       try clear c21
       try clear c29
       try clear c34
       try clear hcz10_0
       try clear hcz10_1
       try clear hcz13_0
       try clear hcz13_1
       try clear hcz22_0
       try clear hcz22_1
       try clear hcz25_0
       try clear hcz25_1
       try clear hcz27_0
       try clear hcz27_1
       try clear hcz35_0
       try clear hcz35_1
       try clear hcz38_0
       try clear hcz38_1
       try clear hcz40_0
       try clear hcz40_1
       try clear hcz43_0
       try clear hcz43_1
       try clear hcz45_0
       try clear hcz45_1
       try clear hcz48_0
       try clear hcz48_1
       try clear hfz10_0
       try clear hfz10_1
       try clear hfz13_0
       try clear hfz13_1
       try clear hfz22_0
       try clear hfz22_1
       try clear hfz25_0
       try clear hfz25_1
       try clear hfz27_0
       try clear hfz27_1
       try clear hfz35_0
       try clear hfz35_1
       try clear hfz38_0
       try clear hfz38_1
       try clear hfz40_0
       try clear hfz40_1
       try clear hfz43_0
       try clear hfz43_1
       try clear hfz45_0
       try clear hfz45_1
       try clear hfz48_0
       try clear hfz48_1
       try clear p2
       obtain ⟨kq, x8_19, x258000_19, x258001_19, u258000, rfl, HA, HJ19, HO_258000, BK257, BK258, HK, HB⟩ := hcut
       cases kq with
       | zero => exact absurd HA.out (by simp [turnbuckleref11_fix.j2])
       | succ kj19 =>
        have H := HA.out
        clear HA
        simp only [turnbuckleref11_fix.j2] at H
        replace H := Option.bind_eq_some_iff.mp H
        obtain ⟨t290, A500, H⟩ := H
        replace H : ((turnbuckleref11_Child.f x258000_19 x258001_19 x8_19 (!t269)).bind fun t291 => ((turnbuckleref11_Of.f x258000_19 x258001_19 t290).bind fun bt292 => (if bt292.2.2.2.2.2 = true then (turnbuckleref11_fix.j3 kj19 x2_1 t269 x8_19 t290 t291 false x258000_19 x258001_19) else ((turnbuckleref11_Of.f x258000_19 x258001_19 t291).bind fun bt298 => (turnbuckleref11_fix.j3 kj19 x2_1 t269 x8_19 t290 t291 (!bt298.2.2.2.2.2) x258000_19 x258001_19))))) = some (r1, r2) := H
        have A50 := Aside0.mk A500
        clear A500
        replace H := Option.bind_eq_some_iff.mp H
        obtain ⟨t291, A510, H⟩ := H
        replace H : ((turnbuckleref11_Of.f x258000_19 x258001_19 t290).bind fun bt292 => (if bt292.2.2.2.2.2 = true then (turnbuckleref11_fix.j3 kj19 x2_1 t269 x8_19 t290 t291 false x258000_19 x258001_19) else ((turnbuckleref11_Of.f x258000_19 x258001_19 t291).bind fun bt298 => (turnbuckleref11_fix.j3 kj19 x2_1 t269 x8_19 t290 t291 (!bt298.2.2.2.2.2) x258000_19 x258001_19)))) = some (r1, r2) := H
        have A51 := Aside0.mk A510
        clear A510
        have HC52 := Aside0.mk H
        clear H
        have hnb53 := NB257_258.out
        have hnc53 := NB258_257.out
        have hcz54_0 : wc.cell? ⟨gb257, 0, none⟩ = some (u258000) := (blk_cell BK257.out 0).trans rfl
        have hcz54_1 : wc.cell? ⟨gb257, 1, none⟩ = some (.int .i64 x258001_19) := (blk_cell BK257.out 1).trans rfl
        have hfz54_0 := blk_frozen BK257.out 0
        have hfz54_1 := blk_frozen BK257.out 1
        obtain ⟨Ao55, co55, eo55⟩ := Kd.R_slice HO_258000.out
        subst eo55
        go_upto_region 11 with (first | ((with_reducible refine gate_callee (f := 57) rfl ?_); refine goesL_ (some 53) rfl rfl Try.func57 (by kernel_rfl) rfl #[.agg #[.slice Ao55 x258000_19.length co55, .int .i64 x258001_19], .int .i64 x8_19, .bool t269] rfl (by (try simp only [List.map_toArray, List.map_cons, List.map_nil]); try rfl) ?_; (with_reducible refine (turnbuckleref11_Child.calls _ _ x258000_19 x258001_19 x8_19 t269 t290 _ ?side1 ?side2 A50.out).mono ?_); (case side1 => repeat (first | exact (Kd.R_reads' HO_258000.out).2.2 | (with_reducible refine Kd.C_alloc ?_ _) | (with_reducible refine Kd.C_drewN ?_ _) | (with_reducible refine Kd.C_drew ?_))); (case side2 => exact (Kd.R_reads' HO_258000.out).2.1); rintro e w56 ⟨rfl, hb⟩; refine ⟨_, rfl, ?_⟩; replace HO_258000 := Aside0.mk (Kd.R_below HO_258000.out hb); replace BK257 := Aside0.mk (blk_below BK257.out hb); replace BK258 := Aside0.mk (blk_below BK258.out hb); replace HK := Aside0.mk (Kept.below (S := (fun k_ => P0_0_ k_)) (by repeat (with_reducible first | exact HK.out | refine Kept.setCell ?_ (.inr GW257.out) _ | refine Kept.setCell ?_ (.inr GW258.out) _)) hb); replace HB := Aside0.mk (below_step (by repeat (with_reducible first | exact HB.out | refine below_set ?_ GE257.out | refine below_set ?_ GE258.out)) hb); (try clear hb); (try clear hb2); (try clear hk); (try clear hi); have hcz57_0 : w56.cell? ⟨gb257, 0, none⟩ = some (.slice Ao55 x258000_19.length co55) := (blk_cell BK257.out 0).trans rfl; have hcz57_1 : w56.cell? ⟨gb257, 1, none⟩ = some (.int .i64 x258001_19) := (blk_cell BK257.out 1).trans rfl; have hfz57_0 := blk_frozen BK257.out 0; have hfz57_1 := blk_frozen BK257.out 1) | ((with_reducible refine gate_callee (f := 57) rfl ?_); refine goesL_ (some 58) rfl rfl Try.func57 (by kernel_rfl) rfl #[.agg #[.slice Ao55 x258000_19.length co55, .int .i64 x258001_19], .int .i64 x8_19, .bool (!t269)] rfl (by (try simp only [List.map_toArray, List.map_cons, List.map_nil]); try rfl) ?_; (with_reducible refine (turnbuckleref11_Child.calls _ _ x258000_19 x258001_19 x8_19 (!t269) t291 _ ?side1 ?side2 A51.out).mono ?_); (case side1 => repeat (first | exact (Kd.R_reads' HO_258000.out).2.2 | (with_reducible refine Kd.C_alloc ?_ _) | (with_reducible refine Kd.C_drewN ?_ _) | (with_reducible refine Kd.C_drew ?_))); (case side2 => exact (Kd.R_reads' HO_258000.out).2.1); rintro e w58 ⟨rfl, hb⟩; refine ⟨_, rfl, ?_⟩; replace HO_258000 := Aside0.mk (Kd.R_below HO_258000.out hb); replace BK257 := Aside0.mk (blk_below BK257.out hb); replace BK258 := Aside0.mk (blk_below BK258.out hb); replace HK := Aside0.mk (Kept.below (S := (fun k_ => P0_0_ k_)) (by repeat (with_reducible first | exact HK.out | refine Kept.setCell ?_ (.inr GW257.out) _ | refine Kept.setCell ?_ (.inr GW258.out) _)) hb); replace HB := Aside0.mk (below_step (by repeat (with_reducible first | exact HB.out | refine below_set ?_ GE257.out | refine below_set ?_ GE258.out)) hb); (try clear hb); (try clear hb2); (try clear hk); (try clear hi)))
        (try simp only [Act.put, List.setIfInBounds_toArray, List.set_cons_zero, List.set_cons_succ])
        go_cut [70] (fun v70 wc => ∃ (kq : Nat) (x70_51 : Bool), v70 = .bool x70_51 ∧ Aside0 (turnbuckleref11_fix.j3 kq x2_1 t269 x8_19 t290 t291 x70_51 x258000_19 x258001_19 = some (r1, r2)) ∧ Aside0 (kq ≤ kj19) ∧ Aside0 (Kd.R k80 80 wc w0.heap.size (fun k_ => (P0_0_ k_ ∨ w.heap.size ≤ k_)) (.slice Ao55 x258000_19.length co55) x258000_19) ∧ Aside0 (wc.heap[gb257]? = some (.cells #[(.slice Ao55 x258000_19.length co55), .int .i64 x258001_19] 49 (0, 0))) ∧ Aside0 (wc.heap[gb258]? = some (.cells #[(.slice none 0 0), .int .i64 0] 49 (0, 0))) ∧ Aside0 (Kept w wc (fun k_ => P0_0_ k_)) ∧ Aside0 (Below w0.heap.size w0 wc))
        case first =>
         have H := HC52.out
         clear HC52
         replace H := Option.bind_eq_some_iff.mp H
         obtain ⟨⟨t292, t293, t294, t295, t296, t297⟩, A590, H⟩ := H
         replace H : (if t297 = true then (turnbuckleref11_fix.j3 kj19 x2_1 t269 x8_19 t290 t291 false x258000_19 x258001_19) else ((turnbuckleref11_Of.f x258000_19 x258001_19 t291).bind fun bt298 => (turnbuckleref11_fix.j3 kj19 x2_1 t269 x8_19 t290 t291 (!bt298.2.2.2.2.2) x258000_19 x258001_19))) = some (r1, r2) := H
         have A59 := Aside0.mk A590
         clear A590
         by_cases c60 : t297 = true
         ·subst c60
          have H1 : (turnbuckleref11_fix.j3 kj19 x2_1 t269 x8_19 t290 t291 false x258000_19 x258001_19) = some (r1, r2) := by rw [if_pos rfl] at H; exact H
          clear H
          have H := H1
          clear H1
          have H' := Aside0.mk H
          clear H
          have hnb61 := NB257_258.out
          have hnc61 := NB258_257.out
          have hcz62_0 : w58.cell? ⟨gb257, 0, none⟩ = some (.slice Ao55 x258000_19.length co55) := (blk_cell BK257.out 0).trans rfl
          have hcz62_1 : w58.cell? ⟨gb257, 1, none⟩ = some (.int .i64 x258001_19) := (blk_cell BK257.out 1).trans rfl
          have hfz62_0 := blk_frozen BK257.out 0
          have hfz62_1 := blk_frozen BK257.out 1
          go_wp2_with (first | ((with_reducible refine gate_callee (f := 51) rfl ?_); refine goesL_ (some 61) rfl rfl Try.func51 (by kernel_rfl) rfl #[.agg #[.slice Ao55 x258000_19.length co55, .int .i64 x258001_19], .int .i64 t290] rfl (by (try simp only [List.map_toArray, List.map_cons, List.map_nil]); try rfl) ?_; (with_reducible refine (turnbuckleref11_Of.calls _ _ x258000_19 x258001_19 t290 t292 t293 t294 t295 t296 true _ ?side1 ?side2 A59.out).mono ?_); (case side1 => repeat (first | exact (Kd.R_reads' HO_258000.out).2.2 | (with_reducible refine Kd.C_alloc ?_ _) | (with_reducible refine Kd.C_drewN ?_ _) | (with_reducible refine Kd.C_drew ?_))); (case side2 => exact (Kd.R_reads' HO_258000.out).2.1); rintro e w63 ⟨rfl, hb⟩; refine ⟨_, rfl, ?_⟩; replace HO_258000 := Aside0.mk (Kd.R_below HO_258000.out hb); replace BK257 := Aside0.mk (blk_below BK257.out hb); replace BK258 := Aside0.mk (blk_below BK258.out hb); replace HK := Aside0.mk (Kept.below (S := (fun k_ => P0_0_ k_)) (by repeat (with_reducible first | exact HK.out | refine Kept.setCell ?_ (.inr GW257.out) _ | refine Kept.setCell ?_ (.inr GW258.out) _)) hb); replace HB := Aside0.mk (below_step (by repeat (with_reducible first | exact HB.out | refine below_set ?_ GE257.out | refine below_set ?_ GE258.out)) hb); (try clear hb); (try clear hb2); (try clear hk); (try clear hi)))
          go_meet
          case rel => exact ⟨_, (false), (by first | rfl | (simp; done) | (simp [*]; done)), H', ⟨by have := HK1.out; have := HJ6.out; have := HJ19.out; first | omega | exact Nat.le_refl _⟩, ⟨by exact HO_258000.out⟩, ⟨by exact BK257.out⟩, ⟨by exact BK258.out⟩, ⟨by repeat (first | (with_reducible first | exact HK.out | refine Kept.setCell ?_ (.inr GW257.out) _ | refine Kept.setCell ?_ (.inr GW258.out) _) | exact HK.out)⟩, ⟨by repeat (first | (with_reducible first | exact HB.out | refine below_set ?_ GE257.out | refine below_set ?_ GE258.out) | exact HB.out)⟩⟩
         ·replace c60 := Bool.eq_false_iff.mpr c60
          subst c60
          have H1 : ((turnbuckleref11_Of.f x258000_19 x258001_19 t291).bind fun bt298 => (turnbuckleref11_fix.j3 kj19 x2_1 t269 x8_19 t290 t291 (!bt298.2.2.2.2.2) x258000_19 x258001_19)) = some (r1, r2) := by rw [if_neg (show ¬ (false = true) by decide)] at H; exact H
          clear H
          have H := H1
          clear H1
          replace H := Option.bind_eq_some_iff.mp H
          obtain ⟨⟨t298, t299, t300, t301, t302, t303⟩, A640, H⟩ := H
          replace H : (turnbuckleref11_fix.j3 kj19 x2_1 t269 x8_19 t290 t291 (!t303) x258000_19 x258001_19) = some (r1, r2) := H
          have A64 := Aside0.mk A640
          clear A640
          have H' := Aside0.mk H
          clear H
          have hnb65 := NB257_258.out
          have hnc65 := NB258_257.out
          have hcz66_0 : w58.cell? ⟨gb257, 0, none⟩ = some (.slice Ao55 x258000_19.length co55) := (blk_cell BK257.out 0).trans rfl
          have hcz66_1 : w58.cell? ⟨gb257, 1, none⟩ = some (.int .i64 x258001_19) := (blk_cell BK257.out 1).trans rfl
          have hfz66_0 := blk_frozen BK257.out 0
          have hfz66_1 := blk_frozen BK257.out 1
          go_wp2_with (first | ((with_reducible refine gate_callee (f := 51) rfl ?_); refine goesL_ (some 61) rfl rfl Try.func51 (by kernel_rfl) rfl #[.agg #[.slice Ao55 x258000_19.length co55, .int .i64 x258001_19], .int .i64 t290] rfl (by (try simp only [List.map_toArray, List.map_cons, List.map_nil]); try rfl) ?_; (with_reducible refine (turnbuckleref11_Of.calls _ _ x258000_19 x258001_19 t290 t292 t293 t294 t295 t296 false _ ?side1 ?side2 A59.out).mono ?_); (case side1 => repeat (first | exact (Kd.R_reads' HO_258000.out).2.2 | (with_reducible refine Kd.C_alloc ?_ _) | (with_reducible refine Kd.C_drewN ?_ _) | (with_reducible refine Kd.C_drew ?_))); (case side2 => exact (Kd.R_reads' HO_258000.out).2.1); rintro e w67 ⟨rfl, hb⟩; refine ⟨_, rfl, ?_⟩; replace HO_258000 := Aside0.mk (Kd.R_below HO_258000.out hb); replace BK257 := Aside0.mk (blk_below BK257.out hb); replace BK258 := Aside0.mk (blk_below BK258.out hb); replace HK := Aside0.mk (Kept.below (S := (fun k_ => P0_0_ k_)) (by repeat (with_reducible first | exact HK.out | refine Kept.setCell ?_ (.inr GW257.out) _ | refine Kept.setCell ?_ (.inr GW258.out) _)) hb); replace HB := Aside0.mk (below_step (by repeat (with_reducible first | exact HB.out | refine below_set ?_ GE257.out | refine below_set ?_ GE258.out)) hb); (try clear hb); (try clear hb2); (try clear hk); (try clear hi); have hcz68_0 : w67.cell? ⟨gb257, 0, none⟩ = some (.slice Ao55 x258000_19.length co55) := (blk_cell BK257.out 0).trans rfl; have hcz68_1 : w67.cell? ⟨gb257, 1, none⟩ = some (.int .i64 x258001_19) := (blk_cell BK257.out 1).trans rfl; have hfz68_0 := blk_frozen BK257.out 0; have hfz68_1 := blk_frozen BK257.out 1) | (go_at_call 51; (with_reducible refine (turnbuckleref11_Of.calls _ _ x258000_19 x258001_19 t291 t298 t299 t300 t301 t302 t303 _ ?side1 ?side2 A64.out).mono ?_); (case side1 => repeat (first | exact (Kd.R_reads' HO_258000.out).2.2 | (with_reducible refine Kd.C_alloc ?_ _) | (with_reducible refine Kd.C_drewN ?_ _) | (with_reducible refine Kd.C_drew ?_))); (case side2 => exact (Kd.R_reads' HO_258000.out).2.1); rintro e w69 ⟨rfl, hb⟩; replace HO_258000 := Aside0.mk (Kd.R_below HO_258000.out hb); replace BK257 := Aside0.mk (blk_below BK257.out hb); replace BK258 := Aside0.mk (blk_below BK258.out hb); replace HK := Aside0.mk (Kept.below (S := (fun k_ => P0_0_ k_)) (by repeat (with_reducible first | exact HK.out | refine Kept.setCell ?_ (.inr GW257.out) _ | refine Kept.setCell ?_ (.inr GW258.out) _)) hb); replace HB := Aside0.mk (below_step (by repeat (with_reducible first | exact HB.out | refine below_set ?_ GE257.out | refine below_set ?_ GE258.out)) hb); (try clear hb); (try clear hb2); (try clear hk); (try clear hi)))
          go_meet
          case rel => exact ⟨_, (!t303), (by first | rfl | (simp; done) | (simp [*]; done)), H', ⟨by have := HK1.out; have := HJ6.out; have := HJ19.out; first | omega | exact Nat.le_refl _⟩, ⟨by exact HO_258000.out⟩, ⟨by exact BK257.out⟩, ⟨by exact BK258.out⟩, ⟨by repeat (first | (with_reducible first | exact HK.out | refine Kept.setCell ?_ (.inr GW257.out) _ | refine Kept.setCell ?_ (.inr GW258.out) _) | exact HK.out)⟩, ⟨by repeat (first | (with_reducible first | exact HB.out | refine below_set ?_ GE257.out | refine below_set ?_ GE258.out) | exact HB.out)⟩⟩
        case rest =>
         clear HC52
         try clear c1
         try clear c2
         try clear p2
         try clear c3
         try clear c5
         try clear c6
         try clear c8
         try clear c8b0
         try clear c8b1
         try clear c9
         try clear c12
         try clear c16
         try clear c21
         try clear c29
         try clear c34
         try clear c51
         try clear c53
         try clear c54
         try clear c56
         try clear c57
         try clear c58
         try clear c59
         try clear c60
         try clear c61
         try clear c65
         try clear hcz10_0
         try clear hcz10_1
         try clear hcz13_0
         try clear hcz13_1
         try clear hcz22_0
         try clear hcz22_1
         try clear hcz25_0
         try clear hcz25_1
         try clear hcz27_0
         try clear hcz27_1
         try clear hcz35_0
         try clear hcz35_1
         try clear hcz38_0
         try clear hcz38_1
         try clear hcz40_0
         try clear hcz40_1
         try clear hcz43_0
         try clear hcz43_1
         try clear hcz45_0
         try clear hcz45_1
         try clear hcz48_0
         try clear hcz48_1
         try clear hcz54_0
         try clear hcz54_1
         try clear hcz57_0
         try clear hcz57_1
         try clear hcz62_0
         try clear hcz62_1
         try clear hcz66_0
         try clear hcz66_1
         try clear hcz68_0
         try clear hcz68_1
         try clear hfz10_0
         try clear hfz10_1
         try clear hfz13_0
         try clear hfz13_1
         try clear hfz22_0
         try clear hfz22_1
         try clear hfz25_0
         try clear hfz25_1
         try clear hfz27_0
         try clear hfz27_1
         try clear hfz35_0
         try clear hfz35_1
         try clear hfz38_0
         try clear hfz38_1
         try clear hfz40_0
         try clear hfz40_1
         try clear hfz43_0
         try clear hfz43_1
         try clear hfz45_0
         try clear hfz45_1
         try clear hfz48_0
         try clear hfz48_1
         try clear hfz54_0
         try clear hfz54_1
         try clear hfz57_0
         try clear hfz57_1
         try clear hfz62_0
         try clear hfz62_1
         try clear hfz66_0
         try clear hfz66_1
         try clear hfz68_0
         try clear hfz68_1
         try clear p2
         obtain ⟨kq, x70_51, rfl, HA, HJ51, HO_258000, BK257, BK258, HK, HB⟩ := hcut
         cases kq with
         | zero => exact absurd HA.out (by simp [turnbuckleref11_fix.j3])
         | succ kj51 =>
          have H := HA.out
          clear HA
          simp only [turnbuckleref11_fix.j3] at H
          by_cases c70 : x70_51 = true
          ·subst c70
           have H1 : ((turnbuckleref11_paint.f x258000_19 x258001_19 x8_19 true).bind fun bt304 => ((turnbuckleref11_Of.f bt304.1 bt304.2 x2_1).bind fun bt308 => (turnbuckleref11_fix.l0 kj51 x2_1 bt308.2.2.2.1 bt304.1 bt304.2))) = some (r1, r2) := by rw [if_pos rfl] at H; exact H
           clear H
           have H := H1
           clear H1
           replace H := Option.bind_eq_some_iff.mp H
           obtain ⟨⟨t304, t307⟩, A710, H⟩ := H
           replace H : ((turnbuckleref11_Of.f t304 t307 x2_1).bind fun bt308 => (turnbuckleref11_fix.l0 kj51 x2_1 bt308.2.2.2.1 t304 t307)) = some (r1, r2) := H
           have A71 := Aside0.mk A710
           clear A710
           replace H := Option.bind_eq_some_iff.mp H
           obtain ⟨⟨t308, t309, t310, t311, t312, t313⟩, A720, H⟩ := H
           replace H : (turnbuckleref11_fix.l0 kj51 x2_1 t311 t304 t307) = some (r1, r2) := H
           have A72 := Aside0.mk A720
           clear A720
           have H' := Aside0.mk H
           clear H
           have hnb73 := NB257_258.out
           have hnc73 := NB258_257.out
           have hcz74_0 : wc.cell? ⟨gb257, 0, none⟩ = some (.slice Ao55 x258000_19.length co55) := (blk_cell BK257.out 0).trans rfl
           have hcz74_1 : wc.cell? ⟨gb257, 1, none⟩ = some (.int .i64 x258001_19) := (blk_cell BK257.out 1).trans rfl
           have hfz74_0 := blk_frozen BK257.out 0
           have hfz74_1 := blk_frozen BK257.out 1
           go_wp2_with (first | ((with_reducible refine gate_callee (f := 54) rfl ?_); refine goesL_ (some 73) rfl rfl Try.func54 (by kernel_rfl) rfl #[.agg #[.slice Ao55 x258000_19.length co55, .int .i64 x258001_19], .int .i64 x8_19, .bool true] rfl (by (try simp only [List.map_toArray, List.map_cons, List.map_nil]); try rfl) ?_; (with_reducible refine (turnbuckleref11_paint.calls (fun k_ => some k_ = (.slice Ao55 x258000_19.length co55 : Value).ownBlock) (.slice Ao55 x258000_19.length co55) x258000_19 x258001_19 x8_19 true t304 t307 w0 _ ?side1 ?side2 A71.out).mono ?_); (case side1 => repeat (first | (with_reducible first | exact HB.out | refine below_set ?_ GE257.out | refine below_set ?_ GE258.out) | exact HB.out)); (case side2 => exact Kd.R_tight rfl HO_258000.out); rintro e w75 ⟨v305, rfl, ho0, hb, hkp⟩; refine ⟨_, rfl, ?_⟩; have HO306 := Aside0.mk (Kd.R_mono (ok' := fun k_ => (P0_0_ k_ ∨ w.heap.size ≤ k_)) ho0 (fun k_ hk_ => Or.elim hk_ (fun hs_ => (HO_258000.out.1 k_ (hs_).symm)) (fun hn_ => (.inr (Nat.le_trans HK.out.1 hn_))))); replace BK257 := Aside0.mk (blk_kept BK257.out hkp (fun hs_ => (fun e_ => (Kd.R_ne HO_258000.out BK257.out (by decide)) e_) hs_)); replace BK258 := Aside0.mk (blk_kept BK258.out hkp (fun hs_ => (fun e_ => (Kd.R_ne HO_258000.out BK258.out (by decide)) e_) hs_)); replace HK := Aside0.mk (Kept.then_ (S := (fun k_ => P0_0_ k_)) (by repeat (with_reducible first | exact HK.out | refine Kept.setCell ?_ (.inr GW257.out) _ | refine Kept.setCell ?_ (.inr GW258.out) _)) hkp (fun k_ hs_ => (fun e_ => (HO_258000.out.1 k_ e_.symm)) hs_)); replace HB := Aside0.mk (hb); clear HO_258000; (try clear hb); (try clear hkp); (try clear ho0); obtain ⟨Ao76, co76, eo76⟩ := Kd.R_slice HO306.out; subst eo76; have hcz77_0 : w75.cell? ⟨gb257, 0, none⟩ = some (.slice Ao55 x258000_19.length co55) := (blk_cell BK257.out 0).trans rfl; have hcz77_1 : w75.cell? ⟨gb257, 1, none⟩ = some (.int .i64 x258001_19) := (blk_cell BK257.out 1).trans rfl; have hfz77_0 := blk_frozen BK257.out 0; have hfz77_1 := blk_frozen BK257.out 1) | ((with_reducible refine gate_callee (f := 51) rfl ?_); refine goesL_ (some 77) rfl rfl Try.func51 (by kernel_rfl) rfl #[.agg #[.slice Ao76 t304.length co76, .int .i64 t307], .int .i64 x2_1] rfl (by (try simp only [List.map_toArray, List.map_cons, List.map_nil]); try rfl) ?_; (with_reducible refine (turnbuckleref11_Of.calls _ _ t304 t307 x2_1 t308 t309 t310 t311 t312 t313 _ ?side1 ?side2 A72.out).mono ?_); (case side1 => refine (Kd.R_reads' (e := 80) (base := w0.heap.size) (ok := fun k_ => (P0_0_ k_ ∨ w.heap.size ≤ k_)) (n := t304.length) (c := co76) ?_).2.2; exact (by exact (Kd.R_mono (Kd.R_far (p := ⟨gb257, 1, none⟩) (Kd.R_far (p := ⟨gb257, 0, none⟩) (Kd.R_types HO306.out BK257.out (by decide)) (fun _ hk => hk.2) (.slice Ao76 t304.length co76)) (fun _ hk => hk.2) (.int .i64 t307)) (fun _ h_ => h_.1)))); (case side2 => exact (Kd.R_reads' HO306.out).2.1); rintro e w78 ⟨rfl, hb⟩; refine ⟨_, rfl, ?_⟩; replace HO306 := Aside0.mk (Kd.R_below (by exact (Kd.R_mono (Kd.R_far (p := ⟨gb257, 1, none⟩) (Kd.R_far (p := ⟨gb257, 0, none⟩) (Kd.R_types HO306.out BK257.out (by decide)) (fun _ hk => hk.2) (.slice Ao76 t304.length co76)) (fun _ hk => hk.2) (.int .i64 t307)) (fun _ h_ => h_.1))) hb); replace BK257 := Aside0.mk (blk_below (g := gb257) (o := .cells #[.slice Ao76 t304.length co76, .int .i64 t307] 49 (0, 0)) (by refine blk_put (cs := #[.slice Ao76 t304.length co76, .int .i64 x258001_19]) ?_ 1 _ rfl; refine blk_put (cs := #[.slice Ao55 x258000_19.length co55, .int .i64 x258001_19]) ?_ 0 _ rfl; exact BK257.out) hb); replace BK258 := Aside0.mk (blk_below (g := gb258) (o := .cells #[.slice none 0 0, .int .i64 0] 49 (0, 0)) (by refine blk_far ?_ NB258_257.out _; refine blk_far ?_ NB258_257.out _; exact BK258.out) hb); replace HK := Aside0.mk (Kept.below (S := (fun k_ => P0_0_ k_)) (by repeat (with_reducible first | exact HK.out | refine Kept.setCell ?_ (.inr GW257.out) _ | refine Kept.setCell ?_ (.inr GW258.out) _)) hb); replace HB := Aside0.mk (below_step (by repeat (with_reducible first | exact HB.out | refine below_set ?_ GE257.out | refine below_set ?_ GE258.out)) hb); (try clear hb); (try clear hb2); (try clear hk); (try clear hi)))
           go_roundg kj51
           case measure => have := HK1.out; have := HJ6.out; have := HJ19.out; have := HJ51.out; omega
           case rel => exact ⟨(x2_1), (t311), (t304), (t307), (.slice Ao76 t304.length co76), (by first | rfl | (simp; done) | (simp [*]; done)), (by first | rfl | (simp; done) | (simp [*]; done)), H', ⟨by have := HK1.out; have := HJ6.out; have := HJ19.out; have := HJ51.out; omega⟩, ⟨by exact HO306.out⟩, ⟨by exact BK257.out⟩, ⟨by exact BK258.out⟩, ⟨by repeat (first | (with_reducible first | exact HK.out | refine Kept.setCell ?_ (.inr GW257.out) _ | refine Kept.setCell ?_ (.inr GW258.out) _) | exact HK.out)⟩, ⟨by repeat (first | (with_reducible first | exact HB.out | refine below_set ?_ GE257.out | refine below_set ?_ GE258.out) | exact HB.out)⟩⟩
          ·replace c70 := Bool.eq_false_iff.mpr c70
           subst c70
           have H1 : ((turnbuckleref11_Of.f x258000_19 x258001_19 t291).bind fun bt314 => (if bt314.2.2.2.2.2 = true then (turnbuckleref11_fix.j4 kj51 x2_1 t269 x8_19 x258000_19 x258001_19) else ((turnbuckleref11_paint.f x258000_19 x258001_19 t290 false).bind fun bt320 => ((turnbuckleref11_paint.f bt320.1 bt320.2 x8_19 true).bind fun bt324 => ((turnbuckleref11_turn.f bt324.1 bt324.2 x8_19 (!t269)).bind fun bt328 => ((turnbuckleref11_Child.f bt328.1 bt328.2 x2_1 (!t269)).bind fun t332 => (turnbuckleref11_fix.j4 kj51 x2_1 t269 t332 bt328.1 bt328.2))))))) = some (r1, r2) := by rw [if_neg (show ¬ (false = true) by decide)] at H; exact H
           clear H
           have H := H1
           clear H1
           replace H := Option.bind_eq_some_iff.mp H
           obtain ⟨⟨t314, t315, t316, t317, t318, t319⟩, A790, H⟩ := H
           replace H : (if t319 = true then (turnbuckleref11_fix.j4 kj51 x2_1 t269 x8_19 x258000_19 x258001_19) else ((turnbuckleref11_paint.f x258000_19 x258001_19 t290 false).bind fun bt320 => ((turnbuckleref11_paint.f bt320.1 bt320.2 x8_19 true).bind fun bt324 => ((turnbuckleref11_turn.f bt324.1 bt324.2 x8_19 (!t269)).bind fun bt328 => ((turnbuckleref11_Child.f bt328.1 bt328.2 x2_1 (!t269)).bind fun t332 => (turnbuckleref11_fix.j4 kj51 x2_1 t269 t332 bt328.1 bt328.2)))))) = some (r1, r2) := H
           have A79 := Aside0.mk A790
           clear A790
           have HC80 := Aside0.mk H
           clear H
           have hnb81 := NB257_258.out
           have hnc81 := NB258_257.out
           have hcz82_0 : wc.cell? ⟨gb257, 0, none⟩ = some (.slice Ao55 x258000_19.length co55) := (blk_cell BK257.out 0).trans rfl
           have hcz82_1 : wc.cell? ⟨gb257, 1, none⟩ = some (.int .i64 x258001_19) := (blk_cell BK257.out 1).trans rfl
           have hfz82_0 := blk_frozen BK257.out 0
           have hfz82_1 := blk_frozen BK257.out 1
           go_upto_if 83 with (first | ((with_reducible refine gate_callee (f := 51) rfl ?_); refine goesL_ (some 81) rfl rfl Try.func51 (by kernel_rfl) rfl #[.agg #[.slice Ao55 x258000_19.length co55, .int .i64 x258001_19], .int .i64 t291] rfl (by (try simp only [List.map_toArray, List.map_cons, List.map_nil]); try rfl) ?_; (with_reducible refine (turnbuckleref11_Of.calls _ _ x258000_19 x258001_19 t291 t314 t315 t316 t317 t318 t319 _ ?side1 ?side2 A79.out).mono ?_); (case side1 => repeat (first | exact (Kd.R_reads' HO_258000.out).2.2 | (with_reducible refine Kd.C_alloc ?_ _) | (with_reducible refine Kd.C_drewN ?_ _) | (with_reducible refine Kd.C_drew ?_))); (case side2 => exact (Kd.R_reads' HO_258000.out).2.1); rintro e w83 ⟨rfl, hb⟩; refine ⟨_, rfl, ?_⟩; replace HO_258000 := Aside0.mk (Kd.R_below HO_258000.out hb); replace BK257 := Aside0.mk (blk_below BK257.out hb); replace BK258 := Aside0.mk (blk_below BK258.out hb); replace HK := Aside0.mk (Kept.below (S := (fun k_ => P0_0_ k_)) (by repeat (with_reducible first | exact HK.out | refine Kept.setCell ?_ (.inr GW257.out) _ | refine Kept.setCell ?_ (.inr GW258.out) _)) hb); replace HB := Aside0.mk (below_step (by repeat (with_reducible first | exact HB.out | refine below_set ?_ GE257.out | refine below_set ?_ GE258.out)) hb); (try clear hb); (try clear hb2); (try clear hk); (try clear hi)))
           (try simp only [Act.put, List.setIfInBounds_toArray, List.set_cons_zero, List.set_cons_succ])
           go_cut [8] (fun v8 wc => ∃ (kq : Nat) (x8_79 : Int) (x258000_79 : List (S80)) (x258001_79 : Int) (u258000 : Value), v8 = .int .i64 x8_79 ∧ Aside0 (turnbuckleref11_fix.j4 kq x2_1 t269 x8_79 x258000_79 x258001_79 = some (r1, r2)) ∧ Aside0 (kq ≤ kj51) ∧ Aside0 (Kd.R k80 80 wc w0.heap.size (fun k_ => (P0_0_ k_ ∨ w.heap.size ≤ k_)) u258000 x258000_79) ∧ Aside0 (wc.heap[gb257]? = some (.cells #[u258000, .int .i64 x258001_79] 49 (0, 0))) ∧ Aside0 (wc.heap[gb258]? = some (.cells #[(.slice none 0 0), .int .i64 0] 49 (0, 0))) ∧ Aside0 (Kept w wc (fun k_ => P0_0_ k_)) ∧ Aside0 (Below w0.heap.size w0 wc))
           case first =>
            have H := HC80.out
            clear HC80
            by_cases c84 : t319 = true
            ·subst c84
             have H1 : (turnbuckleref11_fix.j4 kj51 x2_1 t269 x8_19 x258000_19 x258001_19) = some (r1, r2) := by rw [if_pos rfl] at H; exact H
             clear H
             have H := H1
             clear H1
             have H' := Aside0.mk H
             clear H
             go_wp2
             go_meet
             case rel => exact ⟨_, (x8_19), (x258000_19), (x258001_19), (.slice Ao55 x258000_19.length co55), (by first | rfl | (simp; done) | (simp [*]; done)), H', ⟨by have := HK1.out; have := HJ6.out; have := HJ19.out; have := HJ51.out; first | omega | exact Nat.le_refl _⟩, ⟨by exact HO_258000.out⟩, ⟨by exact BK257.out⟩, ⟨by exact BK258.out⟩, ⟨by repeat (first | (with_reducible first | exact HK.out | refine Kept.setCell ?_ (.inr GW257.out) _ | refine Kept.setCell ?_ (.inr GW258.out) _) | exact HK.out)⟩, ⟨by repeat (first | (with_reducible first | exact HB.out | refine below_set ?_ GE257.out | refine below_set ?_ GE258.out) | exact HB.out)⟩⟩
            ·replace c84 := Bool.eq_false_iff.mpr c84
             subst c84
             have H1 : ((turnbuckleref11_paint.f x258000_19 x258001_19 t290 false).bind fun bt320 => ((turnbuckleref11_paint.f bt320.1 bt320.2 x8_19 true).bind fun bt324 => ((turnbuckleref11_turn.f bt324.1 bt324.2 x8_19 (!t269)).bind fun bt328 => ((turnbuckleref11_Child.f bt328.1 bt328.2 x2_1 (!t269)).bind fun t332 => (turnbuckleref11_fix.j4 kj51 x2_1 t269 t332 bt328.1 bt328.2))))) = some (r1, r2) := by rw [if_neg (show ¬ (false = true) by decide)] at H; exact H
             clear H
             have H := H1
             clear H1
             replace H := Option.bind_eq_some_iff.mp H
             obtain ⟨⟨t320, t323⟩, A850, H⟩ := H
             replace H : ((turnbuckleref11_paint.f t320 t323 x8_19 true).bind fun bt324 => ((turnbuckleref11_turn.f bt324.1 bt324.2 x8_19 (!t269)).bind fun bt328 => ((turnbuckleref11_Child.f bt328.1 bt328.2 x2_1 (!t269)).bind fun t332 => (turnbuckleref11_fix.j4 kj51 x2_1 t269 t332 bt328.1 bt328.2)))) = some (r1, r2) := H
             have A85 := Aside0.mk A850
             clear A850
             replace H := Option.bind_eq_some_iff.mp H
             obtain ⟨⟨t324, t327⟩, A860, H⟩ := H
             replace H : ((turnbuckleref11_turn.f t324 t327 x8_19 (!t269)).bind fun bt328 => ((turnbuckleref11_Child.f bt328.1 bt328.2 x2_1 (!t269)).bind fun t332 => (turnbuckleref11_fix.j4 kj51 x2_1 t269 t332 bt328.1 bt328.2))) = some (r1, r2) := H
             have A86 := Aside0.mk A860
             clear A860
             replace H := Option.bind_eq_some_iff.mp H
             obtain ⟨⟨t328, t331⟩, A870, H⟩ := H
             replace H : ((turnbuckleref11_Child.f t328 t331 x2_1 (!t269)).bind fun t332 => (turnbuckleref11_fix.j4 kj51 x2_1 t269 t332 t328 t331)) = some (r1, r2) := H
             have A87 := Aside0.mk A870
             clear A870
             replace H := Option.bind_eq_some_iff.mp H
             obtain ⟨t332, A880, H⟩ := H
             replace H : (turnbuckleref11_fix.j4 kj51 x2_1 t269 t332 t328 t331) = some (r1, r2) := H
             have A88 := Aside0.mk A880
             clear A880
             have H' := Aside0.mk H
             clear H
             have hnb89 := NB257_258.out
             have hnc89 := NB258_257.out
             have hcz90_0 : w83.cell? ⟨gb257, 0, none⟩ = some (.slice Ao55 x258000_19.length co55) := (blk_cell BK257.out 0).trans rfl
             have hcz90_1 : w83.cell? ⟨gb257, 1, none⟩ = some (.int .i64 x258001_19) := (blk_cell BK257.out 1).trans rfl
             have hfz90_0 := blk_frozen BK257.out 0
             have hfz90_1 := blk_frozen BK257.out 1
             go_wp2_with (first | ((with_reducible refine gate_callee (f := 54) rfl ?_); refine goesL_ (some 86) rfl rfl Try.func54 (by kernel_rfl) rfl #[.agg #[.slice Ao55 x258000_19.length co55, .int .i64 x258001_19], .int .i64 t290, .bool false] rfl (by (try simp only [List.map_toArray, List.map_cons, List.map_nil]); try rfl) ?_; (with_reducible refine (turnbuckleref11_paint.calls (fun k_ => some k_ = (.slice Ao55 x258000_19.length co55 : Value).ownBlock) (.slice Ao55 x258000_19.length co55) x258000_19 x258001_19 t290 false t320 t323 w0 _ ?side1 ?side2 A85.out).mono ?_); (case side1 => repeat (first | (with_reducible first | exact HB.out | refine below_set ?_ GE257.out | refine below_set ?_ GE258.out) | exact HB.out)); (case side2 => exact Kd.R_tight rfl HO_258000.out); rintro e w91 ⟨v321, rfl, ho0, hb, hkp⟩; refine ⟨_, rfl, ?_⟩; have HO322 := Aside0.mk (Kd.R_mono (ok' := fun k_ => (P0_0_ k_ ∨ w.heap.size ≤ k_)) ho0 (fun k_ hk_ => Or.elim hk_ (fun hs_ => (HO_258000.out.1 k_ (hs_).symm)) (fun hn_ => (.inr (Nat.le_trans HK.out.1 hn_))))); replace BK257 := Aside0.mk (blk_kept BK257.out hkp (fun hs_ => (fun e_ => (Kd.R_ne HO_258000.out BK257.out (by decide)) e_) hs_)); replace BK258 := Aside0.mk (blk_kept BK258.out hkp (fun hs_ => (fun e_ => (Kd.R_ne HO_258000.out BK258.out (by decide)) e_) hs_)); replace HK := Aside0.mk (Kept.then_ (S := (fun k_ => P0_0_ k_)) (by repeat (with_reducible first | exact HK.out | refine Kept.setCell ?_ (.inr GW257.out) _ | refine Kept.setCell ?_ (.inr GW258.out) _)) hkp (fun k_ hs_ => (fun e_ => (HO_258000.out.1 k_ e_.symm)) hs_)); replace HB := Aside0.mk (hb); clear HO_258000; (try clear hb); (try clear hkp); (try clear ho0); obtain ⟨Ao92, co92, eo92⟩ := Kd.R_slice HO322.out; subst eo92; have hcz93_0 : w91.cell? ⟨gb257, 0, none⟩ = some (.slice Ao55 x258000_19.length co55) := (blk_cell BK257.out 0).trans rfl; have hcz93_1 : w91.cell? ⟨gb257, 1, none⟩ = some (.int .i64 x258001_19) := (blk_cell BK257.out 1).trans rfl; have hfz93_0 := blk_frozen BK257.out 0; have hfz93_1 := blk_frozen BK257.out 1) | ((with_reducible refine gate_store (t := 49) (p := 3) rfl ?_); refine store_event (t := 49) (p := 3) (v := ?vo_w94) (w1 := ((w91.setCell ⟨gb257, 0, none⟩ (.slice Ao92 t320.length co92)).setCell ⟨gb257, 1, none⟩ (.int .i64 t323))) ?hg ?ho ?hn ?hr ?_; (case ho => rfl); (case hg => rfl); (case hn => rfl); (case hr => first | (go_simp; done) | (go_simp; rfl)); intro w94 hw; replace HO322 : Aside0 (Kd.R k80 80 w94 w0.heap.size (fun k_ => (P0_0_ k_ ∨ w.heap.size ≤ k_)) (.slice Ao92 t320.length co92) t320) := ⟨(by rw [hw]; exact (by exact Kd.R_mono (Kd.R_far (p := ⟨gb257, 1, none⟩) (Kd.R_far (p := ⟨gb257, 0, none⟩) (Kd.R_types HO322.out BK257.out (by decide)) (fun _ hk => hk.2) (.slice Ao92 t320.length co92)) (fun _ hk => hk.2) (.int .i64 t323)) (fun _ hk => hk.1)))⟩; replace BK257 : Aside0 (w94.heap[gb257]? = some (.cells #[.slice Ao92 t320.length co92, .int .i64 t323] 49 (0, 0))) := ⟨(by rw [hw]; exact (by refine blk_put (cs := #[.slice Ao92 t320.length co92, .int .i64 x258001_19]) ?_ 1 _ rfl; refine blk_put (cs := #[.slice Ao55 x258000_19.length co55, .int .i64 x258001_19]) ?_ 0 _ rfl; exact BK257.out))⟩; replace BK258 : Aside0 (w94.heap[gb258]? = some (.cells #[.slice none 0 0, .int .i64 0] 49 (0, 0))) := ⟨(by rw [hw]; exact (by refine blk_far ?_ NB258_257.out _; refine blk_far ?_ NB258_257.out _; exact BK258.out))⟩; replace HK : Aside0 (Kept w w94 (fun k_ => P0_0_ k_)) := ⟨(by rw [hw]; repeat (with_reducible first | exact HK.out | refine Kept.setCell ?_ (.inr GW257.out) _ | refine Kept.setCell ?_ (.inr GW258.out) _))⟩; replace HB : Aside0 (Below w0.heap.size w0 w94) := ⟨(by rw [hw]; repeat (with_reducible first | exact HB.out | refine below_set ?_ GE257.out | refine below_set ?_ GE258.out))⟩; clear hw; have hcz95_0 : w94.cell? ⟨gb257, 0, none⟩ = some (.slice Ao92 t320.length co92) := (blk_cell BK257.out 0).trans rfl; have hcz95_1 : w94.cell? ⟨gb257, 1, none⟩ = some (.int .i64 t323) := (blk_cell BK257.out 1).trans rfl; have hfz95_0 := blk_frozen BK257.out 0; have hfz95_1 := blk_frozen BK257.out 1) | ((with_reducible refine gate_callee (f := 54) rfl ?_); refine goesL_ (some 89) rfl rfl Try.func54 (by kernel_rfl) rfl #[.agg #[.slice Ao92 t320.length co92, .int .i64 t323], .int .i64 x8_19, .bool true] rfl (by (try simp only [List.map_toArray, List.map_cons, List.map_nil]); try rfl) ?_; (with_reducible refine (turnbuckleref11_paint.calls (fun k_ => some k_ = (.slice Ao92 t320.length co92 : Value).ownBlock) (.slice Ao92 t320.length co92) t320 t323 x8_19 true t324 t327 w0 _ ?side1 ?side2 A86.out).mono ?_); (case side1 => repeat (first | (with_reducible first | exact HB.out | refine below_set ?_ GE257.out | refine below_set ?_ GE258.out) | exact HB.out)); (case side2 => exact Kd.R_tight rfl HO322.out); rintro e w96 ⟨v325, rfl, ho0, hb, hkp⟩; refine ⟨_, rfl, ?_⟩; have HO326 := Aside0.mk (Kd.R_mono (ok' := fun k_ => (P0_0_ k_ ∨ w.heap.size ≤ k_)) ho0 (fun k_ hk_ => Or.elim hk_ (fun hs_ => (HO322.out.1 k_ (hs_).symm)) (fun hn_ => (.inr (Nat.le_trans HK.out.1 hn_))))); replace BK257 := Aside0.mk (blk_kept BK257.out hkp (fun hs_ => (fun e_ => (Kd.R_ne HO322.out BK257.out (by decide)) e_) hs_)); replace BK258 := Aside0.mk (blk_kept BK258.out hkp (fun hs_ => (fun e_ => (Kd.R_ne HO322.out BK258.out (by decide)) e_) hs_)); replace HK := Aside0.mk (Kept.then_ (S := (fun k_ => P0_0_ k_)) (by repeat (with_reducible first | exact HK.out | refine Kept.setCell ?_ (.inr GW257.out) _ | refine Kept.setCell ?_ (.inr GW258.out) _)) hkp (fun k_ hs_ => (fun e_ => (HO322.out.1 k_ e_.symm)) hs_)); replace HB := Aside0.mk (hb); clear HO322; (try clear hb); (try clear hkp); (try clear ho0); obtain ⟨Ao97, co97, eo97⟩ := Kd.R_slice HO326.out; subst eo97; have hcz98_0 : w96.cell? ⟨gb257, 0, none⟩ = some (.slice Ao92 t320.length co92) := (blk_cell BK257.out 0).trans rfl; have hcz98_1 : w96.cell? ⟨gb257, 1, none⟩ = some (.int .i64 t323) := (blk_cell BK257.out 1).trans rfl; have hfz98_0 := blk_frozen BK257.out 0; have hfz98_1 := blk_frozen BK257.out 1) | ((with_reducible refine gate_store (t := 49) (p := 3) rfl ?_); refine store_event (t := 49) (p := 3) (v := ?vo_w99) (w1 := ((w96.setCell ⟨gb257, 0, none⟩ (.slice Ao97 t324.length co97)).setCell ⟨gb257, 1, none⟩ (.int .i64 t327))) ?hg ?ho ?hn ?hr ?_; (case ho => rfl); (case hg => rfl); (case hn => rfl); (case hr => first | (go_simp; done) | (go_simp; rfl)); intro w99 hw; replace HO326 : Aside0 (Kd.R k80 80 w99 w0.heap.size (fun k_ => (P0_0_ k_ ∨ w.heap.size ≤ k_)) (.slice Ao97 t324.length co97) t324) := ⟨(by rw [hw]; exact (by exact Kd.R_mono (Kd.R_far (p := ⟨gb257, 1, none⟩) (Kd.R_far (p := ⟨gb257, 0, none⟩) (Kd.R_types HO326.out BK257.out (by decide)) (fun _ hk => hk.2) (.slice Ao97 t324.length co97)) (fun _ hk => hk.2) (.int .i64 t327)) (fun _ hk => hk.1)))⟩; replace BK257 : Aside0 (w99.heap[gb257]? = some (.cells #[.slice Ao97 t324.length co97, .int .i64 t327] 49 (0, 0))) := ⟨(by rw [hw]; exact (by refine blk_put (cs := #[.slice Ao97 t324.length co97, .int .i64 t323]) ?_ 1 _ rfl; refine blk_put (cs := #[.slice Ao92 t320.length co92, .int .i64 t323]) ?_ 0 _ rfl; exact BK257.out))⟩; replace BK258 : Aside0 (w99.heap[gb258]? = some (.cells #[.slice none 0 0, .int .i64 0] 49 (0, 0))) := ⟨(by rw [hw]; exact (by refine blk_far ?_ NB258_257.out _; refine blk_far ?_ NB258_257.out _; exact BK258.out))⟩; replace HK : Aside0 (Kept w w99 (fun k_ => P0_0_ k_)) := ⟨(by rw [hw]; repeat (with_reducible first | exact HK.out | refine Kept.setCell ?_ (.inr GW257.out) _ | refine Kept.setCell ?_ (.inr GW258.out) _))⟩; replace HB : Aside0 (Below w0.heap.size w0 w99) := ⟨(by rw [hw]; repeat (with_reducible first | exact HB.out | refine below_set ?_ GE257.out | refine below_set ?_ GE258.out))⟩; clear hw; have hcz100_0 : w99.cell? ⟨gb257, 0, none⟩ = some (.slice Ao97 t324.length co97) := (blk_cell BK257.out 0).trans rfl; have hcz100_1 : w99.cell? ⟨gb257, 1, none⟩ = some (.int .i64 t327) := (blk_cell BK257.out 1).trans rfl; have hfz100_0 := blk_frozen BK257.out 0; have hfz100_1 := blk_frozen BK257.out 1) | ((with_reducible refine gate_callee (f := 59) rfl ?_); refine goesL_ (some 94) rfl rfl Try.func59 (by kernel_rfl) rfl #[.agg #[.slice Ao97 t324.length co97, .int .i64 t327], .int .i64 x8_19, .bool (!t269)] rfl (by (try simp only [List.map_toArray, List.map_cons, List.map_nil]); try rfl) ?_; (with_reducible refine (turnbuckleref11_turn.calls (fun k_ => some k_ = (.slice Ao97 t324.length co97 : Value).ownBlock) (.slice Ao97 t324.length co97) t324 t327 x8_19 (!t269) t328 t331 w0 _ ?side1 ?side2 A87.out).mono ?_); (case side1 => repeat (first | (with_reducible first | exact HB.out | refine below_set ?_ GE257.out | refine below_set ?_ GE258.out) | exact HB.out)); (case side2 => exact Kd.R_tight rfl HO326.out); rintro e w101 ⟨v329, rfl, ho0, hb, hkp⟩; refine ⟨_, rfl, ?_⟩; have HO330 := Aside0.mk (Kd.R_mono (ok' := fun k_ => (P0_0_ k_ ∨ w.heap.size ≤ k_)) ho0 (fun k_ hk_ => Or.elim hk_ (fun hs_ => (HO326.out.1 k_ (hs_).symm)) (fun hn_ => (.inr (Nat.le_trans HK.out.1 hn_))))); replace BK257 := Aside0.mk (blk_kept BK257.out hkp (fun hs_ => (fun e_ => (Kd.R_ne HO326.out BK257.out (by decide)) e_) hs_)); replace BK258 := Aside0.mk (blk_kept BK258.out hkp (fun hs_ => (fun e_ => (Kd.R_ne HO326.out BK258.out (by decide)) e_) hs_)); replace HK := Aside0.mk (Kept.then_ (S := (fun k_ => P0_0_ k_)) (by repeat (with_reducible first | exact HK.out | refine Kept.setCell ?_ (.inr GW257.out) _ | refine Kept.setCell ?_ (.inr GW258.out) _)) hkp (fun k_ hs_ => (fun e_ => (HO326.out.1 k_ e_.symm)) hs_)); replace HB := Aside0.mk (hb); clear HO326; (try clear hb); (try clear hkp); (try clear ho0); obtain ⟨Ao102, co102, eo102⟩ := Kd.R_slice HO330.out; subst eo102; have hcz103_0 : w101.cell? ⟨gb257, 0, none⟩ = some (.slice Ao97 t324.length co97) := (blk_cell BK257.out 0).trans rfl; have hcz103_1 : w101.cell? ⟨gb257, 1, none⟩ = some (.int .i64 t327) := (blk_cell BK257.out 1).trans rfl; have hfz103_0 := blk_frozen BK257.out 0; have hfz103_1 := blk_frozen BK257.out 1) | ((with_reducible refine gate_callee (f := 57) rfl ?_); refine goesL_ (some 99) rfl rfl Try.func57 (by kernel_rfl) rfl #[.agg #[.slice Ao102 t328.length co102, .int .i64 t331], .int .i64 x2_1, .bool (!t269)] rfl (by (try simp only [List.map_toArray, List.map_cons, List.map_nil]); try rfl) ?_; (with_reducible refine (turnbuckleref11_Child.calls _ _ t328 t331 x2_1 (!t269) t332 _ ?side1 ?side2 A88.out).mono ?_); (case side1 => refine (Kd.R_reads' (e := 80) (base := w0.heap.size) (ok := fun k_ => (P0_0_ k_ ∨ w.heap.size ≤ k_)) (n := t328.length) (c := co102) ?_).2.2; exact (by exact (Kd.R_mono (Kd.R_far (p := ⟨gb257, 1, none⟩) (Kd.R_far (p := ⟨gb257, 0, none⟩) (Kd.R_types HO330.out BK257.out (by decide)) (fun _ hk => hk.2) (.slice Ao102 t328.length co102)) (fun _ hk => hk.2) (.int .i64 t331)) (fun _ h_ => h_.1)))); (case side2 => exact (Kd.R_reads' HO330.out).2.1); rintro e w104 ⟨rfl, hb⟩; refine ⟨_, rfl, ?_⟩; replace HO330 := Aside0.mk (Kd.R_below (by exact (Kd.R_mono (Kd.R_far (p := ⟨gb257, 1, none⟩) (Kd.R_far (p := ⟨gb257, 0, none⟩) (Kd.R_types HO330.out BK257.out (by decide)) (fun _ hk => hk.2) (.slice Ao102 t328.length co102)) (fun _ hk => hk.2) (.int .i64 t331)) (fun _ h_ => h_.1))) hb); replace BK257 := Aside0.mk (blk_below (g := gb257) (o := .cells #[.slice Ao102 t328.length co102, .int .i64 t331] 49 (0, 0)) (by refine blk_put (cs := #[.slice Ao102 t328.length co102, .int .i64 t327]) ?_ 1 _ rfl; refine blk_put (cs := #[.slice Ao97 t324.length co97, .int .i64 t327]) ?_ 0 _ rfl; exact BK257.out) hb); replace BK258 := Aside0.mk (blk_below (g := gb258) (o := .cells #[.slice none 0 0, .int .i64 0] 49 (0, 0)) (by refine blk_far ?_ NB258_257.out _; refine blk_far ?_ NB258_257.out _; exact BK258.out) hb); replace HK := Aside0.mk (Kept.below (S := (fun k_ => P0_0_ k_)) (by repeat (with_reducible first | exact HK.out | refine Kept.setCell ?_ (.inr GW257.out) _ | refine Kept.setCell ?_ (.inr GW258.out) _)) hb); replace HB := Aside0.mk (below_step (by repeat (with_reducible first | exact HB.out | refine below_set ?_ GE257.out | refine below_set ?_ GE258.out)) hb); (try clear hb); (try clear hb2); (try clear hk); (try clear hi)))
             go_meet
             case rel => exact ⟨_, (t332), (t328), (t331), (.slice Ao102 t328.length co102), (by first | rfl | (simp; done) | (simp [*]; done)), H', ⟨by have := HK1.out; have := HJ6.out; have := HJ19.out; have := HJ51.out; first | omega | exact Nat.le_refl _⟩, ⟨by exact HO330.out⟩, ⟨by exact BK257.out⟩, ⟨by exact BK258.out⟩, ⟨by repeat (first | (with_reducible first | exact HK.out | refine Kept.setCell ?_ (.inr GW257.out) _ | refine Kept.setCell ?_ (.inr GW258.out) _) | exact HK.out)⟩, ⟨by repeat (first | (with_reducible first | exact HB.out | refine below_set ?_ GE257.out | refine below_set ?_ GE258.out) | exact HB.out)⟩⟩
           case rest =>
            clear HC80
            try clear c1
            try clear c2
            try clear p2
            try clear c3
            try clear c5
            try clear c6
            try clear c7
            try clear c8
            try clear c8b0
            try clear c8b1
            try clear c9
            try clear c12
            try clear c16
            try clear c21
            try clear c29
            try clear c34
            try clear c51
            try clear c53
            try clear c54
            try clear c56
            try clear c57
            try clear c58
            try clear c59
            try clear c60
            try clear c61
            try clear c65
            try clear c70
            try clear c73
            try clear c81
            try clear c84
            try clear c89
            try clear hcz100_0
            try clear hcz100_1
            try clear hcz103_0
            try clear hcz103_1
            try clear hcz10_0
            try clear hcz10_1
            try clear hcz13_0
            try clear hcz13_1
            try clear hcz22_0
            try clear hcz22_1
            try clear hcz25_0
            try clear hcz25_1
            try clear hcz27_0
            try clear hcz27_1
            try clear hcz35_0
            try clear hcz35_1
            try clear hcz38_0
            try clear hcz38_1
            try clear hcz40_0
            try clear hcz40_1
            try clear hcz43_0
            try clear hcz43_1
            try clear hcz45_0
            try clear hcz45_1
            try clear hcz48_0
            try clear hcz48_1
            try clear hcz54_0
            try clear hcz54_1
            try clear hcz57_0
            try clear hcz57_1
            try clear hcz62_0
            try clear hcz62_1
            try clear hcz66_0
            try clear hcz66_1
            try clear hcz68_0
            try clear hcz68_1
            try clear hcz74_0
            try clear hcz74_1
            try clear hcz77_0
            try clear hcz77_1
            try clear hcz82_0
            try clear hcz82_1
            try clear hcz90_0
            try clear hcz90_1
            try clear hcz93_0
            try clear hcz93_1
            try clear hcz95_0
            try clear hcz95_1
            try clear hcz98_0
            try clear hcz98_1
            try clear hfz100_0
            try clear hfz100_1
            try clear hfz103_0
            try clear hfz103_1
            try clear hfz10_0
            try clear hfz10_1
            try clear hfz13_0
            try clear hfz13_1
            try clear hfz22_0
            try clear hfz22_1
            try clear hfz25_0
            try clear hfz25_1
            try clear hfz27_0
            try clear hfz27_1
            try clear hfz35_0
            try clear hfz35_1
            try clear hfz38_0
            try clear hfz38_1
            try clear hfz40_0
            try clear hfz40_1
            try clear hfz43_0
            try clear hfz43_1
            try clear hfz45_0
            try clear hfz45_1
            try clear hfz48_0
            try clear hfz48_1
            try clear hfz54_0
            try clear hfz54_1
            try clear hfz57_0
            try clear hfz57_1
            try clear hfz62_0
            try clear hfz62_1
            try clear hfz66_0
            try clear hfz66_1
            try clear hfz68_0
            try clear hfz68_1
            try clear hfz74_0
            try clear hfz74_1
            try clear hfz77_0
            try clear hfz77_1
            try clear hfz82_0
            try clear hfz82_1
            try clear hfz90_0
            try clear hfz90_1
            try clear hfz93_0
            try clear hfz93_1
            try clear hfz95_0
            try clear hfz95_1
            try clear hfz98_0
            try clear hfz98_1
            try clear p2
            obtain ⟨kq, x8_79, x258000_79, x258001_79, u258000, rfl, HA, HJ79, HO_258000, BK257, BK258, HK, HB⟩ := hcut
            cases kq with
            | zero => exact absurd HA.out (by simp [turnbuckleref11_fix.j4])
            | succ kj79 =>
             have H := HA.out
             clear HA
             simp only [turnbuckleref11_fix.j4] at H
             replace H := Option.bind_eq_some_iff.mp H
             obtain ⟨⟨t333, t334, t335, t336, t337, t338⟩, A1050, H⟩ := H
             replace H : ((turnbuckleref11_paint.f x258000_79 x258001_79 x8_79 t338).bind fun bt339 => ((turnbuckleref11_paint.f bt339.1 bt339.2 x2_1 false).bind fun bt343 => ((turnbuckleref11_Child.f bt343.1 bt343.2 x8_79 (!t269)).bind fun t347 => ((turnbuckleref11_paint.f bt343.1 bt343.2 t347 false).bind fun bt348 => ((turnbuckleref11_turn.f bt348.1 bt348.2 x2_1 t269).bind fun bt352 => (turnbuckleref11_fix.l0 kj79 bt352.2 x2_1 bt352.1 bt352.2)))))) = some (r1, r2) := H
             have A105 := Aside0.mk A1050
             clear A1050
             replace H := Option.bind_eq_some_iff.mp H
             obtain ⟨⟨t339, t342⟩, A1060, H⟩ := H
             replace H : ((turnbuckleref11_paint.f t339 t342 x2_1 false).bind fun bt343 => ((turnbuckleref11_Child.f bt343.1 bt343.2 x8_79 (!t269)).bind fun t347 => ((turnbuckleref11_paint.f bt343.1 bt343.2 t347 false).bind fun bt348 => ((turnbuckleref11_turn.f bt348.1 bt348.2 x2_1 t269).bind fun bt352 => (turnbuckleref11_fix.l0 kj79 bt352.2 x2_1 bt352.1 bt352.2))))) = some (r1, r2) := H
             have A106 := Aside0.mk A1060
             clear A1060
             replace H := Option.bind_eq_some_iff.mp H
             obtain ⟨⟨t343, t346⟩, A1070, H⟩ := H
             replace H : ((turnbuckleref11_Child.f t343 t346 x8_79 (!t269)).bind fun t347 => ((turnbuckleref11_paint.f t343 t346 t347 false).bind fun bt348 => ((turnbuckleref11_turn.f bt348.1 bt348.2 x2_1 t269).bind fun bt352 => (turnbuckleref11_fix.l0 kj79 bt352.2 x2_1 bt352.1 bt352.2)))) = some (r1, r2) := H
             have A107 := Aside0.mk A1070
             clear A1070
             replace H := Option.bind_eq_some_iff.mp H
             obtain ⟨t347, A1080, H⟩ := H
             replace H : ((turnbuckleref11_paint.f t343 t346 t347 false).bind fun bt348 => ((turnbuckleref11_turn.f bt348.1 bt348.2 x2_1 t269).bind fun bt352 => (turnbuckleref11_fix.l0 kj79 bt352.2 x2_1 bt352.1 bt352.2))) = some (r1, r2) := H
             have A108 := Aside0.mk A1080
             clear A1080
             replace H := Option.bind_eq_some_iff.mp H
             obtain ⟨⟨t348, t351⟩, A1090, H⟩ := H
             replace H : ((turnbuckleref11_turn.f t348 t351 x2_1 t269).bind fun bt352 => (turnbuckleref11_fix.l0 kj79 bt352.2 x2_1 bt352.1 bt352.2)) = some (r1, r2) := H
             have A109 := Aside0.mk A1090
             clear A1090
             replace H := Option.bind_eq_some_iff.mp H
             obtain ⟨⟨t352, t355⟩, A1100, H⟩ := H
             replace H : (turnbuckleref11_fix.l0 kj79 t355 x2_1 t352 t355) = some (r1, r2) := H
             have A110 := Aside0.mk A1100
             clear A1100
             have H' := Aside0.mk H
             clear H
             try go_wp2
             have n0_ := Aside0.mk (Kd.R_drew HO_258000.out)
             have n1_ := Aside0.mk (blk_drew BK257.out)
             have n2_ := Aside0.mk (blk_drew BK258.out)
             have n3_ := Aside0.mk (Kept.drew HK.out)
             have n4_ := Aside0.mk (below_drew1 HB.out)
             clear HO_258000
             clear BK257
             clear BK258
             clear HK
             clear HB
             have HO_258000 := n0_
             have BK257 := n1_
             have BK258 := n2_
             have HK := n3_
             have HB := n4_
             clear n0_ n1_ n2_ n3_ n4_
             obtain ⟨Ao112, co112, eo112⟩ := Kd.R_slice HO_258000.out
             (first | subst eo112 | (injection eo112 with f1_ f2_ f3_; have f4_ := f1_.symm; have f5_ := f3_.symm; clear f1_ f2_ f3_; subst f4_; subst f5_))
             refine start_ (n := 8) (S := fun w' => w'.cell? ⟨gb257, 0, none⟩ = some (.slice Ao112 x258000_79.length co112) ∧ w'.cell? ⟨gb257, 1, none⟩ = some (.int .i64 x258001_79)) (ds := [7]) #[false, false, false, false, false, false, false, false] (by kernel_rfl) rfl rfl ⟨(blk_cell BK257.out 0).trans rfl, (blk_cell BK257.out 1).trans rfl⟩ (fun hHeld => ?_); refine with_tabW turnbuckleref11_fix.tab20 turnbuckleref11_fix.bits20 (fun HT_ HW_ => ?_)
             generalize wc.drew = w111 at HO_258000 BK257 BK258 HK HB hHeld ⊢
             refine pure_ (i := 1) (N := some 101) (v := ?_) (a' := ?_) #[false, true, false, false, false, false, false, false] rfl rfl (any_of HT_.out (by kernel_rfl)) (fun _ _ _ h => h) (Or.inl ⟨by rfl, ?_⟩) ?_ ?_
             rotate_left
             ·intro w'
              go_simp
              with_reducible rfl
             rotate_left
             ·simp only [Act.put, List.setIfInBounds_toArray, List.set_cons_zero, List.set_cons_succ, i64_w, i32_w]
              rfl
             refine pure_ (i := 3) (N := some 103) (v := ?_) (a' := ?_) #[false, true, false, true, false, false, false, false] rfl rfl (any_of HT_.out (by kernel_rfl)) (fun _ _ _ h => h) (Or.inl ⟨by rfl, ?_⟩) ?_ ?_
             rotate_left
             ·intro w'
              go_simp
              with_reducible rfl
             rotate_left
             ·simp only [Act.put, List.setIfInBounds_toArray, List.set_cons_zero, List.set_cons_succ, i64_w, i32_w]
              rfl
             refine take_ (i := 0) (N := some 100) (v := ?_) (a' := ?_) #[true, true, false, true, false, false, false, false] rfl rfl (take_ofW HT_.out HW_.out (by kernel_rfl)) (fun _ _ _ h => h) (Or.inl ⟨by rfl, ?_⟩) hHeld ?_ ?_
             rotate_left
             ·rintro w' ⟨s0, s1⟩
              go_simp
              with_reducible rfl
             rotate_left
             ·simp only [Act.put, List.setIfInBounds_toArray, List.set_cons_zero, List.set_cons_succ, i64_w, i32_w]
              rfl
             refine take_ (i := 2) (N := some 102) (v := ?_) (a' := ?_) #[true, true, true, true, false, false, false, false] rfl rfl (take_ofW HT_.out HW_.out (by kernel_rfl)) (fun _ _ _ h => h) (Or.inl ⟨by rfl, ?_⟩) hHeld ?_ ?_
             rotate_left
             ·rintro w' ⟨s0, s1⟩
              go_simp
              with_reducible rfl
             rotate_left
             ·simp only [Act.put, List.setIfInBounds_toArray, List.set_cons_zero, List.set_cons_succ, i64_w, i32_w]
              rfl
             refine one_ (i := 4) (N := some 104) #[true, true, true, true, true, false, false, false] rfl rfl (one_of HT_.out (by kernel_rfl)) (by decide) (fun K hK => ?_)
             refine goes_ Try.func51 (by kernel_rfl) rfl #[.agg #[.slice Ao112 x258000_79.length co112, .int .i64 x258001_79], .int .i64 x2_1] (by rfl) rfl rfl (by (try simp only [List.map_toArray, List.map_cons, List.map_nil]); try rfl) ?_
             with_reducible refine (turnbuckleref11_Of.calls _ _ x258000_79 x258001_79 x2_1 t333 t334 t335 t336 t337 t338 _ ?side1 ?side2 A105.out).mono ?_
             (case side1 => repeat (first | exact (Kd.R_reads' HO_258000.out).2.2 | (with_reducible refine Kd.C_alloc ?_ _) | (with_reducible refine Kd.C_drewN ?_ _) | (with_reducible refine Kd.C_drew ?_)))
             (case side2 => exact (Kd.R_reads' HO_258000.out).2.1)
             rintro e w113 ⟨rfl, hb⟩
             refine ⟨_, rfl, ?_⟩
             have n0_ := Aside0.mk (Kd.R_below HO_258000.out hb)
             have n1_ := Aside0.mk (blk_below BK257.out hb)
             have n2_ := Aside0.mk (blk_below BK258.out hb)
             have n3_ := Aside0.mk (Kept.below (S := (fun k_ => P0_0_ k_)) (by repeat (with_reducible first | exact HK.out | refine Kept.setCell ?_ (.inr GW257.out) _ | refine Kept.setCell ?_ (.inr GW258.out) _)) hb)
             have n4_ := Aside0.mk (below_step (by repeat (with_reducible first | exact HB.out | refine below_set ?_ GE257.out | refine below_set ?_ GE258.out)) hb)
             clear HO_258000
             clear BK257
             clear BK258
             clear HK
             clear HB
             have HO_258000 := n0_
             have BK257 := n1_
             have BK258 := n2_
             have HK := n3_
             have HB := n4_
             clear n0_ n1_ n2_ n3_ n4_
             (try clear hb)
             (try clear hb2)
             (try clear hk)
             (try clear hi)
             refine hK.out _ _ ⟨(blk_cell BK257.out 0).trans rfl, (blk_cell BK257.out 1).trans rfl⟩ (fun hHeld => ?_)
             clear hK K
             refine norm_ (a' := ?_) ?_ ?_
             rotate_left
             ·show Act.put _ (some 104) _ = _
              simp only [Act.put, List.setIfInBounds_toArray, List.set_cons_zero, List.set_cons_succ, i64_w, i32_w]
              rfl
             refine pure_ (i := 5) (N := some 105) (v := ?_) (a' := ?_) #[true, true, true, true, true, true, false, false] rfl rfl (any_of HT_.out (by kernel_rfl)) (fun _ _ _ h => h) (Or.inl ⟨by rfl, ?_⟩) ?_ ?_
             rotate_left
             ·intro w'
              go_simp
              with_reducible rfl
             rotate_left
             ·simp only [Act.put, List.setIfInBounds_toArray, List.set_cons_zero, List.set_cons_succ, i64_w, i32_w]
              rfl
             refine one_ (i := 6) (N := some 106) #[true, true, true, true, true, true, true, false] rfl rfl (one_of HT_.out (by kernel_rfl)) (by decide) (fun K hK => ?_)
             refine goes_ Try.func54 (by kernel_rfl) rfl #[.agg #[.slice Ao112 x258000_79.length co112, .int .i64 x258001_79], .int .i64 x8_79, .bool t338] (by rfl) rfl rfl (by (try simp only [List.map_toArray, List.map_cons, List.map_nil]); try rfl) ?_
             with_reducible refine (turnbuckleref11_paint.calls (fun k_ => some k_ = (.slice Ao112 x258000_79.length co112 : Value).ownBlock) (.slice Ao112 x258000_79.length co112) x258000_79 x258001_79 x8_79 t338 t339 t342 w0 _ ?side1 ?side2 A106.out).mono ?_
             (case side1 => repeat (first | (with_reducible first | exact HB.out | refine below_set ?_ GE257.out | refine below_set ?_ GE258.out) | exact HB.out))
             (case side2 => exact Kd.R_tight rfl HO_258000.out)
             rintro e w114 ⟨v340, rfl, ho0, hb, hkp⟩
             refine ⟨_, rfl, ?_⟩
             have n0_ := Aside0.mk (blk_kept BK257.out hkp (fun hs_ => (fun e_ => (Kd.R_ne HO_258000.out BK257.out (by decide)) e_) hs_))
             have n1_ := Aside0.mk (blk_kept BK258.out hkp (fun hs_ => (fun e_ => (Kd.R_ne HO_258000.out BK258.out (by decide)) e_) hs_))
             have n2_ := Aside0.mk (Kd.R_mono (ok' := fun k_ => (P0_0_ k_ ∨ w.heap.size ≤ k_)) ho0 (fun k_ hk_ => Or.elim hk_ (fun hs_ => (HO_258000.out.1 k_ (hs_).symm)) (fun hn_ => (.inr (Nat.le_trans HK.out.1 hn_)))))
             have n3_ := Aside0.mk (Kept.then_ (S := (fun k_ => P0_0_ k_)) (by repeat (with_reducible first | exact HK.out | refine Kept.setCell ?_ (.inr GW257.out) _ | refine Kept.setCell ?_ (.inr GW258.out) _)) hkp (fun k_ hs_ => (fun e_ => (HO_258000.out.1 k_ e_.symm)) hs_))
             have n4_ := Aside0.mk (hb)
             clear BK257
             clear BK258
             clear HK
             clear HB
             clear HO_258000
             have BK257 := n0_
             have BK258 := n1_
             have HO341 := n2_
             have HK := n3_
             have HB := n4_
             clear n0_ n1_ n2_ n3_ n4_
             (try clear hb)
             (try clear hkp)
             (try clear ho0)
             obtain ⟨Ao115, co115, eo115⟩ := Kd.R_slice HO341.out
             (first | subst eo115 | (injection eo115 with f1_ f2_ f3_; have f4_ := f1_.symm; have f5_ := f3_.symm; clear f1_ f2_ f3_; subst f4_; subst f5_))
             refine hK.out _ _ ⟨(blk_cell BK257.out 0).trans rfl, (blk_cell BK257.out 1).trans rfl⟩ (fun hHeld => ?_)
             clear hK K
             refine norm_ (a' := ?_) ?_ ?_
             rotate_left
             ·show Act.put _ (some 106) _ = _
              simp only [Act.put, List.setIfInBounds_toArray, List.set_cons_zero, List.set_cons_succ, i64_w, i32_w]
              rfl
             refine last_ (i := 7) (N := none) #[true, true, true, true, true, true, true, true] rfl rfl (one_of HT_.out (by kernel_rfl)) (by decide) (fun K hK => ?_)
             have hs116 : w114.cell? ⟨gb257, 0, none⟩ = some (.slice Ao112 x258000_79.length co112) := (blk_cell BK257.out 0).trans rfl
             have hfs116 := blk_frozen BK257.out 0
             have hns116_1 := NB258_257.out
             have hms116_1 := NB257_258.out
             have hs117 : w114.cell? ⟨gb257, 1, none⟩ = some (.int .i64 x258001_79) := (blk_cell BK257.out 1).trans rfl
             have hfs117 := blk_frozen BK257.out 1
             have hns117_1 := NB258_257.out
             have hms117_1 := NB257_258.out
             refine skip_ (w1 := ?_) (by rfl) rfl ?_ ?_
             rotate_left
             ·go_simp
              rfl
             refine hK.out _ _ ?_
             clear hK K
             refine done_ (done_of HT_.out (by kernel_rfl)) ?_
             have n0_ : Aside0 (Kd.R k80 80 ((w114.setCell ⟨gb257, 0, none⟩ (.slice Ao115 t339.length co115)).setCell ⟨gb257, 1, none⟩ (.int .i64 t342)) w0.heap.size (fun k_ => (P0_0_ k_ ∨ w.heap.size ≤ k_)) (.slice Ao115 t339.length co115) t339) := ⟨by exact Kd.R_mono (Kd.R_far (p := ⟨gb257, 1, none⟩) (Kd.R_far (p := ⟨gb257, 0, none⟩) (Kd.R_types HO341.out BK257.out (by decide)) (fun _ hk => hk.2) (.slice Ao115 t339.length co115)) (fun _ hk => hk.2) (.int .i64 t342)) (fun _ hk => hk.1)⟩
             have n1_ : Aside0 (((w114.setCell ⟨gb257, 0, none⟩ (.slice Ao115 t339.length co115)).setCell ⟨gb257, 1, none⟩ (.int .i64 t342)).heap[gb257]? = some (.cells #[.slice Ao115 t339.length co115, .int .i64 t342] 49 (0, 0))) := ⟨by refine blk_put (cs := #[.slice Ao115 t339.length co115, .int .i64 x258001_79]) ?_ 1 _ rfl; refine blk_put (cs := #[.slice Ao112 x258000_79.length co112, .int .i64 x258001_79]) ?_ 0 _ rfl; exact BK257.out⟩
             have n2_ : Aside0 (((w114.setCell ⟨gb257, 0, none⟩ (.slice Ao115 t339.length co115)).setCell ⟨gb257, 1, none⟩ (.int .i64 t342)).heap[gb258]? = some (.cells #[.slice none 0 0, .int .i64 0] 49 (0, 0))) := ⟨by refine blk_far ?_ NB258_257.out _; refine blk_far ?_ NB258_257.out _; exact BK258.out⟩
             have n3_ : Aside0 (Kept w ((w114.setCell ⟨gb257, 0, none⟩ (.slice Ao115 t339.length co115)).setCell ⟨gb257, 1, none⟩ (.int .i64 t342)) (fun k_ => P0_0_ k_)) := ⟨by repeat (first | (with_reducible first | exact HK.out | refine Kept.setCell ?_ (.inr GW257.out) _ | refine Kept.setCell ?_ (.inr GW258.out) _) | exact HK.out)⟩
             have n4_ : Aside0 (Below w0.heap.size w0 ((w114.setCell ⟨gb257, 0, none⟩ (.slice Ao115 t339.length co115)).setCell ⟨gb257, 1, none⟩ (.int .i64 t342))) := ⟨by repeat (first | (with_reducible first | exact HB.out | refine below_set ?_ GE257.out | refine below_set ?_ GE258.out) | exact HB.out)⟩
             (try clear HO341)
             (try clear BK257)
             (try clear BK258)
             (try clear HK)
             (try clear HB)
             generalize ((w114.setCell ⟨gb257, 0, none⟩ (.slice Ao115 t339.length co115)).setCell ⟨gb257, 1, none⟩ (.int .i64 t342)) = w118 at n0_ n1_ n2_ n3_ n4_ ⊢
             have HO341 := n0_
             have BK257 := n1_
             have BK258 := n2_
             have HK := n3_
             have HB := n4_
             clear n0_ n1_ n2_ n3_ n4_
             have hnb119 := NB257_258.out
             have hnc119 := NB258_257.out
             have hcz120_0 : w118.cell? ⟨gb257, 0, none⟩ = some (.slice Ao115 t339.length co115) := (blk_cell BK257.out 0).trans rfl
             have hcz120_1 : w118.cell? ⟨gb257, 1, none⟩ = some (.int .i64 t342) := (blk_cell BK257.out 1).trans rfl
             have hfz120_0 := blk_frozen BK257.out 0
             have hfz120_1 := blk_frozen BK257.out 1
             try go_wp2_with (first | ((with_reducible refine gate_callee (f := 54) rfl ?_); refine goesL_ (some 109) rfl rfl Try.func54 (by kernel_rfl) rfl #[.agg #[.slice Ao115 t339.length co115, .int .i64 t342], .int .i64 x2_1, .bool false] rfl (by (try simp only [List.map_toArray, List.map_cons, List.map_nil]); try rfl) ?_; (with_reducible refine (turnbuckleref11_paint.calls (fun k_ => some k_ = (.slice Ao115 t339.length co115 : Value).ownBlock) (.slice Ao115 t339.length co115) t339 t342 x2_1 false t343 t346 w0 _ ?side1 ?side2 A107.out).mono ?_); (case side1 => repeat (first | (with_reducible first | exact HB.out | refine below_set ?_ GE257.out | refine below_set ?_ GE258.out) | exact HB.out)); (case side2 => exact Kd.R_tight rfl HO341.out); rintro e w121 ⟨v344, rfl, ho0, hb, hkp⟩; refine ⟨_, rfl, ?_⟩; have HO345 := Aside0.mk (Kd.R_mono (ok' := fun k_ => (P0_0_ k_ ∨ w.heap.size ≤ k_)) ho0 (fun k_ hk_ => Or.elim hk_ (fun hs_ => (HO341.out.1 k_ (hs_).symm)) (fun hn_ => (.inr (Nat.le_trans HK.out.1 hn_))))); replace BK257 := Aside0.mk (blk_kept BK257.out hkp (fun hs_ => (fun e_ => (Kd.R_ne HO341.out BK257.out (by decide)) e_) hs_)); replace BK258 := Aside0.mk (blk_kept BK258.out hkp (fun hs_ => (fun e_ => (Kd.R_ne HO341.out BK258.out (by decide)) e_) hs_)); replace HK := Aside0.mk (Kept.then_ (S := (fun k_ => P0_0_ k_)) (by repeat (with_reducible first | exact HK.out | refine Kept.setCell ?_ (.inr GW257.out) _ | refine Kept.setCell ?_ (.inr GW258.out) _)) hkp (fun k_ hs_ => (fun e_ => (HO341.out.1 k_ e_.symm)) hs_)); replace HB := Aside0.mk (hb); clear HO341; (try clear hb); (try clear hkp); (try clear ho0); obtain ⟨Ao122, co122, eo122⟩ := Kd.R_slice HO345.out; subst eo122; have hcz123_0 : w121.cell? ⟨gb257, 0, none⟩ = some (.slice Ao115 t339.length co115) := (blk_cell BK257.out 0).trans rfl; have hcz123_1 : w121.cell? ⟨gb257, 1, none⟩ = some (.int .i64 t342) := (blk_cell BK257.out 1).trans rfl; have hfz123_0 := blk_frozen BK257.out 0; have hfz123_1 := blk_frozen BK257.out 1))
             have n0_ : Aside0 (Kd.R k80 80 ((w121.setCell ⟨gb257, 0, none⟩ (.slice Ao122 t343.length co122)).setCell ⟨gb257, 1, none⟩ (.int .i64 t346)) w0.heap.size (fun k_ => (P0_0_ k_ ∨ w.heap.size ≤ k_)) (.slice Ao122 t343.length co122) t343) := ⟨by exact Kd.R_mono (Kd.R_far (p := ⟨gb257, 1, none⟩) (Kd.R_far (p := ⟨gb257, 0, none⟩) (Kd.R_types HO345.out BK257.out (by decide)) (fun _ hk => hk.2) (.slice Ao122 t343.length co122)) (fun _ hk => hk.2) (.int .i64 t346)) (fun _ hk => hk.1)⟩
             have n1_ : Aside0 (((w121.setCell ⟨gb257, 0, none⟩ (.slice Ao122 t343.length co122)).setCell ⟨gb257, 1, none⟩ (.int .i64 t346)).heap[gb257]? = some (.cells #[.slice Ao122 t343.length co122, .int .i64 t346] 49 (0, 0))) := ⟨by refine blk_put (cs := #[.slice Ao122 t343.length co122, .int .i64 t342]) ?_ 1 _ rfl; refine blk_put (cs := #[.slice Ao115 t339.length co115, .int .i64 t342]) ?_ 0 _ rfl; exact BK257.out⟩
             have n2_ : Aside0 (((w121.setCell ⟨gb257, 0, none⟩ (.slice Ao122 t343.length co122)).setCell ⟨gb257, 1, none⟩ (.int .i64 t346)).heap[gb258]? = some (.cells #[.slice none 0 0, .int .i64 0] 49 (0, 0))) := ⟨by refine blk_far ?_ NB258_257.out _; refine blk_far ?_ NB258_257.out _; exact BK258.out⟩
             have n3_ : Aside0 (Kept w ((w121.setCell ⟨gb257, 0, none⟩ (.slice Ao122 t343.length co122)).setCell ⟨gb257, 1, none⟩ (.int .i64 t346)) (fun k_ => P0_0_ k_)) := ⟨by repeat (first | (with_reducible first | exact HK.out | refine Kept.setCell ?_ (.inr GW257.out) _ | refine Kept.setCell ?_ (.inr GW258.out) _) | exact HK.out)⟩
             have n4_ : Aside0 (Below w0.heap.size w0 ((w121.setCell ⟨gb257, 0, none⟩ (.slice Ao122 t343.length co122)).setCell ⟨gb257, 1, none⟩ (.int .i64 t346))) := ⟨by repeat (first | (with_reducible first | exact HB.out | refine below_set ?_ GE257.out | refine below_set ?_ GE258.out) | exact HB.out)⟩
             (try clear HO345)
             (try clear BK257)
             (try clear BK258)
             (try clear HK)
             (try clear HB)
             generalize ((w121.setCell ⟨gb257, 0, none⟩ (.slice Ao122 t343.length co122)).setCell ⟨gb257, 1, none⟩ (.int .i64 t346)) = w124 at n0_ n1_ n2_ n3_ n4_ ⊢
             have HO345 := n0_
             have BK257 := n1_
             have BK258 := n2_
             have HK := n3_
             have HB := n4_
             clear n0_ n1_ n2_ n3_ n4_
             have n0_ := Aside0.mk (Kd.R_drew HO345.out)
             have n1_ := Aside0.mk (blk_drew BK257.out)
             have n2_ := Aside0.mk (blk_drew BK258.out)
             have n3_ := Aside0.mk (Kept.drew HK.out)
             have n4_ := Aside0.mk (below_drew1 HB.out)
             clear HO345
             clear BK257
             clear BK258
             clear HK
             clear HB
             have HO345 := n0_
             have BK257 := n1_
             have BK258 := n2_
             have HK := n3_
             have HB := n4_
             clear n0_ n1_ n2_ n3_ n4_
             refine start_ (n := 8) (S := fun w' => w'.cell? ⟨gb257, 0, none⟩ = some (.slice Ao122 t343.length co122) ∧ w'.cell? ⟨gb257, 1, none⟩ = some (.int .i64 t346)) (ds := [7]) #[false, false, false, false, false, false, false, false] (by kernel_rfl) rfl rfl ⟨(blk_cell BK257.out 0).trans rfl, (blk_cell BK257.out 1).trans rfl⟩ (fun hHeld => ?_); refine with_tabW turnbuckleref11_fix.tab22 turnbuckleref11_fix.bits22 (fun HT_ HW_ => ?_)
             generalize w124.drew = w125 at HO345 BK257 BK258 HK HB hHeld ⊢
             refine pure_ (i := 2) (N := some 112) (v := ?_) (a' := ?_) #[false, false, true, false, false, false, false, false] rfl rfl (any_of HT_.out (by kernel_rfl)) (fun _ _ _ h => h) (Or.inl ⟨by rfl, ?_⟩) ?_ ?_
             rotate_left
             ·intro w'
              go_simp
              with_reducible rfl
             rotate_left
             ·simp only [Act.put, List.setIfInBounds_toArray, List.set_cons_zero, List.set_cons_succ, i64_w, i32_w]
              rfl
             refine pure_ (i := 3) (N := some 113) (v := ?_) (a' := ?_) #[false, false, true, true, false, false, false, false] rfl rfl (any_of HT_.out (by kernel_rfl)) (fun _ _ _ h => h) (Or.inl ⟨by rfl, ?_⟩) ?_ ?_
             rotate_left
             ·intro w'
              go_simp
              with_reducible rfl
             rotate_left
             ·simp only [Act.put, List.setIfInBounds_toArray, List.set_cons_zero, List.set_cons_succ, i64_w, i32_w]
              rfl
             refine pure_ (i := 4) (N := some 114) (v := ?_) (a' := ?_) #[false, false, true, true, true, false, false, false] rfl rfl (any_of HT_.out (by kernel_rfl)) (fun _ _ _ h => h) (Or.inl ⟨by rfl, ?_⟩) ?_ ?_
             rotate_left
             ·intro w'
              go_simp
              with_reducible rfl
             rotate_left
             ·simp only [Act.put, List.setIfInBounds_toArray, List.set_cons_zero, List.set_cons_succ, i64_w, i32_w]
              rfl
             refine take_ (i := 0) (N := some 110) (v := ?_) (a' := ?_) #[true, false, true, true, true, false, false, false] rfl rfl (take_ofW HT_.out HW_.out (by kernel_rfl)) (fun _ _ _ h => h) (Or.inl ⟨by rfl, ?_⟩) hHeld ?_ ?_
             rotate_left
             ·rintro w' ⟨s0, s1⟩
              go_simp
              with_reducible rfl
             rotate_left
             ·simp only [Act.put, List.setIfInBounds_toArray, List.set_cons_zero, List.set_cons_succ, i64_w, i32_w]
              rfl
             refine take_ (i := 1) (N := some 111) (v := ?_) (a' := ?_) #[true, true, true, true, true, false, false, false] rfl rfl (take_ofW HT_.out HW_.out (by kernel_rfl)) (fun _ _ _ h => h) (Or.inl ⟨by rfl, ?_⟩) hHeld ?_ ?_
             rotate_left
             ·rintro w' ⟨s0, s1⟩
              go_simp
              with_reducible rfl
             rotate_left
             ·simp only [Act.put, List.setIfInBounds_toArray, List.set_cons_zero, List.set_cons_succ, i64_w, i32_w]
              rfl
             refine one_ (i := 5) (N := some 115) #[true, true, true, true, true, true, false, false] rfl rfl (one_of HT_.out (by kernel_rfl)) (by decide) (fun K hK => ?_)
             refine goes_ Try.func57 (by kernel_rfl) rfl #[.agg #[.slice Ao122 t343.length co122, .int .i64 t346], .int .i64 x8_79, .bool (!t269)] (by rfl) rfl rfl (by (try simp only [List.map_toArray, List.map_cons, List.map_nil]); try rfl) ?_
             with_reducible refine (turnbuckleref11_Child.calls _ _ t343 t346 x8_79 (!t269) t347 _ ?side1 ?side2 A108.out).mono ?_
             (case side1 => repeat (first | exact (Kd.R_reads' HO345.out).2.2 | (with_reducible refine Kd.C_alloc ?_ _) | (with_reducible refine Kd.C_drewN ?_ _) | (with_reducible refine Kd.C_drew ?_)))
             (case side2 => exact (Kd.R_reads' HO345.out).2.1)
             rintro e w126 ⟨rfl, hb⟩
             refine ⟨_, rfl, ?_⟩
             have n0_ := Aside0.mk (Kd.R_below HO345.out hb)
             have n1_ := Aside0.mk (blk_below BK257.out hb)
             have n2_ := Aside0.mk (blk_below BK258.out hb)
             have n3_ := Aside0.mk (Kept.below (S := (fun k_ => P0_0_ k_)) (by repeat (with_reducible first | exact HK.out | refine Kept.setCell ?_ (.inr GW257.out) _ | refine Kept.setCell ?_ (.inr GW258.out) _)) hb)
             have n4_ := Aside0.mk (below_step (by repeat (with_reducible first | exact HB.out | refine below_set ?_ GE257.out | refine below_set ?_ GE258.out)) hb)
             clear HO345
             clear BK257
             clear BK258
             clear HK
             clear HB
             have HO345 := n0_
             have BK257 := n1_
             have BK258 := n2_
             have HK := n3_
             have HB := n4_
             clear n0_ n1_ n2_ n3_ n4_
             (try clear hb)
             (try clear hb2)
             (try clear hk)
             (try clear hi)
             refine hK.out _ _ ⟨(blk_cell BK257.out 0).trans rfl, (blk_cell BK257.out 1).trans rfl⟩ (fun hHeld => ?_)
             clear hK K
             refine norm_ (a' := ?_) ?_ ?_
             rotate_left
             ·show Act.put _ (some 115) _ = _
              simp only [Act.put, List.setIfInBounds_toArray, List.set_cons_zero, List.set_cons_succ, i64_w, i32_w]
              rfl
             refine one_ (i := 6) (N := some 116) #[true, true, true, true, true, true, true, false] rfl rfl (one_of HT_.out (by kernel_rfl)) (by decide) (fun K hK => ?_)
             refine goes_ Try.func54 (by kernel_rfl) rfl #[.agg #[.slice Ao122 t343.length co122, .int .i64 t346], .int .i64 t347, .bool false] (by rfl) rfl rfl (by (try simp only [List.map_toArray, List.map_cons, List.map_nil]); try rfl) ?_
             with_reducible refine (turnbuckleref11_paint.calls (fun k_ => some k_ = (.slice Ao122 t343.length co122 : Value).ownBlock) (.slice Ao122 t343.length co122) t343 t346 t347 false t348 t351 w0 _ ?side1 ?side2 A109.out).mono ?_
             (case side1 => repeat (first | (with_reducible first | exact HB.out | refine below_set ?_ GE257.out | refine below_set ?_ GE258.out) | exact HB.out))
             (case side2 => exact Kd.R_tight rfl HO345.out)
             rintro e w127 ⟨v349, rfl, ho0, hb, hkp⟩
             refine ⟨_, rfl, ?_⟩
             have n0_ := Aside0.mk (blk_kept BK257.out hkp (fun hs_ => (fun e_ => (Kd.R_ne HO345.out BK257.out (by decide)) e_) hs_))
             have n1_ := Aside0.mk (blk_kept BK258.out hkp (fun hs_ => (fun e_ => (Kd.R_ne HO345.out BK258.out (by decide)) e_) hs_))
             have n2_ := Aside0.mk (Kd.R_mono (ok' := fun k_ => (P0_0_ k_ ∨ w.heap.size ≤ k_)) ho0 (fun k_ hk_ => Or.elim hk_ (fun hs_ => (HO345.out.1 k_ (hs_).symm)) (fun hn_ => (.inr (Nat.le_trans HK.out.1 hn_)))))
             have n3_ := Aside0.mk (Kept.then_ (S := (fun k_ => P0_0_ k_)) (by repeat (with_reducible first | exact HK.out | refine Kept.setCell ?_ (.inr GW257.out) _ | refine Kept.setCell ?_ (.inr GW258.out) _)) hkp (fun k_ hs_ => (fun e_ => (HO345.out.1 k_ e_.symm)) hs_))
             have n4_ := Aside0.mk (hb)
             clear BK257
             clear BK258
             clear HK
             clear HB
             clear HO345
             have BK257 := n0_
             have BK258 := n1_
             have HO350 := n2_
             have HK := n3_
             have HB := n4_
             clear n0_ n1_ n2_ n3_ n4_
             (try clear hb)
             (try clear hkp)
             (try clear ho0)
             obtain ⟨Ao128, co128, eo128⟩ := Kd.R_slice HO350.out
             (first | subst eo128 | (injection eo128 with f1_ f2_ f3_; have f4_ := f1_.symm; have f5_ := f3_.symm; clear f1_ f2_ f3_; subst f4_; subst f5_))
             refine hK.out _ _ ⟨(blk_cell BK257.out 0).trans rfl, (blk_cell BK257.out 1).trans rfl⟩ (fun hHeld => ?_)
             clear hK K
             refine norm_ (a' := ?_) ?_ ?_
             rotate_left
             ·show Act.put _ (some 116) _ = _
              simp only [Act.put, List.setIfInBounds_toArray, List.set_cons_zero, List.set_cons_succ, i64_w, i32_w]
              rfl
             refine last_ (i := 7) (N := none) #[true, true, true, true, true, true, true, true] rfl rfl (one_of HT_.out (by kernel_rfl)) (by decide) (fun K hK => ?_)
             have hs129 : w127.cell? ⟨gb257, 0, none⟩ = some (.slice Ao122 t343.length co122) := (blk_cell BK257.out 0).trans rfl
             have hfs129 := blk_frozen BK257.out 0
             have hns129_1 := NB258_257.out
             have hms129_1 := NB257_258.out
             have hs130 : w127.cell? ⟨gb257, 1, none⟩ = some (.int .i64 t346) := (blk_cell BK257.out 1).trans rfl
             have hfs130 := blk_frozen BK257.out 1
             have hns130_1 := NB258_257.out
             have hms130_1 := NB257_258.out
             refine skip_ (w1 := ?_) (by rfl) rfl ?_ ?_
             rotate_left
             ·go_simp
              rfl
             refine hK.out _ _ ?_
             clear hK K
             refine done_ (done_of HT_.out (by kernel_rfl)) ?_
             have n0_ : Aside0 (Kd.R k80 80 ((w127.setCell ⟨gb257, 0, none⟩ (.slice Ao128 t348.length co128)).setCell ⟨gb257, 1, none⟩ (.int .i64 t351)) w0.heap.size (fun k_ => (P0_0_ k_ ∨ w.heap.size ≤ k_)) (.slice Ao128 t348.length co128) t348) := ⟨by exact Kd.R_mono (Kd.R_far (p := ⟨gb257, 1, none⟩) (Kd.R_far (p := ⟨gb257, 0, none⟩) (Kd.R_types HO350.out BK257.out (by decide)) (fun _ hk => hk.2) (.slice Ao128 t348.length co128)) (fun _ hk => hk.2) (.int .i64 t351)) (fun _ hk => hk.1)⟩
             have n1_ : Aside0 (((w127.setCell ⟨gb257, 0, none⟩ (.slice Ao128 t348.length co128)).setCell ⟨gb257, 1, none⟩ (.int .i64 t351)).heap[gb257]? = some (.cells #[.slice Ao128 t348.length co128, .int .i64 t351] 49 (0, 0))) := ⟨by refine blk_put (cs := #[.slice Ao128 t348.length co128, .int .i64 t346]) ?_ 1 _ rfl; refine blk_put (cs := #[.slice Ao122 t343.length co122, .int .i64 t346]) ?_ 0 _ rfl; exact BK257.out⟩
             have n2_ : Aside0 (((w127.setCell ⟨gb257, 0, none⟩ (.slice Ao128 t348.length co128)).setCell ⟨gb257, 1, none⟩ (.int .i64 t351)).heap[gb258]? = some (.cells #[.slice none 0 0, .int .i64 0] 49 (0, 0))) := ⟨by refine blk_far ?_ NB258_257.out _; refine blk_far ?_ NB258_257.out _; exact BK258.out⟩
             have n3_ : Aside0 (Kept w ((w127.setCell ⟨gb257, 0, none⟩ (.slice Ao128 t348.length co128)).setCell ⟨gb257, 1, none⟩ (.int .i64 t351)) (fun k_ => P0_0_ k_)) := ⟨by repeat (first | (with_reducible first | exact HK.out | refine Kept.setCell ?_ (.inr GW257.out) _ | refine Kept.setCell ?_ (.inr GW258.out) _) | exact HK.out)⟩
             have n4_ : Aside0 (Below w0.heap.size w0 ((w127.setCell ⟨gb257, 0, none⟩ (.slice Ao128 t348.length co128)).setCell ⟨gb257, 1, none⟩ (.int .i64 t351))) := ⟨by repeat (first | (with_reducible first | exact HB.out | refine below_set ?_ GE257.out | refine below_set ?_ GE258.out) | exact HB.out)⟩
             (try clear HO350)
             (try clear BK257)
             (try clear BK258)
             (try clear HK)
             (try clear HB)
             generalize ((w127.setCell ⟨gb257, 0, none⟩ (.slice Ao128 t348.length co128)).setCell ⟨gb257, 1, none⟩ (.int .i64 t351)) = w131 at n0_ n1_ n2_ n3_ n4_ ⊢
             have HO350 := n0_
             have BK257 := n1_
             have BK258 := n2_
             have HK := n3_
             have HB := n4_
             clear n0_ n1_ n2_ n3_ n4_
             have hcz132_0 : w131.cell? ⟨gb257, 0, none⟩ = some (.slice Ao128 t348.length co128) := (blk_cell BK257.out 0).trans rfl
             have hcz132_1 : w131.cell? ⟨gb257, 1, none⟩ = some (.int .i64 t351) := (blk_cell BK257.out 1).trans rfl
             have hfz132_0 := blk_frozen BK257.out 0
             have hfz132_1 := blk_frozen BK257.out 1
             try go_wp2_with (first | ((with_reducible refine gate_callee (f := 59) rfl ?_); refine goesL_ (some 120) rfl rfl Try.func59 (by kernel_rfl) rfl #[.agg #[.slice Ao128 t348.length co128, .int .i64 t351], .int .i64 x2_1, .bool t269] rfl (by (try simp only [List.map_toArray, List.map_cons, List.map_nil]); try rfl) ?_; (with_reducible refine (turnbuckleref11_turn.calls (fun k_ => some k_ = (.slice Ao128 t348.length co128 : Value).ownBlock) (.slice Ao128 t348.length co128) t348 t351 x2_1 t269 t352 t355 w0 _ ?side1 ?side2 A110.out).mono ?_); (case side1 => repeat (first | (with_reducible first | exact HB.out | refine below_set ?_ GE257.out | refine below_set ?_ GE258.out) | exact HB.out)); (case side2 => exact Kd.R_tight rfl HO350.out); rintro e w133 ⟨v353, rfl, ho0, hb, hkp⟩; refine ⟨_, rfl, ?_⟩; have HO354 := Aside0.mk (Kd.R_mono (ok' := fun k_ => (P0_0_ k_ ∨ w.heap.size ≤ k_)) ho0 (fun k_ hk_ => Or.elim hk_ (fun hs_ => (HO350.out.1 k_ (hs_).symm)) (fun hn_ => (.inr (Nat.le_trans HK.out.1 hn_))))); replace BK257 := Aside0.mk (blk_kept BK257.out hkp (fun hs_ => (fun e_ => (Kd.R_ne HO350.out BK257.out (by decide)) e_) hs_)); replace BK258 := Aside0.mk (blk_kept BK258.out hkp (fun hs_ => (fun e_ => (Kd.R_ne HO350.out BK258.out (by decide)) e_) hs_)); replace HK := Aside0.mk (Kept.then_ (S := (fun k_ => P0_0_ k_)) (by repeat (with_reducible first | exact HK.out | refine Kept.setCell ?_ (.inr GW257.out) _ | refine Kept.setCell ?_ (.inr GW258.out) _)) hkp (fun k_ hs_ => (fun e_ => (HO350.out.1 k_ e_.symm)) hs_)); replace HB := Aside0.mk (hb); clear HO350; (try clear hb); (try clear hkp); (try clear ho0); obtain ⟨Ao134, co134, eo134⟩ := Kd.R_slice HO354.out; subst eo134; have hcz135_0 : w133.cell? ⟨gb257, 0, none⟩ = some (.slice Ao128 t348.length co128) := (blk_cell BK257.out 0).trans rfl; have hcz135_1 : w133.cell? ⟨gb257, 1, none⟩ = some (.int .i64 t351) := (blk_cell BK257.out 1).trans rfl; have hfz135_0 := blk_frozen BK257.out 0; have hfz135_1 := blk_frozen BK257.out 1))
             go_roundg kj79
             case measure => have := HK1.out; have := HJ6.out; have := HJ19.out; have := HJ51.out; have := HJ79.out; omega
             case rel => exact ⟨(t355), (x2_1), (t352), (t355), (.slice Ao134 t352.length co134), (by first | rfl | (simp; done) | (simp [*]; done)), (by first | rfl | (simp; done) | (simp [*]; done)), H', ⟨by have := HK1.out; have := HJ6.out; have := HJ19.out; have := HJ51.out; have := HJ79.out; omega⟩, ⟨by exact Kd.R_mono (Kd.R_far (p := ⟨gb257, 1, none⟩) (Kd.R_far (p := ⟨gb257, 0, none⟩) (Kd.R_types HO354.out BK257.out (by decide)) (fun _ hk => hk.2) (.slice Ao134 t352.length co134)) (fun _ hk => hk.2) (.int .i64 t355)) (fun _ hk => hk.1)⟩, ⟨by refine blk_put (cs := #[.slice Ao134 t352.length co134, .int .i64 t351]) ?_ 1 _ rfl; refine blk_put (cs := #[.slice Ao128 t348.length co128, .int .i64 t351]) ?_ 0 _ rfl; exact BK257.out⟩, ⟨by refine blk_far ?_ NB258_257.out _; refine blk_far ?_ NB258_257.out _; exact BK258.out⟩, ⟨by repeat (first | (with_reducible first | exact HK.out | refine Kept.setCell ?_ (.inr GW257.out) _ | refine Kept.setCell ?_ (.inr GW258.out) _) | exact HK.out)⟩, ⟨by repeat (first | (with_reducible first | exact HB.out | refine below_set ?_ GE257.out | refine below_set ?_ GE258.out) | exact HB.out)⟩⟩
     ·replace c16 := Bool.eq_false_iff.mpr c16
      subst c16
      have H1 : ((turnbuckleref11_paint.f x258000_1 x258001_1 x1_1 false).bind fun bt265 => (some (bt265.1, bt265.2))) = some (r1, r2) := by rw [if_neg (show ¬ (false = true) by decide)] at H; exact H
      clear H
      have H := H1
      clear H1
      replace H := Option.bind_eq_some_iff.mp H
      obtain ⟨⟨t265, t268⟩, A1360, H⟩ := H
      replace H : (some (t265, t268)) = some (r1, r2) := H
      have A136 := Aside0.mk A1360
      clear A1360
      simp only [Option.some.injEq, Prod.mk.injEq] at H
      obtain ⟨rfl, rfl⟩ := H
      have hnb137 := NB257_258.out
      have hnc137 := NB258_257.out
      have hcz138_0 : wc.cell? ⟨gb257, 0, none⟩ = some (u258000) := (blk_cell BK257.out 0).trans rfl
      have hcz138_1 : wc.cell? ⟨gb257, 1, none⟩ = some (.int .i64 x258001_1) := (blk_cell BK257.out 1).trans rfl
      have hfz138_0 := blk_frozen BK257.out 0
      have hfz138_1 := blk_frozen BK257.out 1
      obtain ⟨Ao139, co139, eo139⟩ := Kd.R_slice HO_258000.out
      subst eo139
      go_wp2_with (first | ((with_reducible refine gate_callee (f := 54) rfl ?_); refine goesL_ (some 125) rfl rfl Try.func54 (by kernel_rfl) rfl #[.agg #[.slice Ao139 x258000_1.length co139, .int .i64 x258001_1], .int .i64 x1_1, .bool false] rfl (by (try simp only [List.map_toArray, List.map_cons, List.map_nil]); try rfl) ?_; (with_reducible refine (turnbuckleref11_paint.calls (fun k_ => some k_ = (.slice Ao139 x258000_1.length co139 : Value).ownBlock) (.slice Ao139 x258000_1.length co139) x258000_1 x258001_1 x1_1 false t265 t268 w0 _ ?side1 ?side2 A136.out).mono ?_); (case side1 => repeat (first | (with_reducible first | exact HB.out | refine below_set ?_ GE257.out | refine below_set ?_ GE258.out) | exact HB.out)); (case side2 => exact Kd.R_tight rfl HO_258000.out); rintro e w140 ⟨v266, rfl, ho0, hb, hkp⟩; refine ⟨_, rfl, ?_⟩; have HO267 := Aside0.mk (Kd.R_mono (ok' := fun k_ => (P0_0_ k_ ∨ w.heap.size ≤ k_)) ho0 (fun k_ hk_ => Or.elim hk_ (fun hs_ => (HO_258000.out.1 k_ (hs_).symm)) (fun hn_ => (.inr (Nat.le_trans HK.out.1 hn_))))); replace BK257 := Aside0.mk (blk_kept BK257.out hkp (fun hs_ => (fun e_ => (Kd.R_ne HO_258000.out BK257.out (by decide)) e_) hs_)); replace BK258 := Aside0.mk (blk_kept BK258.out hkp (fun hs_ => (fun e_ => (Kd.R_ne HO_258000.out BK258.out (by decide)) e_) hs_)); replace HK := Aside0.mk (Kept.then_ (S := (fun k_ => P0_0_ k_)) (by repeat (with_reducible first | exact HK.out | refine Kept.setCell ?_ (.inr GW257.out) _ | refine Kept.setCell ?_ (.inr GW258.out) _)) hkp (fun k_ hs_ => (fun e_ => (HO_258000.out.1 k_ e_.symm)) hs_)); replace HB := Aside0.mk (hb); clear HO_258000; (try clear hb); (try clear hkp); (try clear ho0); obtain ⟨Ao141, co141, eo141⟩ := Kd.R_slice HO267.out; subst eo141; have hcz142_0 : w140.cell? ⟨gb258, 0, none⟩ = some (.slice none 0 0) := (blk_cell BK258.out 0).trans rfl; have hcz142_1 : w140.cell? ⟨gb258, 1, none⟩ = some (.int .i64 0) := (blk_cell BK258.out 1).trans rfl; have hfz142_0 := blk_frozen BK258.out 0; have hfz142_1 := blk_frozen BK258.out 1))
      refine bodyPost_ret (results_cell_row rfl _ _ gb258 49 #[.slice Ao141 t265.length co141, .int .i64 t268] (0, 0) _ rfl (by refine blk_put (cs := #[.slice Ao141 t265.length co141, .int .i64 0]) ?_ 1 _ rfl; refine blk_put (cs := #[.slice none 0 0, .int .i64 0]) ?_ 0 _ rfl; exact BK258.out) Try.underlying49 rfl (by kernel_rfl)) rfl ?_
      exact ⟨_, by first | rfl | (simp [errW_none, errW_some] <;> rfl) | (simp [*, errW_none, errW_some] <;> rfl), by exact Kd.R_mono (Kd.R_far (p := ⟨gb258, 1, none⟩) (Kd.R_far (p := ⟨gb258, 0, none⟩) (Kd.R_types HO267.out BK258.out (by decide)) (fun _ hk => hk.2) (.slice Ao141 t265.length co141)) (fun _ hk => hk.2) (.int .i64 t268)) (fun _ hk => hk.1), by repeat (first | (with_reducible first | exact HB.out | refine below_set ?_ GE257.out | refine below_set ?_ GE258.out) | exact HB.out), by repeat (first | (with_reducible first | exact HK.out | refine Kept.setCell ?_ (.inr GW257.out) _ | refine Kept.setCell ?_ (.inr GW258.out) _) | exact HK.out)⟩
end Go.Proofs.Ythkppnkhiimaeaa.PTreePlays
