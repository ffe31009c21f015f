/- Lemmas of the claim TreePlays. -/
import Derived.Test.YthkppnkhiimaeaaTrRf0
import Derived.Test.YthkppnkhiimaeaaTrRf1
/- The reference of layer 11 (began as a printed text, which falls). -/
namespace Go.Proofs.Ythkppnkhiimaeaa.PTreePlays
open Go.RowKit Go.Proofs.YthkppnkhiimaeaaW.PrintWords Go.Proofs.YthkppnkhiimaeaaW.PrintLast Go.Proofs.YthkppnkhiimaeaaW.PrintMore
attribute [local go_sem] fld80_0 fld80_1 fld80_2 fld80_3 fld80_4 fld80_5 max2_int min2_int max_two min_two max_three min_three max_four min_four   -- for this text's walks alone
set_option linter.unusedVariables false
set_option linter.unusedSimpArgs false
-- NOT PRINTED: function 31 (tree_Owner)
-- NOT PRINTED: function 25 (turnbucklelaw11_alike)
/-! ### turnbuckleref11_All: function 27 -/
def turnbuckleref11_All.f : Nat → List (S80) → Int → Int → Option (List Int)
 | 0, _, _, _ => none
 | k + 1, l0_0, a0_1, a1 => if a1 = 0 then (some ([] : List Int)) else ((turnbuckleref11_Of.f l0_0 a0_1 a1).bind fun bt531 => ((turnbuckleref11_All.f k l0_0 a0_1 bt531.2.1).bind fun t537 => (if t537.length < 17592186044416 then ((some (t537 ++ [a1] : List Int)).bind fun y540 => ((turnbuckleref11_Of.f l0_0 a0_1 a1).bind fun bt543 => ((turnbuckleref11_All.f k l0_0 a0_1 bt543.2.2.1).bind fun t549 => (if y540.length + t549.length < 17592186044416 then (some (y540 ++ t549)) else (none))))) else (none))))
theorem turnbuckleref11_All.mono_l : ∀ k, (∀ y0 y1 y2, LeO (turnbuckleref11_All.f k y0 y1 y2) (turnbuckleref11_All.f (k + 1) y0 y1 y2))
 | 0 => fun _ _ _ r h => by simp [turnbuckleref11_All.f] at h
 | k + 1 => by
  have ih0 := turnbuckleref11_All.mono_l k
  ·intro y0 y1 y2
   unfold turnbuckleref11_All.f
   repeat' first
   | (with_reducible exact ih0 _ _ _)
   | (with_reducible exact LeO.refl _)
   | (with_reducible exact LeO.none _)
   | (with_reducible refine LeO.ite ?_ ?_)
   | (with_reducible refine LeO.bind ?_ (fun _ => ?_))
   | exact ih0 _ _ _
   | exact LeO.none _
   | refine LeO.ite ?_ ?_
   | refine LeO.bind ?_ (fun _ => ?_)
theorem turnbuckleref11_All.mono : ∀ a0 a1 a2 k, LeO (turnbuckleref11_All.f k a0 a1 a2) (turnbuckleref11_All.f (k + 1) a0 a1 a2) := by
 intro a0 a1 a2 k
 have ih0 := turnbuckleref11_All.mono_l k
 exact ih0 a0 a1 a2
def turnbuckleref11_All.T5 : Bool × List (List Nat × List Nat) := (true, [([], []), ([], []), ([], []), ([], []), ([2, 3], [2, 3]), ([4], [4]), ([1, 5, 4], [1, 5]), ([0, 6, 6], [0, 6]), ([7, 7, 0, 1, 2, 3, 4, 5, 6, 7], [7])])
def turnbuckleref11_All.B5 : List Nat := [0, 0, 0, 0, 12, 28, 62, 127, 255]
theorem turnbuckleref11_All.tab5 : rtab .any (opsOf Try.f27 5) = turnbuckleref11_All.T5 := by kernel_rfl
theorem turnbuckleref11_All.bits5 : waitsOk turnbuckleref11_All.T5.2 turnbuckleref11_All.B5 = true := by kernel_rfl
set_option maxHeartbeats 8000000 in
set_option maxRecDepth 100000 in
theorem turnbuckleref11_All.calls (k : Nat) : ∀ (A0_0 : Option Addr) (c0_0 : Nat) (l0_0 : List (S80)) (a0_1 : Int) (a1 : Int) (r : List Int) (w : World) (hr0_0 : Kd.C k80 w A0_0 l0_0.length l0_0) (hc0_0 : l0_0.length ≤ c0_0) (h : turnbuckleref11_All.f k l0_0 a0_1 a1 = some r),
  Calls Try.prog 27 #[.agg #[.slice A0_0 l0_0.length c0_0, .int .i64 a0_1], .int .i64 a1] w fun e w' => ∃ v0_ : Value, e = .returned (v0_) ∧ Kd.R (Kd.int .i64) 3 w' w.heap.size (fun _ => True) v0_ r ∧ Below w.heap.size w w' := by
 induction k using Nat.strongRecOn with
 | _ k ih =>
 intro A0_0 c0_0 l0_0 a0_1 a1 r w hr0_0 hc0_0 h
 cases k with
 | zero => exact absurd h (by simp [turnbuckleref11_All.f])
 | succ k =>
 simp only [turnbuckleref11_All.f] at h
 have hu49 := Try.underlying49
 have HR0_0 := Aside0.mk hr0_0
 have HC0_0 := Aside0.mk hc0_0
 clear hr0_0 hc0_0
 have HB := Aside0.mk (Below.refl w.heap.size w)
 have H : (if a1 = 0 then (some ([] : List Int)) else ((turnbuckleref11_Of.f l0_0 a0_1 a1).bind fun bt531 => ((turnbuckleref11_All.f k l0_0 a0_1 bt531.2.1).bind fun t537 => (if t537.length < 17592186044416 then ((some (t537 ++ [a1] : List Int)).bind fun y540 => ((turnbuckleref11_Of.f l0_0 a0_1 a1).bind fun bt543 => ((turnbuckleref11_All.f k l0_0 a0_1 bt543.2.2.1).bind fun t549 => (if y540.length + t549.length < 17592186044416 then (some (y540 ++ t549)) else (none))))) else (none))))) = some r := h
 clear h
 by_cases c3 : a1 = 0
 ·rw [if_pos c3] at H
  have c3b0 : (a1 == 0) = true := beq_iff_eq.mpr c3
  have c3b1 : (a1 != 0) = false := bne_eq_false_iff_eq.mpr c3
  clear c3
  obtain rfl := Option.some.inj H
  go_enter Try.func27, Try.ntmps27
  go_wp2_with (first | ((with_reducible refine gate_dst (N := 2) rfl ?_); refine box_event ?hg (N := 2) ?hd (cs := #[.slice A0_0 l0_0.length c0_0, .int .i64 a0_1]) (t := 49) ?hr ?_; (case hd => rfl); (case hg => rfl); (case hr => first | (go_simp; done) | (go_simp; rfl)); intro gb530 hg w4 hbox hb; have BK530 := Aside0.mk (hbox); have GW530 := Aside0.mk ((by rw [hg]; exact (below_size HB.out) : w.heap.size ≤ gb530)); have GE530 := Aside0.mk ((by rw [hg]; exact (below_size HB.out) : w.heap.size ≤ gb530)); replace HB := Aside0.mk (below_step HB.out hb); clear hb hbox hg))
  go_ret
  exact ⟨_, by first | rfl | (simp [errW_none, errW_some] <;> rfl) | (simp [*, errW_none, errW_some] <;> rfl), by first | exact Kd.R_nil _ _ _ _ _ | exact Kd.N_nil _ _ _ _ _ | exact Kd.V_nil _ _ _ _ _ | exact Kd.Q_nil _ _ _ _ _ | exact Kd.S_nil _ _ _ _ _, by repeat (first | (with_reducible first | exact HB.out | refine below_set ?_ GE530.out) | exact HB.out)⟩
 ·rw [if_neg c3] at H
  have c3b0 : (a1 == 0) = false := beq_eq_false_iff_ne.mpr c3
  have c3b1 : (a1 != 0) = true := bne_iff_ne.mpr c3
  replace H := Option.bind_eq_some_iff.mp H
  obtain ⟨⟨t531, t532, t533, t534, t535, t536⟩, A50, H⟩ := H
  replace H : ((turnbuckleref11_All.f k l0_0 a0_1 t532).bind fun t537 => (if t537.length < 17592186044416 then ((some (t537 ++ [a1] : List Int)).bind fun y540 => ((turnbuckleref11_Of.f l0_0 a0_1 a1).bind fun bt543 => ((turnbuckleref11_All.f k l0_0 a0_1 bt543.2.2.1).bind fun t549 => (if y540.length + t549.length < 17592186044416 then (some (y540 ++ t549)) else (none))))) else (none))) = some r := H
  have A5 := Aside0.mk A50
  clear A50
  replace H := Option.bind_eq_some_iff.mp H
  obtain ⟨t537, A60, H⟩ := H
  replace H : (if t537.length < 17592186044416 then ((some (t537 ++ [a1] : List Int)).bind fun y540 => ((turnbuckleref11_Of.f l0_0 a0_1 a1).bind fun bt543 => ((turnbuckleref11_All.f k l0_0 a0_1 bt543.2.2.1).bind fun t549 => (if y540.length + t549.length < 17592186044416 then (some (y540 ++ t549)) else (none))))) else (none)) = some r := H
  have A6 := Aside0.mk A60
  clear A60
  by_cases c7 : t537.length < 17592186044416
  ·rw [if_pos c7] at H
   have LMc7 := Aside0.mk c7
   clear c7
   obtain ⟨y540, hy540⟩ : ∃ y_ : List Int, y_ = (t537 ++ [a1]) := ⟨_, rfl⟩
   replace H : ((turnbuckleref11_Of.f l0_0 a0_1 a1).bind fun bt543 => ((turnbuckleref11_All.f k l0_0 a0_1 bt543.2.2.1).bind fun t549 => (if y540.length + t549.length < 17592186044416 then (some (y540 ++ t549)) else (none)))) = some r := by first | (rw [hy540]; with_reducible exact H) | (have H2_ := (Option.bind_some _ _).symm.trans H; rw [hy540]; with_reducible exact H2_) | (have H2_ := (Option.bind_some _ _).symm.trans H; with_reducible exact H2_) | with_reducible exact H | (rw [hy540]; exact H) | exact H
   have Ny540 := Aside0.mk hy540
   clear hy540
   replace H := Option.bind_eq_some_iff.mp H
   obtain ⟨⟨t543, t544, t545, t546, t547, t548⟩, A80, H⟩ := H
   replace H : ((turnbuckleref11_All.f k l0_0 a0_1 t545).bind fun t549 => (if y540.length + t549.length < 17592186044416 then (some (y540 ++ t549)) else (none))) = some r := H
   have A8 := Aside0.mk A80
   clear A80
   replace H := Option.bind_eq_some_iff.mp H
   obtain ⟨t549, A90, H⟩ := H
   replace H : (if y540.length + t549.length < 17592186044416 then (some (y540 ++ t549)) else (none)) = some r := H
   have A9 := Aside0.mk A90
   clear A90
   by_cases c10 : y540.length + t549.length < 17592186044416
   ·rw [if_pos c10] at H
    have LMc10 := Aside0.mk c10
    clear c10
    obtain ⟨y552, hy552⟩ : ∃ y_ : List Int, y_ = (y540 ++ t549) := ⟨_, rfl⟩
    replace H : (some y552) = some r := by first | (rw [hy552]; with_reducible exact H) | (have H2_ := (Option.bind_some _ _).symm.trans H; rw [hy552]; with_reducible exact H2_) | (have H2_ := (Option.bind_some _ _).symm.trans H; with_reducible exact H2_) | with_reducible exact H | (rw [hy552]; exact H) | exact H
    have Ny552 := Aside0.mk hy552
    clear hy552
    obtain rfl := Option.some.inj H
    go_enter Try.func27, Try.ntmps27
    try go_wp2_with (first | ((with_reducible refine gate_dst (N := 2) rfl ?_); refine box_event ?hg (N := 2) ?hd (cs := #[.slice A0_0 l0_0.length c0_0, .int .i64 a0_1]) (t := 49) ?hr ?_; (case hd => rfl); (case hg => rfl); (case hr => first | (go_simp; done) | (go_simp; rfl)); intro gb530 hg w11 hbox hb; have BK530 := Aside0.mk (hbox); have GW530 := Aside0.mk ((by rw [hg]; exact (below_size HB.out) : w.heap.size ≤ gb530)); have GE530 := Aside0.mk ((by rw [hg]; exact (below_size HB.out) : w.heap.size ≤ gb530)); replace HB := Aside0.mk (below_step HB.out hb); clear hb hbox hg))
    have n0_ := Aside0.mk (blk_drew BK530.out)
    have n1_ := Aside0.mk (below_drew1 HB.out)
    clear BK530
    clear HB
    have BK530 := n0_
    have HB := n1_
    clear n0_ n1_
    refine start_ (n := 7) (S := fun w' => w'.cell? ⟨gb530, 0, none⟩ = some (.slice A0_0 l0_0.length c0_0) ∧ w'.cell? ⟨gb530, 1, none⟩ = some (.int .i64 a0_1)) (ds := []) #[false, false, false, false, false, false, false] (by kernel_rfl) rfl rfl ⟨(blk_cell BK530.out 0).trans rfl, (blk_cell BK530.out 1).trans rfl⟩ (fun hHeld => ?_)
    generalize w11.drew = w12 at BK530 HB hHeld ⊢
    refine pure_ (i := 2) (N := some 10) (v := ?_) (a' := ?_) #[false, false, true, false, false, false, false] rfl rfl (by kernel_rfl) (fun _ _ _ h => h) (Or.inl ⟨by rfl, ?_⟩) ?_ ?_
    rotate_left
    ·intro w'
     go_simp
     with_reducible rfl
    rotate_left
    ·simp only [Act.put, List.setIfInBounds_toArray, List.set_cons_zero, List.set_cons_succ, i64_w, i32_w]
     rfl
    refine take_ (i := 0) (N := some 8) (v := ?_) (a' := ?_) #[true, false, true, false, false, false, false] rfl rfl (by kernel_rfl) (fun _ _ _ h => h) (Or.inl ⟨by rfl, ?_⟩) hHeld ?_ ?_
    rotate_left
    ·rintro w' ⟨s0, s1⟩
     go_simp
     with_reducible rfl
    rotate_left
    ·simp only [Act.put, List.setIfInBounds_toArray, List.set_cons_zero, List.set_cons_succ, i64_w, i32_w]
     rfl
    refine take_ (i := 1) (N := some 9) (v := ?_) (a' := ?_) #[true, true, true, false, false, false, false] rfl rfl (by kernel_rfl) (fun _ _ _ h => h) (Or.inl ⟨by rfl, ?_⟩) hHeld ?_ ?_
    rotate_left
    ·rintro w' ⟨s0, s1⟩
     go_simp
     with_reducible rfl
    rotate_left
    ·simp only [Act.put, List.setIfInBounds_toArray, List.set_cons_zero, List.set_cons_succ, i64_w, i32_w]
     rfl
    refine one_ (i := 3) (N := some 11) #[true, true, true, true, false, false, false] rfl rfl (by kernel_rfl) (by decide) (fun K hK => ?_)
    refine goes_ Try.func51 (by kernel_rfl) rfl #[.agg #[.slice A0_0 l0_0.length c0_0, .int .i64 a0_1], .int .i64 a1] (by rfl) rfl rfl (by (try simp only [List.map_toArray, List.map_cons, List.map_nil]); try rfl) ?_
    with_reducible refine (turnbuckleref11_Of.calls _ _ l0_0 a0_1 a1 t531 t532 t533 t534 t535 t536 _ ?side1 ?side2 A5.out).mono ?_
    (case side1 => repeat (first | exact (Kd.C_below HR0_0.out HB.out) | (with_reducible refine Kd.C_alloc ?_ _) | (with_reducible refine Kd.C_drewN ?_ _) | (with_reducible refine Kd.C_drew ?_)))
    (case side2 => exact HC0_0.out)
    rintro e w13 ⟨rfl, hb⟩
    refine ⟨_, rfl, ?_⟩
    have n0_ := Aside0.mk (blk_below BK530.out hb)
    have n1_ := Aside0.mk (below_step HB.out hb)
    clear BK530
    clear HB
    have BK530 := n0_
    have HB := n1_
    clear n0_ n1_
    (try clear hb)
    (try clear hb2)
    (try clear hk)
    (try clear hi)
    refine hK.out _ _ ⟨(blk_cell BK530.out 0).trans rfl, (blk_cell BK530.out 1).trans rfl⟩ (fun hHeld => ?_)
    clear hK K
    refine norm_ (a' := ?_) ?_ ?_
    rotate_left
    ·show Act.put _ (some 11) _ = _
     simp only [Act.put, List.setIfInBounds_toArray, List.set_cons_zero, List.set_cons_succ, i64_w, i32_w]
     rfl
    refine pure_ (i := 4) (N := some 12) (v := ?_) (a' := ?_) #[true, true, true, true, true, false, false] rfl rfl (by kernel_rfl) (fun _ _ _ h => h) (Or.inl ⟨by rfl, ?_⟩) ?_ ?_
    rotate_left
    ·intro w'
     go_simp
     with_reducible rfl
    rotate_left
    ·simp only [Act.put, List.setIfInBounds_toArray, List.set_cons_zero, List.set_cons_succ, i64_w, i32_w]
     rfl
    refine one_ (i := 5) (N := some 13) #[true, true, true, true, true, true, false] rfl rfl (by kernel_rfl) (by decide) (fun K hK => ?_)
    refine goes_ Try.func27 (by kernel_rfl) rfl #[.agg #[.slice A0_0 l0_0.length c0_0, .int .i64 a0_1], .int .i64 t532] (by rfl) rfl rfl (by (try simp only [List.map_toArray, List.map_cons, List.map_nil]); try rfl) ?_
    with_reducible refine (ih k (by omega) _ _ l0_0 a0_1 t532 t537 _ ?side1 ?side2 A6.out).mono ?_
    (case side1 => repeat (first | exact (Kd.C_below HR0_0.out HB.out) | (with_reducible refine Kd.C_alloc ?_ _) | (with_reducible refine Kd.C_drewN ?_ _) | (with_reducible refine Kd.C_drew ?_)))
    (case side2 => exact HC0_0.out)
    rintro e w14 ⟨v538, rfl, ho0, hb⟩
    refine ⟨_, rfl, ?_⟩
    have n0_ := Aside0.mk (Kd.R_lower ho0 (below_size HB.out))
    have n1_ := Aside0.mk (blk_below BK530.out hb)
    have n2_ := Aside0.mk (below_step HB.out hb)
    clear BK530
    clear HB
    have HO539 := n0_
    have BK530 := n1_
    have HB := n2_
    clear n0_ n1_ n2_
    (try clear hb)
    (try clear hb2)
    (try clear hk)
    (try clear hi)
    (try clear ho0)
    refine hK.out _ _ ⟨(blk_cell BK530.out 0).trans rfl, (blk_cell BK530.out 1).trans rfl⟩ (fun hHeld => ?_)
    clear hK K
    refine norm_ (a' := ?_) ?_ ?_
    rotate_left
    ·show Act.put _ (some 13) _ = _
     simp only [Act.put, List.setIfInBounds_toArray, List.set_cons_zero, List.set_cons_succ, i64_w, i32_w]
     rfl
    refine pure_ (i := 6) (N := some 5) (v := ?_) (a' := ?_) #[true, true, true, true, true, true, true] rfl rfl (by kernel_rfl) (fun _ _ _ h => h) (Or.inl ⟨by rfl, ?_⟩) ?_ ?_
    rotate_left
    ·intro w'
     go_simp
     with_reducible rfl
    rotate_left
    ·simp only [Act.put, List.setIfInBounds_toArray, List.set_cons_zero, List.set_cons_succ, i64_w, i32_w]
     rfl
    refine done_ (by kernel_rfl) ?_
    try go_wp2_with (first | ((with_reducible refine gate_builtin (b := .append) (xs := #[.tmp 14, .tmp 16]) rfl ?_); at_builtin; refine Kd.R_append (Kd.int .i64) (w0 := w) w.heap.size rfl (.tmp 14) (.tmp 16) 38 3 (.int .i64 0) 8 rfl Try.underlying38 info3 rfl (by decide) (by omega) v538 t537 a1 [.int .i64 a1] (fun _ => True) (fun _ => False) rfl rfl ?aP (fun _ hk => hk.elim) ?aF ?aO ?aB ?aS ?aL ?_; (case aP => exact rfl); (case aB => exact HB.out); (case aF => exact (fun _ _ => trivial)); (case aO => exact HO539.out); (case aS => exact (below_size HB.out)); (case aL => have := LMc7.out; omega); intro v541 w15 ho hb hg hat; rw [← Ny540.out] at ho; have HO542 := Aside0.mk (ho); replace BK530 := Aside0.mk (blk_grown BK530.out hg (Kd.R_ne HO539.out BK530.out (by decide))); replace HB := Aside0.mk (hb); clear HO539; clear ho hb hg hat))
    have n0_ := Aside0.mk (Kd.R_drew HO542.out)
    have n1_ := Aside0.mk (blk_drew BK530.out)
    have n2_ := Aside0.mk (below_drew1 HB.out)
    clear HO542
    clear BK530
    clear HB
    have HO542 := n0_
    have BK530 := n1_
    have HB := n2_
    clear n0_ n1_ n2_
    refine start_ (n := 9) (S := fun w' => w'.cell? ⟨gb530, 0, none⟩ = some (.slice A0_0 l0_0.length c0_0) ∧ w'.cell? ⟨gb530, 1, none⟩ = some (.int .i64 a0_1)) (ds := []) #[false, false, false, false, false, false, false, false, false] (by kernel_rfl) rfl rfl ⟨(blk_cell BK530.out 0).trans rfl, (blk_cell BK530.out 1).trans rfl⟩ (fun hHeld => ?_); refine with_tabW turnbuckleref11_All.tab5 turnbuckleref11_All.bits5 (fun HT_ HW_ => ?_)
    generalize w15.drew = w16 at HO542 BK530 HB hHeld ⊢
    refine pure_ (i := 0) (N := some 18) (v := ?_) (a' := ?_) #[true, false, false, false, false, false, false, false, false] rfl rfl (any_of HT_.out (by kernel_rfl)) (fun _ _ _ h => h) (Or.inl ⟨by rfl, ?_⟩) ?_ ?_
    rotate_left
    ·intro w'
     go_simp
     with_reducible rfl
    rotate_left
    ·simp only [Act.put, List.setIfInBounds_toArray, List.set_cons_zero, List.set_cons_succ, i64_w, i32_w]
     rfl
    refine pure_ (i := 3) (N := some 21) (v := ?_) (a' := ?_) #[true, false, false, true, false, false, false, false, false] rfl rfl (any_of HT_.out (by kernel_rfl)) (fun _ _ _ h => h) (Or.inl ⟨by rfl, ?_⟩) ?_ ?_
    rotate_left
    ·intro w'
     go_simp
     with_reducible rfl
    rotate_left
    ·simp only [Act.put, List.setIfInBounds_toArray, List.set_cons_zero, List.set_cons_succ, i64_w, i32_w]
     rfl
    refine take_ (i := 1) (N := some 19) (v := ?_) (a' := ?_) #[true, true, false, true, false, false, false, false, false] rfl rfl (take_ofW HT_.out HW_.out (by kernel_rfl)) (fun _ _ _ h => h) (Or.inl ⟨by rfl, ?_⟩) hHeld ?_ ?_
    rotate_left
    ·rintro w' ⟨s0, s1⟩
     go_simp
     with_reducible rfl
    rotate_left
    ·simp only [Act.put, List.setIfInBounds_toArray, List.set_cons_zero, List.set_cons_succ, i64_w, i32_w]
     rfl
    refine take_ (i := 2) (N := some 20) (v := ?_) (a' := ?_) #[true, true, true, true, false, false, false, false, false] rfl rfl (take_ofW HT_.out HW_.out (by kernel_rfl)) (fun _ _ _ h => h) (Or.inl ⟨by rfl, ?_⟩) hHeld ?_ ?_
    rotate_left
    ·rintro w' ⟨s0, s1⟩
     go_simp
     with_reducible rfl
    rotate_left
    ·simp only [Act.put, List.setIfInBounds_toArray, List.set_cons_zero, List.set_cons_succ, i64_w, i32_w]
     rfl
    refine one_ (i := 4) (N := some 22) #[true, true, true, true, true, false, false, false, false] rfl rfl (one_of HT_.out (by kernel_rfl)) (by decide) (fun K hK => ?_)
    refine goes_ Try.func51 (by kernel_rfl) rfl #[.agg #[.slice A0_0 l0_0.length c0_0, .int .i64 a0_1], .int .i64 a1] (by rfl) rfl rfl (by (try simp only [List.map_toArray, List.map_cons, List.map_nil]); try rfl) ?_
    with_reducible refine (turnbuckleref11_Of.calls _ _ l0_0 a0_1 a1 t543 t544 t545 t546 t547 t548 _ ?side1 ?side2 A8.out).mono ?_
    (case side1 => repeat (first | exact (Kd.C_below HR0_0.out HB.out) | (with_reducible refine Kd.C_alloc ?_ _) | (with_reducible refine Kd.C_drewN ?_ _) | (with_reducible refine Kd.C_drew ?_)))
    (case side2 => exact HC0_0.out)
    rintro e w17 ⟨rfl, hb⟩
    refine ⟨_, rfl, ?_⟩
    have n0_ := Aside0.mk (Kd.R_below HO542.out hb)
    have n1_ := Aside0.mk (blk_below BK530.out hb)
    have n2_ := Aside0.mk (below_step HB.out hb)
    clear HO542
    clear BK530
    clear HB
    have HO542 := n0_
    have BK530 := n1_
    have HB := n2_
    clear n0_ n1_ n2_
    (try clear hb)
    (try clear hb2)
    (try clear hk)
    (try clear hi)
    refine hK.out _ _ ⟨(blk_cell BK530.out 0).trans rfl, (blk_cell BK530.out 1).trans rfl⟩ (fun hHeld => ?_)
    clear hK K
    refine norm_ (a' := ?_) ?_ ?_
    rotate_left
    ·show Act.put _ (some 22) _ = _
     simp only [Act.put, List.setIfInBounds_toArray, List.set_cons_zero, List.set_cons_succ, i64_w, i32_w]
     rfl
    refine pure_ (i := 5) (N := some 23) (v := ?_) (a' := ?_) #[true, true, true, true, true, true, false, false, false] rfl rfl (any_of HT_.out (by kernel_rfl)) (fun _ _ _ h => h) (Or.inl ⟨by rfl, ?_⟩) ?_ ?_
    rotate_left
    ·intro w'
     go_simp
     with_reducible rfl
    rotate_left
    ·simp only [Act.put, List.setIfInBounds_toArray, List.set_cons_zero, List.set_cons_succ, i64_w, i32_w]
     rfl
    refine one_ (i := 6) (N := some 24) #[true, true, true, true, true, true, true, false, false] rfl rfl (one_of HT_.out (by kernel_rfl)) (by decide) (fun K hK => ?_)
    refine goes_ Try.func27 (by kernel_rfl) rfl #[.agg #[.slice A0_0 l0_0.length c0_0, .int .i64 a0_1], .int .i64 t545] (by rfl) rfl rfl (by (try simp only [List.map_toArray, List.map_cons, List.map_nil]); try rfl) ?_
    with_reducible refine (ih k (by omega) _ _ l0_0 a0_1 t545 t549 _ ?side1 ?side2 A9.out).mono ?_
    (case side1 => repeat (first | exact (Kd.C_below HR0_0.out HB.out) | (with_reducible refine Kd.C_alloc ?_ _) | (with_reducible refine Kd.C_drewN ?_ _) | (with_reducible refine Kd.C_drew ?_)))
    (case side2 => exact HC0_0.out)
    rintro e w18 ⟨v550, rfl, ho0, hb⟩
    refine ⟨_, rfl, ?_⟩
    have n0_ := Aside0.mk (Kd.R_elder' HO542.out (Kd.R_base ho0) hb)
    have n1_ := Aside0.mk (Kd.R_lower (Kd.R_new' ho0 (Kd.R_lt HO542.out)) (below_size HB.out))
    have n2_ := Aside0.mk (blk_below BK530.out hb)
    have n3_ := Aside0.mk (below_step HB.out hb)
    clear HO542
    clear BK530
    clear HB
    have HO542 := n0_
    have HO551 := n1_
    have BK530 := n2_
    have HB := n3_
    clear n0_ n1_ n2_ n3_
    (try clear hb)
    (try clear hb2)
    (try clear hk)
    (try clear hi)
    (try clear ho0)
    obtain ⟨Ao20, co20, eo20⟩ := Kd.R_slice HO551.out
    (first | subst eo20 | (injection eo20 with f1_ f2_ f3_; have f4_ := f1_.symm; have f5_ := f3_.symm; clear f1_ f2_ f3_; subst f4_; subst f5_))
    refine hK.out _ _ ⟨(blk_cell BK530.out 0).trans rfl, (blk_cell BK530.out 1).trans rfl⟩ (fun hHeld => ?_)
    clear hK K
    refine norm_ (a' := ?_) ?_ ?_
    rotate_left
    ·show Act.put _ (some 24) _ = _
     simp only [Act.put, List.setIfInBounds_toArray, List.set_cons_zero, List.set_cons_succ, i64_w, i32_w]
     rfl
    refine one_ (i := 7) (N := some 25) #[true, true, true, true, true, true, true, true, false] rfl rfl (one_of HT_.out (by kernel_rfl)) (by decide) (fun K hK => ?_)
    refine Kd.R_append_rows_step (Kd.int .i64) (w0 := w) w.heap.size (by rfl) (.tmp 18) (.tmp 24) 38 3 (.int .i64 0) 8 rfl Try.underlying38 info3 rfl (by decide) (by omega) v541 y540 t549 _ _ _ (fun k_ => some k_ ≠ (.slice Ao20 t549.length co20 : Value).ownBlock) (fun _ => False) rfl rfl ?aO ?aR (fun _ _ h => h) (fun _ h => h.elim) ?aF ?aB ?aS ?aL ?_
    (case aR => repeat (first | exact (Kd.R_reads' HO551.out).2.2 | (with_reducible refine Kd.C_alloc ?_ _) | (with_reducible refine Kd.C_drewN ?_ _) | (with_reducible refine Kd.C_drew ?_)))
    (case aB => exact HB.out)
    (case aF => exact (fun k_ hk => Kd.fresh' (Kd.R_lt HO551.out) k_ hk))
    (case aO => exact (by exact Kd.R_mono HO542.out (fun _ hk => hk.2)))
    (case aS => exact (below_size HB.out))
    (case aL => have := LMc10.out; omega)
    intro v553 w19 ho hb hg hat
    rw [← Ny552.out] at ho
    have n0_ := Aside0.mk (blk_grown BK530.out hg (Kd.R_ne HO542.out BK530.out (by decide)))
    have n1_ := Aside0.mk (Kd.R_after (ok := (fun _ => True)) HO551.out hg hat)
    have n2_ := Aside0.mk (hb)
    have n3_ := Aside0.mk (ho)
    clear BK530
    clear HO551
    clear HB
    clear HO542
    have BK530 := n0_
    have HO551 := n1_
    have HB := n2_
    have HO554 := n3_
    clear n0_ n1_ n2_ n3_
    clear ho hb hg hat
    refine hK.out _ _ ⟨(blk_cell BK530.out 0).trans rfl, (blk_cell BK530.out 1).trans rfl⟩ (fun hHeld => ?_)
    clear hK K
    refine norm_ (a' := ?_) ?_ ?_
    rotate_left
    ·show Act.put _ (some 25) _ = _
     simp only [Act.put, List.setIfInBounds_toArray, List.set_cons_zero, List.set_cons_succ, i64_w, i32_w]
     rfl
    refine pure_ (i := 8) (N := some 4) (v := ?_) (a' := ?_) #[true, true, true, true, true, true, true, true, true] rfl rfl (any_of HT_.out (by kernel_rfl)) (fun _ _ _ h => h) (Or.inl ⟨by rfl, ?_⟩) ?_ ?_
    rotate_left
    ·intro w'
     go_simp
     with_reducible rfl
    rotate_left
    ·simp only [Act.put, List.setIfInBounds_toArray, List.set_cons_zero, List.set_cons_succ, i64_w, i32_w]
     rfl
    refine done_ (done_of HT_.out (by kernel_rfl)) ?_
    try go_wp2
    go_ret
    exact ⟨_, by first | rfl | (simp [errW_none, errW_some] <;> rfl) | (simp [*, errW_none, errW_some] <;> rfl), by exact Kd.R_mono HO554.out (fun _ hk => trivial), by repeat (first | (with_reducible first | exact HB.out | refine below_set ?_ GE530.out) | exact HB.out)⟩
   ·rw [if_neg c10] at H
    exact absurd H (by simp)
  ·rw [if_neg c7] at H
   exact absurd H (by simp)
-- NOT PRINTED: function 6 (turnbucklelaw11_TreePlays)
end Go.Proofs.Ythkppnkhiimaeaa.PTreePlays
