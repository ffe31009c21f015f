/- Lemmas of the claim TreePlays. -/
import Derived.Test.YthkppnkhiimaeaaTrRf0
/- The reference of layer 11 (began as a printed text, which falls). -/
namespace Go.Proofs.Ythkppnkhiimaeaa.PTreePlays
open Go.RowKit Go.Proofs.YthkppnkhiimaeaaW.PrintWords Go.Proofs.YthkppnkhiimaeaaW.PrintLast Go.Proofs.YthkppnkhiimaeaaW.PrintMore
attribute [local go_sem] fld80_0 fld80_1 fld80_2 fld80_3 fld80_4 fld80_5 max2_int min2_int max_two min_two max_three min_three max_four min_four   -- for this text's walks alone
set_option linter.unusedVariables false
set_option linter.unusedSimpArgs false
/-! ### turnbucklelaw11_leaf: function 13 -/
-- NOT PRINTED: function 63 (arena_Arena_Len)
/-! ### slices_Index_int_int: function 65 -/
/-! ### slices_Contains_int_int: function 64 -/
-- NOT PRINTED: function 50 (arena_Arena_part)
-- NOT PRINTED: function 28 (arena_Arena_Store)
-- NOT PRINTED: function 32 (arena_New)
-- NOT PRINTED: function 11 (turnbucklelaw11_fresh)
-- NOT PRINTED: function 20 (arena_Arena_Load)
-- NOT PRINTED: function 42 (tree_links_in)
-- NOT PRINTED: function 33 (tree_links_check)
-- NOT PRINTED: function 34 (tree_links_get)
-- NOT PRINTED: function 35 (tree_links_top)
-- NOT PRINTED: function 36 (tree_links_child)
-- NOT PRINTED: function 60 (arena_Arena_run)
-- NOT PRINTED: function 37 (arena_Arena_Fill)
-- NOT PRINTED: function 38 (tree_links_set)
-- NOT PRINTED: function 39 (tree_links_paint)
-- NOT PRINTED: function 40 (tree_links_join)
-- NOT PRINTED: function 43 (tree_links_up)
-- NOT PRINTED: function 44 (tree_links_red)
-- NOT PRINTED: function 61 (tree_links_side)
-- NOT PRINTED: function 45 (tree_links_place)
-- NOT PRINTED: function 62 (tree_links_turn)
-- NOT PRINTED: function 41 (tree_links_added)
-- NOT PRINTED: function 12 (tree_Add)
-- NOT PRINTED: function 14 (tree_Root)
-- NOT PRINTED: function 46 (tree_links_lowest)
-- NOT PRINTED: function 47 (tree_links_removed)
-- NOT PRINTED: function 16 (tree_Remove)
-- NOT PRINTED: function 49 (tree_number)
-- NOT PRINTED: function 19 (tree_Red)
-- NOT PRINTED: function 30 (tree_Child)
-- NOT PRINTED: function 9 (turnbucklelaw11_shown)
/-! ### turnbucklelaw11_few: function 10 -/
-- NOT PRINTED: function 17 (tree_All)
-- NOT PRINTED: function 21 (tree_First)
/-! ### turnbuckleref11_Make: function 22 -/
def turnbuckleref11_Make.l0 : Nat → List Int → Int → List (S80) → Int → Option ((List (S80)) × Int)
 | 0, _, _, _, _ => none
 | k + 1, x0, x4, x111000, x111001 => if x4 < (x0.length : Int) then (if 0 ≤ x4 then (if x111000.length < 3518437208883 then (turnbuckleref11_Make.l0 k x0 (wrap64 (x4 + 1)) (x111000 ++ [(⟨rd x0 x4, 0, 0, 0, false, false⟩ : S80)]) x111001) else (none)) else (none)) else (some (x111000, x111001))
def turnbuckleref11_Make.f (k : Nat) (l0 : List Int) : Option ((List (S80)) × Int) := turnbuckleref11_Make.l0 k l0 0 ([] : List (S80)) 0
theorem turnbuckleref11_Make.mono_l : ∀ k, (∀ y0 y1 y2 y3, LeO (turnbuckleref11_Make.l0 k y0 y1 y2 y3) (turnbuckleref11_Make.l0 (k + 1) y0 y1 y2 y3))
 | 0 => fun _ _ _ _ r h => by simp [turnbuckleref11_Make.l0] at h
 | k + 1 => by
  have ih0 := turnbuckleref11_Make.mono_l k
  ·intro y0 y1 y2 y3
   unfold turnbuckleref11_Make.l0
   repeat' first
   | (with_reducible exact ih0 _ _ _ _)
   | (with_reducible exact LeO.refl _)
   | (with_reducible exact LeO.none _)
   | (with_reducible refine LeO.ite ?_ ?_)
   | (with_reducible refine LeO.bind ?_ (fun _ => ?_))
   | exact ih0 _ _ _ _
   | exact LeO.none _
   | refine LeO.ite ?_ ?_
   | refine LeO.bind ?_ (fun _ => ?_)
theorem turnbuckleref11_Make.mono : ∀ a0 k, LeO (turnbuckleref11_Make.f k a0) (turnbuckleref11_Make.f (k + 1) a0) := by
 intro a0 k
 have ih0 := turnbuckleref11_Make.mono_l k
 unfold turnbuckleref11_Make.f
 repeat' first
  | (with_reducible exact ih0 _ _ _ _)
  | (with_reducible exact LeO.refl _)
  | (with_reducible exact LeO.none _)
  | (with_reducible refine LeO.ite ?_ ?_)
  | (with_reducible refine LeO.bind ?_ (fun _ => ?_))
  | exact ih0 _ _ _ _
  | exact LeO.none _
  | refine LeO.ite ?_ ?_
  | refine LeO.bind ?_ (fun _ => ?_)
def turnbuckleref11_Make.T5 : Bool × List (List Nat × List Nat) := (true, [([], []), ([0], [0]), ([], []), ([], []), ([2, 3], [2, 3]), ([4], [4]), ([5], [5]), ([6], [6]), ([1, 7], [1, 7]), ([0, 1, 2, 3, 4, 5, 6, 7, 8], []), ([9, 8, 8, 0, 1, 2, 3, 4, 5, 6, 7, 8], [8, 9])])
def turnbuckleref11_Make.B5 : List Nat := [0, 1, 0, 0, 12, 28, 60, 124, 255, 511, 1023]
theorem turnbuckleref11_Make.tab5 : rtab .any (opsOf Try.f22 5) = turnbuckleref11_Make.T5 := by kernel_rfl
theorem turnbuckleref11_Make.bits5 : waitsOk turnbuckleref11_Make.T5.2 turnbuckleref11_Make.B5 = true := by kernel_rfl
set_option maxHeartbeats 8000000 in
set_option maxRecDepth 100000 in
theorem turnbuckleref11_Make.calls (k : Nat) (A0 : Option Addr) (c0 : Nat) (l0 : List Int) (r1 : List (S80)) (r2 : Int) (w : World) (hr0 : Kd.C (Kd.int .u64) w A0 l0.length l0) (hc0 : l0.length ≤ c0) (h : turnbuckleref11_Make.f k l0 = some (r1, r2)) :
  Calls Try.prog 22 #[.slice A0 l0.length c0] w fun e w' => ∃ v0_ : Value, e = .returned (.agg #[v0_, .int .i64 r2]) ∧ Kd.R k80 80 w' w.heap.size (fun _ => True) v0_ r1 ∧ Below w.heap.size w w' := by
 have hu49 := Try.underlying49
 have hu80 := Try.underlying80
 have HR0 := Aside0.mk hr0
 have HC0 := Aside0.mk hc0
 clear hr0 hc0
 have HB := Aside0.mk (Below.refl w.heap.size w)
 have H : (turnbuckleref11_Make.l0 k l0 0 ([] : List (S80)) 0) = some (r1, r2) := h
 clear h
 have H' := Aside0.mk H
 clear H
 go_enter Try.func22, Try.ntmps22
 go_wp2_with (first | ((with_reducible refine gate_dst (N := 2) rfl ?_); refine box_event ?hg (N := 2) ?hd (cs := #[.slice none 0 0, .int .i64 0]) (t := 49) ?hr ?_; (case hd => rfl); (case hg => rfl); (case hr => first | (go_simp; done) | (go_simp; rfl)); intro gb109 hg w2 hbox hb; have BK109 := Aside0.mk (hbox); have GW109 := Aside0.mk ((by rw [hg]; exact (below_size HB.out) : w.heap.size ≤ gb109)); have GE109 := Aside0.mk ((by rw [hg]; exact (below_size HB.out) : w.heap.size ≤ gb109)); replace HB := Aside0.mk (below_step HB.out hb); clear hb hbox hg) | ((with_reducible refine gate_dst (N := 3) rfl ?_); refine box_event ?hg (N := 3) ?hd (cs := #[.slice none 0 0, .int .i64 0]) (t := 49) ?hr ?_; (case hd => rfl); (case hg => rfl); (case hr => first | (go_simp; done) | (go_simp; rfl)); intro gb110 hg w3 hbox hb; have BK110 := Aside0.mk (hbox); have GW110 := Aside0.mk ((by rw [hg]; exact (below_size HB.out) : w.heap.size ≤ gb110)); have GE110 := Aside0.mk ((by rw [hg]; exact (below_size HB.out) : w.heap.size ≤ gb110)); have NB109_110 := Aside0.mk ((by rw [hg]; exact Nat.ne_of_lt (blk_lt BK109.out) : gb109 ≠ gb110)); have NB110_109 := Aside0.mk ((by rw [hg]; exact Nat.ne_of_gt (blk_lt BK109.out) : gb110 ≠ gb109)); replace BK109 := Aside0.mk (blk_below BK109.out hb); replace HB := Aside0.mk (below_step HB.out hb); clear hb hbox hg; have hnb4 := NB110_109.out; have hnc4 := NB109_110.out; have hcz5_0 : w3.cell? ⟨gb110, 0, none⟩ = some (.slice none 0 0) := (blk_cell BK110.out 0).trans rfl; have hcz5_1 : w3.cell? ⟨gb110, 1, none⟩ = some (.int .i64 0) := (blk_cell BK110.out 1).trans rfl; have hfz5_0 := blk_frozen BK110.out 0; have hfz5_1 := blk_frozen BK110.out 1))
 go_loopg [4] k (fun kq v4 w' => ∃ (x4_1 : Int) (x111000_1 : List (S80)) (u111000 : Value), v4 = .int .i64 x4_1 ∧ Aside0 (turnbuckleref11_Make.l0 kq l0 x4_1 x111000_1 0 = some (r1, r2)) ∧ Aside0 (kq ≤ k) ∧ Aside0 (Kd.R k80 80 w' w.heap.size (fun _ => True) u111000 x111000_1) ∧ Aside0 (w'.heap[gb109]? = some (.cells #[(.slice none 0 0), .int .i64 0] 49 (0, 0))) ∧ Aside0 (w'.heap[gb110]? = some (.cells #[u111000, .int .i64 0] 49 (0, 0))) ∧ Aside0 (Below w.heap.size w w'))
 case atStart => exact ⟨(0), (([] : List (S80))), (.slice none 0 0), (by first | rfl | (simp; done) | (simp [*]; done)), H', ⟨Nat.le_refl _⟩, ⟨by first | exact Kd.R_nil _ _ _ _ _ | exact Kd.N_nil _ _ _ _ _ | exact Kd.V_nil _ _ _ _ _ | exact Kd.Q_nil _ _ _ _ _ | exact Kd.S_nil _ _ _ _ _⟩, ⟨by refine blk_far ?_ NB109_110.out _; refine blk_far ?_ NB109_110.out _; exact BK109.out⟩, ⟨by refine blk_put (cs := #[.slice none 0 0, .int .i64 0]) ?_ 1 _ rfl; refine blk_put (cs := #[.slice none 0 0, .int .i64 0]) ?_ 0 _ rfl; exact BK110.out⟩, ⟨by repeat (first | (with_reducible first | exact HB.out | refine below_set ?_ GE109.out | refine below_set ?_ GE110.out) | exact HB.out)⟩⟩
 case round =>
  clear H'
  try clear c2
  try clear p2
  try clear c4
  try clear hcz5_0
  try clear hcz5_1
  try clear hfz5_0
  try clear hfz5_1
  obtain ⟨x4_1, x111000_1, u111000, rfl, HA, HK1, HO_111000, BK109, BK110, HB⟩ := hrel
  cases gk with
  | zero => exact absurd HA.out (by simp [turnbuckleref11_Make.l0])
  | succ k1 =>
   have H := HA.out
   clear HA
   simp only [turnbuckleref11_Make.l0] at H
   by_cases c6 : x4_1 < (l0.length : Int)
   ·rw [if_pos c6] at H
    have c6b0 : decide (x4_1 < (l0.length : Int)) = true := decide_eq_true c6
    clear c6
    by_cases c7 : 0 ≤ x4_1
    ·rw [if_pos c7] at H
     have c7b0 : decide (0 ≤ x4_1) = true := decide_eq_true c7
     clear c7
     by_cases c8 : x111000_1.length < 3518437208883
     ·rw [if_pos c8] at H
      have LMc8 := Aside0.mk c8
      clear c8
      obtain ⟨y112, hy112⟩ : ∃ y_ : List (S80), y_ = (x111000_1 ++ [(⟨rd l0 x4_1, 0, 0, 0, false, false⟩ : S80)]) := ⟨_, rfl⟩
      replace H : (turnbuckleref11_Make.l0 k1 l0 (wrap64 (x4_1 + 1)) y112 0) = some (r1, r2) := by first | (rw [hy112]; with_reducible exact H) | (have H2_ := (Option.bind_some _ _).symm.trans H; rw [hy112]; with_reducible exact H2_) | (have H2_ := (Option.bind_some _ _).symm.trans H; with_reducible exact H2_) | with_reducible exact H | (rw [hy112]; exact H) | exact H
      have Ny112 := Aside0.mk hy112
      clear hy112
      have H' := Aside0.mk H
      clear H
      try go_wp2
      have n0_ := Aside0.mk (Kd.R_drew HO_111000.out)
      have n1_ := Aside0.mk (blk_drew BK109.out)
      have n2_ := Aside0.mk (blk_drew BK110.out)
      have n3_ := Aside0.mk (below_drew1 HB.out)
      clear HO_111000
      clear BK109
      clear BK110
      clear HB
      have HO_111000 := n0_
      have BK109 := n1_
      have BK110 := n2_
      have HB := n3_
      clear n0_ n1_ n2_ n3_
      have p111 : 0 ≤ (x4_1 : Int) := of_decide_eq_true (by first | (with_reducible assumption) | assumption)
      have q111 : x4_1 < (l0.length : Int) := of_decide_eq_true (by first | (with_reducible assumption) | assumption)
      obtain ⟨ad111, e111, hx111_0⟩ := Kd.at_int HR0.out x4_1 p111 q111
      have hw111_0 := hx111_0
      cases e111
      replace hx111_0 := (HB.out.cell (World.block_lt_of_cell? w _ hx111_0)).trans hx111_0
      replace p111 := eq_true p111
      replace q111 := eq_true q111
      refine start_ (n := 11) (S := fun w' => w'.cell? ⟨gb110, 0, none⟩ = some (u111000) ∧ w'.cell? ⟨gb110, 1, none⟩ = some (.int .i64 0) ∧ w'.cell? (ad111.add (x4_1).toNat) = some (.int .u64 (rd l0 x4_1))) (ds := [10]) #[false, false, false, false, false, false, false, false, false, false, false] (by kernel_rfl) rfl rfl ⟨(blk_cell BK110.out 0).trans rfl, (blk_cell BK110.out 1).trans rfl, ((HB.out.cell (World.block_lt_of_cell? w _ hw111_0)).trans hw111_0)⟩ (fun hHeld => ?_); refine with_tabW turnbuckleref11_Make.tab5 turnbuckleref11_Make.bits5 (fun HT_ HW_ => ?_)
      generalize wr.drew = w9 at HO_111000 BK109 BK110 HB hx111_0 hHeld ⊢
      refine pure_ (i := 0) (N := some 12) (v := ?_) (a' := ?_) #[true, false, false, false, false, false, false, false, false, false, false] rfl rfl (any_of HT_.out (by kernel_rfl)) (fun _ _ _ h => h) (Or.inl ⟨by rfl, ?_⟩) ?_ ?_
      rotate_left
      ·intro w'
       go_simp
       with_reducible rfl
      rotate_left
      ·simp only [Act.put, List.setIfInBounds_toArray, List.set_cons_zero, List.set_cons_succ, i64_w, i32_w]
       rfl
      refine pure_ (i := 2) (N := some 14) (v := ?_) (a' := ?_) #[true, false, true, false, false, false, false, false, false, false, false] rfl rfl (any_of HT_.out (by kernel_rfl)) (fun _ _ _ h => h) (Or.inl ⟨by rfl, ?_⟩) ?_ ?_
      rotate_left
      ·intro w'
       go_simp
       with_reducible rfl
      rotate_left
      ·simp only [Act.put, List.setIfInBounds_toArray, List.set_cons_zero, List.set_cons_succ, i64_w, i32_w]
       rfl
      refine pure_ (i := 3) (N := some 15) (v := ?_) (a' := ?_) #[true, false, true, true, false, false, false, false, false, false, false] rfl rfl (any_of HT_.out (by kernel_rfl)) (fun _ _ _ h => h) (Or.inl ⟨by rfl, ?_⟩) ?_ ?_
      rotate_left
      ·intro w'
       go_simp
       with_reducible rfl
      rotate_left
      ·simp only [Act.put, List.setIfInBounds_toArray, List.set_cons_zero, List.set_cons_succ, i64_w, i32_w]
       rfl
      refine pure_ (i := 4) (N := some 16) (v := ?_) (a' := ?_) #[true, false, true, true, true, false, false, false, false, false, false] rfl rfl (any_of HT_.out (by kernel_rfl)) (fun _ _ _ h => h) (Or.inl ⟨by rfl, ?_⟩) ?_ ?_
      rotate_left
      ·intro w'
       go_simp
       with_reducible rfl
      rotate_left
      ·simp only [Act.put, List.setIfInBounds_toArray, List.set_cons_zero, List.set_cons_succ, i64_w, i32_w]
       rfl
      refine take_ (i := 1) (N := some 13) (v := ?_) (a' := ?_) #[true, true, true, true, true, false, false, false, false, false, false] rfl rfl (take_ofW HT_.out HW_.out (by kernel_rfl)) (fun _ _ _ h => h) (Or.inl ⟨by rfl, ?_⟩) hHeld ?_ ?_
      rotate_left
      ·rintro w' ⟨s0, s1, s2⟩
       go_simp
       with_reducible rfl
      rotate_left
      ·simp only [Act.put, List.setIfInBounds_toArray, List.set_cons_zero, List.set_cons_succ, i64_w, i32_w]
       rfl
      refine take_ (i := 5) (N := some 17) (v := ?_) (a' := ?_) #[true, true, true, true, true, true, false, false, false, false, false] rfl rfl (take_ofW HT_.out HW_.out (by kernel_rfl)) (fun _ _ _ h => h) (Or.inl ⟨by rfl, ?_⟩) hHeld ?_ ?_
      rotate_left
      ·rintro w' ⟨s0, s1, s2⟩
       go_simp
       with_reducible rfl
      rotate_left
      ·simp only [Act.put, List.setIfInBounds_toArray, List.set_cons_zero, List.set_cons_succ, i64_w, i32_w]
       rfl
      refine pure_ (i := 6) (N := some 18) (v := ?_) (a' := ?_) #[true, true, true, true, true, true, true, false, false, false, false] rfl rfl (any_of HT_.out (by kernel_rfl)) (fun _ _ _ h => h) (Or.inl ⟨by rfl, ?_⟩) ?_ ?_
      rotate_left
      ·intro w'
       go_simp
       with_reducible rfl
      rotate_left
      ·simp only [Act.put, List.setIfInBounds_toArray, List.set_cons_zero, List.set_cons_succ, i64_w, i32_w]
       rfl
      refine one_ (i := 7) (N := some 19) #[true, true, true, true, true, true, true, true, false, false, false] rfl rfl (one_of HT_.out (by kernel_rfl)) (by decide) (fun K hK => ?_)
      refine value_ (w1 := ?_) (v := ?_) (by rfl) rfl ?_ ?_
      rotate_left 2
      ·go_simp
       constructor
       ·rfl
       ·rfl
      refine hK.out _ _ ⟨(blk_cell (blk_alloc BK110.out _) 0).trans rfl, (blk_cell (blk_alloc BK110.out _) 1).trans rfl, (World.cell?_alloc_lt _ _ _ (World.block_lt_of_cell? _ _ (((HB.out.cell (World.block_lt_of_cell? w _ hw111_0)).trans hw111_0)))).trans (((HB.out.cell (World.block_lt_of_cell? w _ hw111_0)).trans hw111_0))⟩ (fun hHeld => ?_)
      clear hK K
      refine norm_ (a' := ?_) ?_ ?_
      rotate_left
      ·show Act.put _ (some 19) _ = _
       simp only [Act.put, List.setIfInBounds_toArray, List.set_cons_zero, List.set_cons_succ, i64_w, i32_w]
       rfl
      refine one_ (i := 8) (N := some 20) #[true, true, true, true, true, true, true, true, true, false, false] rfl rfl (one_of HT_.out (by kernel_rfl)) (by decide) (fun K hK => ?_)
      refine Kd.R_append_step k80 (w0 := w) w.heap.size (by rfl) (.tmp 13) (.tmp 19) 47 80 (.agg #[(.int .u64 0), (.int .i64 0), (.int .i64 0), (.int .i64 0), (.bool false), (.bool false)]) 40 rfl Try.underlying47 info80 rfl (by decide) (by omega) u111000 x111000_1 (⟨rd l0 x4_1, 0, 0, 0, false, false⟩ : S80) [.int .u64 (rd l0 x4_1), .int .i64 0, .int .i64 0, .int .i64 0, .bool false, .bool false] (fun _ => True) (fun _ => False) rfl rfl ?aP (fun _ hk => hk.elim) ?aF ?aO ?aB ?aS ?aL ?_
      (case aP => exact k80_mkM _ _ _ (⟨rd l0 x4_1, 0, 0, 0, false, false⟩ : S80))
      (case aB => exact HB.out)
      (case aF => exact (fun _ _ => trivial))
      (case aO => exact HO_111000.out)
      (case aS => exact (below_size HB.out))
      (case aL => have := LMc8.out; omega)
      intro v113 w10 ho hb hg hat
      rw [← Ny112.out] at ho
      have n0_ := Aside0.mk (blk_grown BK109.out hg (Kd.R_ne HO_111000.out BK109.out (by decide)))
      have n1_ := Aside0.mk (blk_grown BK110.out hg (Kd.R_ne HO_111000.out BK110.out (by decide)))
      have n2_ := Aside0.mk (hb)
      have n3_ := Aside0.mk (ho)
      clear BK109
      clear BK110
      clear HB
      clear HO_111000
      have BK109 := n0_
      have BK110 := n1_
      have HB := n2_
      have HO114 := n3_
      clear n0_ n1_ n2_ n3_
      clear ho hb hg hat
      obtain ⟨Ao11, co11, eo11⟩ := Kd.R_slice HO114.out
      (first | subst eo11 | (injection eo11 with f1_ f2_ f3_; have f4_ := f1_.symm; have f5_ := f3_.symm; clear f1_ f2_ f3_; subst f4_; subst f5_))
      refine hK.out _ _ ⟨(blk_cell BK110.out 0).trans rfl, (blk_cell BK110.out 1).trans rfl, ((HB.out.cell (World.block_lt_of_cell? w _ hw111_0)).trans hw111_0)⟩ (fun hHeld => ?_)
      clear hK K
      refine norm_ (a' := ?_) ?_ ?_
      rotate_left
      ·show Act.put _ (some 20) _ = _
       simp only [Act.put, List.setIfInBounds_toArray, List.set_cons_zero, List.set_cons_succ, i64_w, i32_w]
       rfl
      refine pure_ (i := 9) (N := some 21) (v := ?_) (a' := ?_) #[true, true, true, true, true, true, true, true, true, true, false] rfl rfl (any_of HT_.out (by kernel_rfl)) (fun _ _ _ h => h) (Or.inl ⟨by rfl, ?_⟩) ?_ ?_
      rotate_left
      ·intro w'
       go_simp
       with_reducible rfl
      rotate_left
      ·simp only [Act.put, List.setIfInBounds_toArray, List.set_cons_zero, List.set_cons_succ, i64_w, i32_w]
       rfl
      refine last_ (i := 10) (N := none) #[true, true, true, true, true, true, true, true, true, true, true] rfl rfl (one_of HT_.out (by kernel_rfl)) (by decide) (fun K hK => ?_)
      have hs12 : w10.cell? ⟨gb110, 0, none⟩ = some (u111000) := (blk_cell BK110.out 0).trans rfl
      have hfs12 := blk_frozen BK110.out 0
      have hns12_0 := NB109_110.out
      have hms12_0 := NB110_109.out
      refine skip_ (w1 := ?_) (by rfl) rfl ?_ ?_
      rotate_left
      ·go_simp
       rfl
      refine hK.out _ _ ?_
      clear hK K
      refine done_ (done_of HT_.out (by kernel_rfl)) ?_
      try go_wp2
      go_roundg k1
      case measure => have := HK1.out; omega
      case rel => exact ⟨(wrap64 (x4_1 + 1)), (y112), (.slice Ao11 y112.length co11), (by first | rfl | (simp; done) | (simp [*]; done)), H', ⟨by have := HK1.out; omega⟩, ⟨by exact Kd.R_mono (Kd.R_far (p := ⟨gb110, 0, none⟩) (Kd.R_types HO114.out BK110.out (by decide)) (fun _ hk => hk.2) (.slice Ao11 y112.length co11)) (fun _ hk => trivial)⟩, ⟨by refine blk_far ?_ NB109_110.out _; exact BK109.out⟩, ⟨by refine blk_put (cs := #[u111000, .int .i64 0]) ?_ 0 _ rfl; exact BK110.out⟩, ⟨by repeat (first | (with_reducible first | exact HB.out | refine below_set ?_ GE109.out | refine below_set ?_ GE110.out) | exact HB.out)⟩⟩
     ·rw [if_neg c8] at H
      exact absurd H (by simp)
    ·rw [if_neg c7] at H
     exact absurd H (by simp)
   ·rw [if_neg c6] at H
    have c6b0 : decide (x4_1 < (l0.length : Int)) = false := decide_eq_false c6
    clear c6
    simp only [Option.some.injEq, Prod.mk.injEq] at H
    obtain ⟨rfl, rfl⟩ := H
    have hnb13 := NB110_109.out
    have hnc13 := NB109_110.out
    have hcz14_0 : wr.cell? ⟨gb110, 0, none⟩ = some (u111000) := (blk_cell BK110.out 0).trans rfl
    have hcz14_1 : wr.cell? ⟨gb110, 1, none⟩ = some (.int .i64 0) := (blk_cell BK110.out 1).trans rfl
    have hfz14_0 := blk_frozen BK110.out 0
    have hfz14_1 := blk_frozen BK110.out 1
    obtain ⟨Ao15, co15, eo15⟩ := Kd.R_slice HO_111000.out
    subst eo15
    have hcz16_0 : wr.cell? ⟨gb109, 0, none⟩ = some (.slice none 0 0) := (blk_cell BK109.out 0).trans rfl
    have hcz16_1 : wr.cell? ⟨gb109, 1, none⟩ = some (.int .i64 0) := (blk_cell BK109.out 1).trans rfl
    have hfz16_0 := blk_frozen BK109.out 0
    have hfz16_1 := blk_frozen BK109.out 1
    go_wp2
    refine bodyPost_ret (results_cell_row rfl _ _ gb109 49 #[.slice Ao15 x111000_1.length co15, .int .i64 0] (0, 0) _ rfl (by refine blk_put (cs := #[.slice Ao15 x111000_1.length co15, .int .i64 0]) ?_ 1 _ rfl; refine blk_put (cs := #[.slice none 0 0, .int .i64 0]) ?_ 0 _ rfl; exact BK109.out) Try.underlying49 rfl (by kernel_rfl)) rfl ?_
    exact ⟨_, by first | rfl | (simp [errW_none, errW_some] <;> rfl) | (simp [*, errW_none, errW_some] <;> rfl), by exact Kd.R_mono (Kd.R_far (p := ⟨gb109, 1, none⟩) (Kd.R_far (p := ⟨gb109, 0, none⟩) (Kd.R_types HO_111000.out BK109.out (by decide)) (fun _ hk => hk.2) (.slice Ao15 x111000_1.length co15)) (fun _ hk => hk.2) (.int .i64 0)) (fun _ hk => trivial), by repeat (first | (with_reducible first | exact HB.out | refine below_set ?_ GE109.out | refine below_set ?_ GE110.out) | exact HB.out)⟩
/-! ### turnbuckleref11_Of: function 51 -/
def turnbuckleref11_Of.f (l0_0 : List (S80)) (a0_1 : Int) (a1 : Int) : Option (Int × Int × Int × Int × Bool × Bool) := if a1 < 1 then (some (0, 0, 0, 0, false, false)) else (if a1 > (l0_0.length : Int) then (some (0, 0, 0, 0, false, false)) else (if 0 ≤ (wrap64 (a1 - 1)) then (if (wrap64 (a1 - 1)) < (l0_0.length : Int) then (some ((rd_T80 l0_0 (wrap64 (a1 - 1))).f0, (rd_T80 l0_0 (wrap64 (a1 - 1))).f1, (rd_T80 l0_0 (wrap64 (a1 - 1))).f2, (rd_T80 l0_0 (wrap64 (a1 - 1))).f3, (rd_T80 l0_0 (wrap64 (a1 - 1))).f4, (rd_T80 l0_0 (wrap64 (a1 - 1))).f5)) else (none)) else (none)))
set_option maxHeartbeats 8000000 in
set_option maxRecDepth 100000 in
theorem turnbuckleref11_Of.calls (A0_0 : Option Addr) (c0_0 : Nat) (l0_0 : List (S80)) (a0_1 : Int) (a1 : Int) (r1 : Int) (r2 : Int) (r3 : Int) (r4 : Int) (r5 : Bool) (r6 : Bool) (w : World) (hr0_0 : Kd.C k80 w A0_0 l0_0.length l0_0) (hc0_0 : l0_0.length ≤ c0_0) (h : turnbuckleref11_Of.f l0_0 a0_1 a1 = some (r1, r2, r3, r4, r5, r6)) :
  Calls Try.prog 51 #[.agg #[.slice A0_0 l0_0.length c0_0, .int .i64 a0_1], .int .i64 a1] w fun e w' => e = .returned (.agg #[.int .u64 r1, .int .i64 r2, .int .i64 r3, .int .i64 r4, .bool r5, .bool r6]) ∧ Below w.heap.size w w' := by
 have hu49 := Try.underlying49
 have hu80 := Try.underlying80
 have HR0_0 := Aside0.mk hr0_0
 have HC0_0 := Aside0.mk hc0_0
 clear hr0_0 hc0_0
 have HB := Aside0.mk (Below.refl w.heap.size w)
 have H : (if a1 < 1 then (some (0, 0, 0, 0, false, false)) else (if a1 > (l0_0.length : Int) then (some (0, 0, 0, 0, false, false)) else (if 0 ≤ (wrap64 (a1 - 1)) then (if (wrap64 (a1 - 1)) < (l0_0.length : Int) then (some ((rd_T80 l0_0 (wrap64 (a1 - 1))).f0, (rd_T80 l0_0 (wrap64 (a1 - 1))).f1, (rd_T80 l0_0 (wrap64 (a1 - 1))).f2, (rd_T80 l0_0 (wrap64 (a1 - 1))).f3, (rd_T80 l0_0 (wrap64 (a1 - 1))).f4, (rd_T80 l0_0 (wrap64 (a1 - 1))).f5)) else (none)) else (none)))) = some (r1, r2, r3, r4, r5, r6) := h
 clear h
 by_cases c3 : a1 < 1
 ·rw [if_pos c3] at H
  have c3b0 : decide (a1 < 1) = true := decide_eq_true c3
  clear c3
  simp only [Option.some.injEq, Prod.mk.injEq] at H
  obtain ⟨rfl, rfl, rfl, rfl, rfl, rfl⟩ := H
  go_enter Try.func51, Try.ntmps51
  go_wp2_with (first | ((with_reducible refine gate_dst (N := 2) rfl ?_); (try (refine gate_guard (by rfl) ?_; dsimp only)); refine box_event ?hg (N := 2) ?hd (cs := #[.slice A0_0 l0_0.length c0_0, .int .i64 a0_1]) (t := 49) ?hr ?_; (case hd => rfl); (case hg => rfl); (case hr => first | (go_simp; done) | (go_simp; rfl)); intro gb115 hg w4 hbox hb; have BK115 := Aside0.mk (hbox); have GW115 := Aside0.mk ((by rw [hg]; exact (below_size HB.out) : w.heap.size ≤ gb115)); have GE115 := Aside0.mk ((by rw [hg]; exact (below_size HB.out) : w.heap.size ≤ gb115)); replace HB := Aside0.mk (below_step HB.out hb); clear hb hbox hg) | ((with_reducible refine gate_dst (N := 4) rfl ?_); (try (refine gate_guard (by rfl) ?_; dsimp only)); refine box_event ?hg (N := 4) ?hd (cs := #[.int .u64 0, .int .i64 0, .int .i64 0, .int .i64 0, .bool false, .bool false]) (t := 80) ?hr ?_; (case hd => rfl); (case hg => rfl); (case hr => first | (go_simp; done) | (go_simp; rfl)); intro gb116 hg w5 hbox hb; have BK116 := Aside0.mk (hbox); have GW116 := Aside0.mk ((by rw [hg]; exact (below_size HB.out) : w.heap.size ≤ gb116)); have GE116 := Aside0.mk ((by rw [hg]; exact (below_size HB.out) : w.heap.size ≤ gb116)); have NB115_116 := Aside0.mk ((by rw [hg]; exact Nat.ne_of_lt (blk_lt BK115.out) : gb115 ≠ gb116)); have NB116_115 := Aside0.mk ((by rw [hg]; exact Nat.ne_of_gt (blk_lt BK115.out) : gb116 ≠ gb115)); replace BK115 := Aside0.mk (blk_below BK115.out hb); replace HB := Aside0.mk (below_step HB.out hb); clear hb hbox hg; have hnb6 := NB116_115.out; have hnc6 := NB115_116.out; have hcz7_0 : w5.cell? ⟨gb116, 0, none⟩ = some (.int .u64 0) := (blk_cell BK116.out 0).trans rfl; have hcz7_1 : w5.cell? ⟨gb116, 1, none⟩ = some (.int .i64 0) := (blk_cell BK116.out 1).trans rfl; have hcz7_2 : w5.cell? ⟨gb116, 2, none⟩ = some (.int .i64 0) := (blk_cell BK116.out 2).trans rfl; have hcz7_3 : w5.cell? ⟨gb116, 3, none⟩ = some (.int .i64 0) := (blk_cell BK116.out 3).trans rfl; have hcz7_4 : w5.cell? ⟨gb116, 4, none⟩ = some (.bool false) := (blk_cell BK116.out 4).trans rfl; have hcz7_5 : w5.cell? ⟨gb116, 5, none⟩ = some (.bool false) := (blk_cell BK116.out 5).trans rfl; have hfz7_0 := blk_frozen BK116.out 0; have hfz7_1 := blk_frozen BK116.out 1; have hfz7_2 := blk_frozen BK116.out 2; have hfz7_3 := blk_frozen BK116.out 3; have hfz7_4 := blk_frozen BK116.out 4; have hfz7_5 := blk_frozen BK116.out 5))
  refine bodyPost_ret (results_cell_row rfl _ _ gb116 80 #[.int .u64 0, .int .i64 0, .int .i64 0, .int .i64 0, .bool false, .bool false] (0, 0) _ rfl (by refine blk_put (cs := #[.int .u64 0, .int .i64 0, .int .i64 0, .int .i64 0, .bool false, .bool false]) ?_ 5 _ rfl; refine blk_put (cs := #[.int .u64 0, .int .i64 0, .int .i64 0, .int .i64 0, .bool false, .bool false]) ?_ 4 _ rfl; refine blk_put (cs := #[.int .u64 0, .int .i64 0, .int .i64 0, .int .i64 0, .bool false, .bool false]) ?_ 3 _ rfl; refine blk_put (cs := #[.int .u64 0, .int .i64 0, .int .i64 0, .int .i64 0, .bool false, .bool false]) ?_ 2 _ rfl; refine blk_put (cs := #[.int .u64 0, .int .i64 0, .int .i64 0, .int .i64 0, .bool false, .bool false]) ?_ 1 _ rfl; refine blk_put (cs := #[.int .u64 0, .int .i64 0, .int .i64 0, .int .i64 0, .bool false, .bool false]) ?_ 0 _ rfl; exact BK116.out) Try.underlying80 rfl (by kernel_rfl)) rfl ?_
  exact ⟨by first | rfl | (simp [errW_none, errW_some] <;> rfl) | (simp [*, errW_none, errW_some] <;> rfl), by repeat (first | (with_reducible first | exact HB.out | refine below_set ?_ GE115.out | refine below_set ?_ GE116.out) | exact HB.out)⟩
 ·rw [if_neg c3] at H
  have c3b0 : decide (a1 < 1) = false := decide_eq_false c3
  clear c3
  by_cases c8 : a1 > (l0_0.length : Int)
  ·rw [if_pos c8] at H
   have c8b0 : decide ((l0_0.length : Int) < a1) = true := decide_eq_true c8
   clear c8
   simp only [Option.some.injEq, Prod.mk.injEq] at H
   obtain ⟨rfl, rfl, rfl, rfl, rfl, rfl⟩ := H
   go_enter Try.func51, Try.ntmps51
   go_wp2_with (first | ((with_reducible refine gate_dst (N := 2) rfl ?_); (try (refine gate_guard (by rfl) ?_; dsimp only)); refine box_event ?hg (N := 2) ?hd (cs := #[.slice A0_0 l0_0.length c0_0, .int .i64 a0_1]) (t := 49) ?hr ?_; (case hd => rfl); (case hg => rfl); (case hr => first | (go_simp; done) | (go_simp; rfl)); intro gb115 hg w9 hbox hb; have BK115 := Aside0.mk (hbox); have GW115 := Aside0.mk ((by rw [hg]; exact (below_size HB.out) : w.heap.size ≤ gb115)); have GE115 := Aside0.mk ((by rw [hg]; exact (below_size HB.out) : w.heap.size ≤ gb115)); replace HB := Aside0.mk (below_step HB.out hb); clear hb hbox hg) | ((with_reducible refine gate_dst (N := 4) rfl ?_); (try (refine gate_guard (by rfl) ?_; dsimp only)); refine box_event ?hg (N := 4) ?hd (cs := #[.int .u64 0, .int .i64 0, .int .i64 0, .int .i64 0, .bool false, .bool false]) (t := 80) ?hr ?_; (case hd => rfl); (case hg => rfl); (case hr => first | (go_simp; done) | (go_simp; rfl)); intro gb116 hg w10 hbox hb; have BK116 := Aside0.mk (hbox); have GW116 := Aside0.mk ((by rw [hg]; exact (below_size HB.out) : w.heap.size ≤ gb116)); have GE116 := Aside0.mk ((by rw [hg]; exact (below_size HB.out) : w.heap.size ≤ gb116)); have NB115_116 := Aside0.mk ((by rw [hg]; exact Nat.ne_of_lt (blk_lt BK115.out) : gb115 ≠ gb116)); have NB116_115 := Aside0.mk ((by rw [hg]; exact Nat.ne_of_gt (blk_lt BK115.out) : gb116 ≠ gb115)); replace BK115 := Aside0.mk (blk_below BK115.out hb); replace HB := Aside0.mk (below_step HB.out hb); clear hb hbox hg; have hnb11 := NB115_116.out; have hnc11 := NB116_115.out; have hcz12_0 : w10.cell? ⟨gb115, 0, none⟩ = some (.slice A0_0 l0_0.length c0_0) := (blk_cell BK115.out 0).trans rfl; have hcz12_1 : w10.cell? ⟨gb115, 1, none⟩ = some (.int .i64 a0_1) := (blk_cell BK115.out 1).trans rfl; have hfz12_0 := blk_frozen BK115.out 0; have hfz12_1 := blk_frozen BK115.out 1; have hcz13_0 : w10.cell? ⟨gb116, 0, none⟩ = some (.int .u64 0) := (blk_cell BK116.out 0).trans rfl; have hcz13_1 : w10.cell? ⟨gb116, 1, none⟩ = some (.int .i64 0) := (blk_cell BK116.out 1).trans rfl; have hcz13_2 : w10.cell? ⟨gb116, 2, none⟩ = some (.int .i64 0) := (blk_cell BK116.out 2).trans rfl; have hcz13_3 : w10.cell? ⟨gb116, 3, none⟩ = some (.int .i64 0) := (blk_cell BK116.out 3).trans rfl; have hcz13_4 : w10.cell? ⟨gb116, 4, none⟩ = some (.bool false) := (blk_cell BK116.out 4).trans rfl; have hcz13_5 : w10.cell? ⟨gb116, 5, none⟩ = some (.bool false) := (blk_cell BK116.out 5).trans rfl; have hfz13_0 := blk_frozen BK116.out 0; have hfz13_1 := blk_frozen BK116.out 1; have hfz13_2 := blk_frozen BK116.out 2; have hfz13_3 := blk_frozen BK116.out 3; have hfz13_4 := blk_frozen BK116.out 4; have hfz13_5 := blk_frozen BK116.out 5))
   refine bodyPost_ret (results_cell_row rfl _ _ gb116 80 #[.int .u64 0, .int .i64 0, .int .i64 0, .int .i64 0, .bool false, .bool false] (0, 0) _ rfl (by refine blk_put (cs := #[.int .u64 0, .int .i64 0, .int .i64 0, .int .i64 0, .bool false, .bool false]) ?_ 5 _ rfl; refine blk_put (cs := #[.int .u64 0, .int .i64 0, .int .i64 0, .int .i64 0, .bool false, .bool false]) ?_ 4 _ rfl; refine blk_put (cs := #[.int .u64 0, .int .i64 0, .int .i64 0, .int .i64 0, .bool false, .bool false]) ?_ 3 _ rfl; refine blk_put (cs := #[.int .u64 0, .int .i64 0, .int .i64 0, .int .i64 0, .bool false, .bool false]) ?_ 2 _ rfl; refine blk_put (cs := #[.int .u64 0, .int .i64 0, .int .i64 0, .int .i64 0, .bool false, .bool false]) ?_ 1 _ rfl; refine blk_put (cs := #[.int .u64 0, .int .i64 0, .int .i64 0, .int .i64 0, .bool false, .bool false]) ?_ 0 _ rfl; exact BK116.out) Try.underlying80 rfl (by kernel_rfl)) rfl ?_
   exact ⟨by first | rfl | (simp [errW_none, errW_some] <;> rfl) | (simp [*, errW_none, errW_some] <;> rfl), by repeat (first | (with_reducible first | exact HB.out | refine below_set ?_ GE115.out | refine below_set ?_ GE116.out) | exact HB.out)⟩
  ·rw [if_neg c8] at H
   have c8b0 : decide ((l0_0.length : Int) < a1) = false := decide_eq_false c8
   clear c8
   obtain ⟨ji14, hji14⟩ : ∃ j_ : Int, (wrap64 (a1 - 1)) = j_ := ⟨_, rfl⟩
   replace H : (if 0 ≤ (ji14) then (if (ji14) < (l0_0.length : Int) then (some ((rd_T80 l0_0 (ji14)).f0, (rd_T80 l0_0 (ji14)).f1, (rd_T80 l0_0 (ji14)).f2, (rd_T80 l0_0 (ji14)).f3, (rd_T80 l0_0 (ji14)).f4, (rd_T80 l0_0 (ji14)).f5)) else (none)) else (none)) = some (r1, r2, r3, r4, r5, r6) := by first | (rw [hji14] at H; exact H) | (simp only [hji14] at H ⊢; exact H)
   have hji14w : (IntKind.i64.wrap (a1 - 1)) = ji14 := (i64_w _).trans hji14
   by_cases c15 : 0 ≤ (ji14)
   ·rw [if_pos c15] at H
    have c15b0 : decide (0 ≤ (ji14)) = true := decide_eq_true c15
    clear c15
    by_cases c16 : (ji14) < (l0_0.length : Int)
    ·rw [if_pos c16] at H
     have c16b0 : decide ((ji14) < (l0_0.length : Int)) = true := decide_eq_true c16
     clear c16
     simp only [Option.some.injEq, Prod.mk.injEq] at H
     obtain ⟨rfl, rfl, rfl, rfl, rfl, rfl⟩ := H
     go_enter Try.func51, Try.ntmps51
     go_wp2_with (first | ((with_reducible refine gate_dst (N := 2) rfl ?_); (try (refine gate_guard (by rfl) ?_; dsimp only)); refine box_event ?hg (N := 2) ?hd (cs := #[.slice A0_0 l0_0.length c0_0, .int .i64 a0_1]) (t := 49) ?hr ?_; (case hd => rfl); (case hg => rfl); (case hr => first | (go_simp; done) | (go_simp; rfl)); intro gb115 hg w17 hbox hb; have BK115 := Aside0.mk (hbox); have GW115 := Aside0.mk ((by rw [hg]; exact (below_size HB.out) : w.heap.size ≤ gb115)); have GE115 := Aside0.mk ((by rw [hg]; exact (below_size HB.out) : w.heap.size ≤ gb115)); replace HB := Aside0.mk (below_step HB.out hb); clear hb hbox hg) | ((with_reducible refine gate_dst (N := 4) rfl ?_); (try (refine gate_guard (by rfl) ?_; dsimp only)); refine box_event ?hg (N := 4) ?hd (cs := #[.int .u64 0, .int .i64 0, .int .i64 0, .int .i64 0, .bool false, .bool false]) (t := 80) ?hr ?_; (case hd => rfl); (case hg => rfl); (case hr => first | (go_simp; done) | (go_simp; rfl)); intro gb116 hg w18 hbox hb; have BK116 := Aside0.mk (hbox); have GW116 := Aside0.mk ((by rw [hg]; exact (below_size HB.out) : w.heap.size ≤ gb116)); have GE116 := Aside0.mk ((by rw [hg]; exact (below_size HB.out) : w.heap.size ≤ gb116)); have NB115_116 := Aside0.mk ((by rw [hg]; exact Nat.ne_of_lt (blk_lt BK115.out) : gb115 ≠ gb116)); have NB116_115 := Aside0.mk ((by rw [hg]; exact Nat.ne_of_gt (blk_lt BK115.out) : gb116 ≠ gb115)); replace BK115 := Aside0.mk (blk_below BK115.out hb); replace HB := Aside0.mk (below_step HB.out hb); clear hb hbox hg; have hnb19 := NB115_116.out; have hnc19 := NB116_115.out; have hcz20_0 : w18.cell? ⟨gb115, 0, none⟩ = some (.slice A0_0 l0_0.length c0_0) := (blk_cell BK115.out 0).trans rfl; have hcz20_1 : w18.cell? ⟨gb115, 1, none⟩ = some (.int .i64 a0_1) := (blk_cell BK115.out 1).trans rfl; have hfz20_0 := blk_frozen BK115.out 0; have hfz20_1 := blk_frozen BK115.out 1; have p117 : 0 ≤ ((ji14) : Int) := of_decide_eq_true (by first | (with_reducible assumption) | assumption); have q117 : (ji14) < (l0_0.length : Int) := of_decide_eq_true (by first | (with_reducible assumption) | assumption); obtain ⟨ad117, e117, hx117_0, hx117_1, hx117_2, hx117_3, hx117_4, hx117_5⟩ := at_T80 HR0_0.out (ji14) p117 q117; cases e117; replace hx117_0 := (HB.out.cell (World.block_lt_of_cell? w _ hx117_0)).trans hx117_0; replace hx117_1 := (HB.out.cell (World.block_lt_of_cell? w _ hx117_1)).trans hx117_1; replace hx117_2 := (HB.out.cell (World.block_lt_of_cell? w _ hx117_2)).trans hx117_2; replace hx117_3 := (HB.out.cell (World.block_lt_of_cell? w _ hx117_3)).trans hx117_3; replace hx117_4 := (HB.out.cell (World.block_lt_of_cell? w _ hx117_4)).trans hx117_4; replace hx117_5 := (HB.out.cell (World.block_lt_of_cell? w _ hx117_5)).trans hx117_5; replace p117 := eq_true p117; replace q117 := eq_true q117; have hcz21_0 : w18.cell? ⟨gb116, 0, none⟩ = some (.int .u64 0) := (blk_cell BK116.out 0).trans rfl; have hcz21_1 : w18.cell? ⟨gb116, 1, none⟩ = some (.int .i64 0) := (blk_cell BK116.out 1).trans rfl; have hcz21_2 : w18.cell? ⟨gb116, 2, none⟩ = some (.int .i64 0) := (blk_cell BK116.out 2).trans rfl; have hcz21_3 : w18.cell? ⟨gb116, 3, none⟩ = some (.int .i64 0) := (blk_cell BK116.out 3).trans rfl; have hcz21_4 : w18.cell? ⟨gb116, 4, none⟩ = some (.bool false) := (blk_cell BK116.out 4).trans rfl; have hcz21_5 : w18.cell? ⟨gb116, 5, none⟩ = some (.bool false) := (blk_cell BK116.out 5).trans rfl; have hfz21_0 := blk_frozen BK116.out 0; have hfz21_1 := blk_frozen BK116.out 1; have hfz21_2 := blk_frozen BK116.out 2; have hfz21_3 := blk_frozen BK116.out 3; have hfz21_4 := blk_frozen BK116.out 4; have hfz21_5 := blk_frozen BK116.out 5))
     refine bodyPost_ret (results_cell_row rfl _ _ gb116 80 #[.int .u64 ((rd_T80 l0_0 (ji14)).f0), .int .i64 ((rd_T80 l0_0 (ji14)).f1), .int .i64 ((rd_T80 l0_0 (ji14)).f2), .int .i64 ((rd_T80 l0_0 (ji14)).f3), .bool ((rd_T80 l0_0 (ji14)).f4), .bool ((rd_T80 l0_0 (ji14)).f5)] (0, 0) _ rfl (by refine blk_put (cs := #[.int .u64 ((rd_T80 l0_0 (ji14)).f0), .int .i64 ((rd_T80 l0_0 (ji14)).f1), .int .i64 ((rd_T80 l0_0 (ji14)).f2), .int .i64 ((rd_T80 l0_0 (ji14)).f3), .bool ((rd_T80 l0_0 (ji14)).f4), .bool false]) ?_ 5 _ rfl; refine blk_put (cs := #[.int .u64 ((rd_T80 l0_0 (ji14)).f0), .int .i64 ((rd_T80 l0_0 (ji14)).f1), .int .i64 ((rd_T80 l0_0 (ji14)).f2), .int .i64 ((rd_T80 l0_0 (ji14)).f3), .bool false, .bool false]) ?_ 4 _ rfl; refine blk_put (cs := #[.int .u64 ((rd_T80 l0_0 (ji14)).f0), .int .i64 ((rd_T80 l0_0 (ji14)).f1), .int .i64 ((rd_T80 l0_0 (ji14)).f2), .int .i64 0, .bool false, .bool false]) ?_ 3 _ rfl; refine blk_put (cs := #[.int .u64 ((rd_T80 l0_0 (ji14)).f0), .int .i64 ((rd_T80 l0_0 (ji14)).f1), .int .i64 0, .int .i64 0, .bool false, .bool false]) ?_ 2 _ rfl; refine blk_put (cs := #[.int .u64 ((rd_T80 l0_0 (ji14)).f0), .int .i64 0, .int .i64 0, .int .i64 0, .bool false, .bool false]) ?_ 1 _ rfl; refine blk_put (cs := #[.int .u64 0, .int .i64 0, .int .i64 0, .int .i64 0, .bool false, .bool false]) ?_ 0 _ rfl; exact BK116.out) Try.underlying80 rfl (by kernel_rfl)) rfl ?_
     exact ⟨by first | rfl | (simp [errW_none, errW_some] <;> rfl) | (simp only [← hji14]; first | rfl | (simp [errW_none, errW_some] <;> rfl)) | (simp [*, errW_none, errW_some] <;> rfl), by repeat (first | (with_reducible first | exact HB.out | refine below_set ?_ GE115.out | refine below_set ?_ GE116.out) | exact HB.out)⟩
    ·rw [if_neg c16] at H
     exact absurd H (by simp)
   ·rw [if_neg c15] at H
    exact absurd H (by simp)
/-! ### turnbuckleref11_Lowest: function 26 -/
def turnbuckleref11_Lowest.l0 : Nat → Int → List (S80) → Int → Option (Int)
 | 0, _, _, _ => none
 | k + 1, x1, x119000, x119001 => (turnbuckleref11_Of.f x119000 x119001 x1).bind fun bt119 => (if bt119.2.1 = 0 then (some x1) else ((turnbuckleref11_Of.f x119000 x119001 x1).bind fun bt125 => (turnbuckleref11_Lowest.l0 k bt125.2.1 x119000 x119001)))
def turnbuckleref11_Lowest.f (k : Nat) (l0_0 : List (S80)) (a0_1 : Int) (a1 : Int) : Option (Int) := turnbuckleref11_Lowest.l0 k a1 l0_0 a0_1
theorem turnbuckleref11_Lowest.mono_l : ∀ k, (∀ y0 y1 y2, LeO (turnbuckleref11_Lowest.l0 k y0 y1 y2) (turnbuckleref11_Lowest.l0 (k + 1) y0 y1 y2))
 | 0 => fun _ _ _ r h => by simp [turnbuckleref11_Lowest.l0] at h
 | k + 1 => by
  have ih0 := turnbuckleref11_Lowest.mono_l k
  ·intro y0 y1 y2
   unfold turnbuckleref11_Lowest.l0
   repeat' first
   | (with_reducible exact ih0 _ _ _)
   | (with_reducible exact LeO.refl _)
   | (with_reducible exact LeO.none _)
   | (with_reducible refine LeO.ite ?_ ?_)
   | (with_reducible refine LeO.bind ?_ (fun _ => ?_))
   | exact ih0 _ _ _
   | exact LeO.none _
   | refine LeO.ite ?_ ?_
   | refine LeO.bind ?_ (fun _ => ?_)
theorem turnbuckleref11_Lowest.mono : ∀ a0 a1 a2 k, LeO (turnbuckleref11_Lowest.f k a0 a1 a2) (turnbuckleref11_Lowest.f (k + 1) a0 a1 a2) := by
 intro a0 a1 a2 k
 have ih0 := turnbuckleref11_Lowest.mono_l k
 unfold turnbuckleref11_Lowest.f
 repeat' first
  | (with_reducible exact ih0 _ _ _)
  | (with_reducible exact LeO.refl _)
  | (with_reducible exact LeO.none _)
  | (with_reducible refine LeO.ite ?_ ?_)
  | (with_reducible refine LeO.bind ?_ (fun _ => ?_))
  | exact ih0 _ _ _
  | exact LeO.none _
  | refine LeO.ite ?_ ?_
  | refine LeO.bind ?_ (fun _ => ?_)
set_option maxHeartbeats 8000000 in
set_option maxRecDepth 100000 in
theorem turnbuckleref11_Lowest.calls (k : Nat) (A0_0 : Option Addr) (c0_0 : Nat) (l0_0 : List (S80)) (a0_1 : Int) (a1 : Int) (r : Int) (w : World) (hr0_0 : Kd.C k80 w A0_0 l0_0.length l0_0) (hc0_0 : l0_0.length ≤ c0_0) (h : turnbuckleref11_Lowest.f k l0_0 a0_1 a1 = some r) :
  Calls Try.prog 26 #[.agg #[.slice A0_0 l0_0.length c0_0, .int .i64 a0_1], .int .i64 a1] w fun e w' => e = .returned (.int .i64 r) ∧ Below w.heap.size w w' := by
 have hu49 := Try.underlying49
 have HR0_0 := Aside0.mk hr0_0
 have HC0_0 := Aside0.mk hc0_0
 clear hr0_0 hc0_0
 have HB := Aside0.mk (Below.refl w.heap.size w)
 have H : (turnbuckleref11_Lowest.l0 k a1 l0_0 a0_1) = some r := h
 clear h
 have H' := Aside0.mk H
 clear H
 go_enter Try.func26, Try.ntmps26
 go_wp2_with (first | ((with_reducible refine gate_dst (N := 2) rfl ?_); refine box_event ?hg (N := 2) ?hd (cs := #[.slice A0_0 l0_0.length c0_0, .int .i64 a0_1]) (t := 49) ?hr ?_; (case hd => rfl); (case hg => rfl); (case hr => first | (go_simp; done) | (go_simp; rfl)); intro gb118 hg w3 hbox hb; have BK118 := Aside0.mk (hbox); have GW118 := Aside0.mk ((by rw [hg]; exact (below_size HB.out) : w.heap.size ≤ gb118)); have GE118 := Aside0.mk ((by rw [hg]; exact (below_size HB.out) : w.heap.size ≤ gb118)); replace HB := Aside0.mk (below_step HB.out hb); clear hb hbox hg))
 go_loopg [1] k (fun kq v1 w' => ∃ (x1_1 : Int), v1 = .int .i64 x1_1 ∧ Aside0 (turnbuckleref11_Lowest.l0 kq x1_1 l0_0 a0_1 = some r) ∧ Aside0 (kq ≤ k) ∧ Aside0 (w'.heap[gb118]? = some (.cells #[(.slice A0_0 l0_0.length c0_0), .int .i64 a0_1] 49 (0, 0))) ∧ Aside0 (Below w.heap.size w w'))
 case atStart => exact ⟨(a1), (by first | rfl | (simp; done) | (simp [*]; done)), H', ⟨Nat.le_refl _⟩, ⟨by exact BK118.out⟩, ⟨by repeat (first | (with_reducible first | exact HB.out | refine below_set ?_ GE118.out) | exact HB.out)⟩⟩
 case round =>
  clear H'
  try clear c2
  try clear p2
  obtain ⟨x1_1, rfl, HA, HK1, BK118, HB⟩ := hrel
  cases gk with
  | zero => exact absurd HA.out (by simp [turnbuckleref11_Lowest.l0])
  | succ k1 =>
   have H := HA.out
   clear HA
   simp only [turnbuckleref11_Lowest.l0] at H
   replace H := Option.bind_eq_some_iff.mp H
   obtain ⟨⟨t119, t120, t121, t122, t123, t124⟩, A40, H⟩ := H
   replace H : (if t120 = 0 then (some x1_1) else ((turnbuckleref11_Of.f l0_0 a0_1 x1_1).bind fun bt125 => (turnbuckleref11_Lowest.l0 k1 bt125.2.1 l0_0 a0_1))) = some r := H
   have A4 := Aside0.mk A40
   clear A40
   by_cases c5 : t120 = 0
   ·rw [if_pos c5] at H
    have c5b0 : (t120 == 0) = true := beq_iff_eq.mpr c5
    have c5b1 : (t120 != 0) = false := bne_eq_false_iff_eq.mpr c5
    clear c5
    obtain rfl := Option.some.inj H
    have hcz6_0 : wr.cell? ⟨gb118, 0, none⟩ = some (.slice A0_0 l0_0.length c0_0) := (blk_cell BK118.out 0).trans rfl
    have hcz6_1 : wr.cell? ⟨gb118, 1, none⟩ = some (.int .i64 a0_1) := (blk_cell BK118.out 1).trans rfl
    have hfz6_0 := blk_frozen BK118.out 0
    have hfz6_1 := blk_frozen BK118.out 1
    go_wp2_with (first | ((with_reducible refine gate_callee (f := 51) rfl ?_); refine goesL_ (some 7) rfl rfl Try.func51 (by kernel_rfl) rfl #[.agg #[.slice A0_0 l0_0.length c0_0, .int .i64 a0_1], .int .i64 x1_1] rfl (by (try simp only [List.map_toArray, List.map_cons, List.map_nil]); try rfl) ?_; (with_reducible refine (turnbuckleref11_Of.calls _ _ l0_0 a0_1 x1_1 t119 t120 t121 t122 t123 t124 _ ?side1 ?side2 A4.out).mono ?_); (case side1 => repeat (first | exact (Kd.C_below HR0_0.out HB.out) | (with_reducible refine Kd.C_alloc ?_ _) | (with_reducible refine Kd.C_drewN ?_ _) | (with_reducible refine Kd.C_drew ?_))); (case side2 => exact HC0_0.out); rintro e w7 ⟨rfl, hb⟩; refine ⟨_, rfl, ?_⟩; replace BK118 := Aside0.mk (blk_below BK118.out hb); replace HB := Aside0.mk (below_step HB.out hb); (try clear hb); (try clear hb2); (try clear hk); (try clear hi)))
    go_ret
    exact ⟨by first | rfl | (simp [errW_none, errW_some] <;> rfl) | (simp [*, errW_none, errW_some] <;> rfl), by repeat (first | (with_reducible first | exact HB.out | refine below_set ?_ GE118.out) | exact HB.out)⟩
   ·rw [if_neg c5] at H
    have c5b0 : (t120 == 0) = false := beq_eq_false_iff_ne.mpr c5
    have c5b1 : (t120 != 0) = true := bne_iff_ne.mpr c5
    replace H := Option.bind_eq_some_iff.mp H
    obtain ⟨⟨t125, t126, t127, t128, t129, t130⟩, A80, H⟩ := H
    replace H : (turnbuckleref11_Lowest.l0 k1 t126 l0_0 a0_1) = some r := H
    have A8 := Aside0.mk A80
    clear A80
    have H' := Aside0.mk H
    clear H
    have hcz9_0 : wr.cell? ⟨gb118, 0, none⟩ = some (.slice A0_0 l0_0.length c0_0) := (blk_cell BK118.out 0).trans rfl
    have hcz9_1 : wr.cell? ⟨gb118, 1, none⟩ = some (.int .i64 a0_1) := (blk_cell BK118.out 1).trans rfl
    have hfz9_0 := blk_frozen BK118.out 0
    have hfz9_1 := blk_frozen BK118.out 1
    go_wp2_with (first | ((with_reducible refine gate_callee (f := 51) rfl ?_); refine goesL_ (some 7) rfl rfl Try.func51 (by kernel_rfl) rfl #[.agg #[.slice A0_0 l0_0.length c0_0, .int .i64 a0_1], .int .i64 x1_1] rfl (by (try simp only [List.map_toArray, List.map_cons, List.map_nil]); try rfl) ?_; (with_reducible refine (turnbuckleref11_Of.calls _ _ l0_0 a0_1 x1_1 t119 t120 t121 t122 t123 t124 _ ?side1 ?side2 A4.out).mono ?_); (case side1 => repeat (first | exact (Kd.C_below HR0_0.out HB.out) | (with_reducible refine Kd.C_alloc ?_ _) | (with_reducible refine Kd.C_drewN ?_ _) | (with_reducible refine Kd.C_drew ?_))); (case side2 => exact HC0_0.out); rintro e w10 ⟨rfl, hb⟩; refine ⟨_, rfl, ?_⟩; replace BK118 := Aside0.mk (blk_below BK118.out hb); replace HB := Aside0.mk (below_step HB.out hb); (try clear hb); (try clear hb2); (try clear hk); (try clear hi); have hcz11_0 : w10.cell? ⟨gb118, 0, none⟩ = some (.slice A0_0 l0_0.length c0_0) := (blk_cell BK118.out 0).trans rfl; have hcz11_1 : w10.cell? ⟨gb118, 1, none⟩ = some (.int .i64 a0_1) := (blk_cell BK118.out 1).trans rfl; have hfz11_0 := blk_frozen BK118.out 0; have hfz11_1 := blk_frozen BK118.out 1) | ((with_reducible refine gate_callee (f := 51) rfl ?_); refine goesL_ (some 12) rfl rfl Try.func51 (by kernel_rfl) rfl #[.agg #[.slice A0_0 l0_0.length c0_0, .int .i64 a0_1], .int .i64 x1_1] rfl (by (try simp only [List.map_toArray, List.map_cons, List.map_nil]); try rfl) ?_; (with_reducible refine (turnbuckleref11_Of.calls _ _ l0_0 a0_1 x1_1 t125 t126 t127 t128 t129 t130 _ ?side1 ?side2 A8.out).mono ?_); (case side1 => repeat (first | exact (Kd.C_below HR0_0.out HB.out) | (with_reducible refine Kd.C_alloc ?_ _) | (with_reducible refine Kd.C_drewN ?_ _) | (with_reducible refine Kd.C_drew ?_))); (case side2 => exact HC0_0.out); rintro e w12 ⟨rfl, hb⟩; refine ⟨_, rfl, ?_⟩; replace BK118 := Aside0.mk (blk_below BK118.out hb); replace HB := Aside0.mk (below_step HB.out hb); (try clear hb); (try clear hb2); (try clear hk); (try clear hi)))
    go_roundg k1
    case measure => have := HK1.out; omega
    case rel => exact ⟨(t126), (by first | rfl | (simp; done) | (simp [*]; done)), H', ⟨by have := HK1.out; omega⟩, ⟨by exact BK118.out⟩, ⟨by repeat (first | (with_reducible first | exact HB.out | refine below_set ?_ GE118.out) | exact HB.out)⟩⟩
/-! ### turnbuckleref11_With: function 55 -/
def turnbuckleref11_With.f (l0_0 : List (S80)) (a0_1 : Int) (a1 : Int) (a2_0 : Int) (a2_1 : Int) (a2_2 : Int) (a2_3 : Int) (a2_4 : Bool) (a2_5 : Bool) : Option ((List (S80)) × Int) := if a1 < 1 then (some (l0_0, a0_1)) else (if a1 > (l0_0.length : Int) then (some (l0_0, a0_1)) else ((some (([] : List (S80)) : List (S80))).bind fun y134 => (if y134.length + l0_0.length < 3518437208883 then ((some (y134 ++ l0_0 : List (S80))).bind fun y137 => (if 0 ≤ (wrap64 (a1 - 1)) then (if (wrap64 (a1 - 1)) < (y137.length : Int) then (some ((y137.set ((wrap64 (a1 - 1)) : Int).toNat (⟨a2_0, a2_1, a2_2, a2_3, a2_4, a2_5⟩ : S80)), a0_1)) else (none)) else (none))) else (none))))
set_option maxHeartbeats 8000000 in
set_option maxRecDepth 100000 in
theorem turnbuckleref11_With.calls (P0_0_ : Nat → Prop) (u9000_ : Value) (l0_0 : List (S80)) (a0_1 : Int) (a1 : Int) (a2_0 : Int) (a2_1 : Int) (a2_2 : Int) (a2_3 : Int) (a2_4 : Bool) (a2_5 : Bool) (r1 : List (S80)) (r2 : Int) (w0 w : World) (hB : Below w0.heap.size w0 w) (ho0_0 : Kd.R k80 80 w w0.heap.size P0_0_ u9000_ l0_0) (h : turnbuckleref11_With.f l0_0 a0_1 a1 a2_0 a2_1 a2_2 a2_3 a2_4 a2_5 = some (r1, r2)) :
  Calls Try.prog 55 #[.agg #[u9000_, .int .i64 a0_1], .int .i64 a1, .agg #[.int .u64 a2_0, .int .i64 a2_1, .int .i64 a2_2, .int .i64 a2_3, .bool a2_4, .bool a2_5]] w fun e w' => ∃ v0_ : Value, e = .returned (.agg #[v0_, .int .i64 r2]) ∧ Kd.R k80 80 w' w0.heap.size (fun k_ => (P0_0_ k_ ∨ w.heap.size ≤ k_)) v0_ r1 ∧ Below w0.heap.size w0 w' ∧ Kept w w' (fun k_ => P0_0_ k_) := by
 have hu49 := Try.underlying49
 have hu80 := Try.underlying80
 have HO0_0 := Aside0.mk (show Kd.R k80 80 w w0.heap.size (fun k_ => (P0_0_ k_ ∨ w.heap.size ≤ k_)) u9000_ l0_0 from Kd.R_mono ho0_0 (fun k_ hk => (.inl hk)))
 have HK := Aside0.mk (Kept.refl w (fun k_ => P0_0_ k_))
 have HW0 := Aside0.mk hB.size
 have HB := Aside0.mk hB
 clear hB
 have H : (if a1 < 1 then (some (l0_0, a0_1)) else (if a1 > (l0_0.length : Int) then (some (l0_0, a0_1)) else ((some (([] : List (S80)) : List (S80))).bind fun y134 => (if y134.length + l0_0.length < 3518437208883 then ((some (y134 ++ l0_0 : List (S80))).bind fun y137 => (if 0 ≤ (wrap64 (a1 - 1)) then (if (wrap64 (a1 - 1)) < (y137.length : Int) then (some ((y137.set ((wrap64 (a1 - 1)) : Int).toNat (⟨a2_0, a2_1, a2_2, a2_3, a2_4, a2_5⟩ : S80)), a0_1)) else (none)) else (none))) else (none))))) = some (r1, r2) := h
 clear h
 by_cases c4 : a1 < 1
 ·rw [if_pos c4] at H
  have c4b0 : decide (a1 < 1) = true := decide_eq_true c4
  clear c4
  simp only [Option.some.injEq, Prod.mk.injEq] at H
  obtain ⟨rfl, rfl⟩ := H
  obtain ⟨Ao5, co5, eo5⟩ := Kd.R_slice HO0_0.out
  subst eo5
  go_enter Try.func55, Try.ntmps55
  go_wp2_with (first | ((with_reducible refine gate_dst (N := 3) rfl ?_); (try (refine gate_guard (by rfl) ?_; dsimp only)); refine box_event ?hg (N := 3) ?hd (cs := #[.slice Ao5 l0_0.length co5, .int .i64 a0_1]) (t := 49) ?hr ?_; (case hd => rfl); (case hg => rfl); (case hr => first | (go_simp; done) | (go_simp; rfl)); intro gb131 hg w6 hbox hb; have BK131 := Aside0.mk (hbox); have GW131 := Aside0.mk ((by rw [hg]; exact HK.out.1 : w.heap.size ≤ gb131)); have GE131 := Aside0.mk ((by rw [hg]; exact (below_size HB.out) : w0.heap.size ≤ gb131)); replace HO0_0 := Aside0.mk (Kd.R_below HO0_0.out hb); replace HK := Aside0.mk (Kept.below (S := (fun k_ => P0_0_ k_)) HK.out hb); replace HB := Aside0.mk (below_step HB.out hb); clear hb hbox hg) | ((with_reducible refine gate_dst (N := 5) rfl ?_); (try (refine gate_guard (by rfl) ?_; dsimp only)); refine box_event ?hg (N := 5) ?hd (cs := #[.int .u64 a2_0, .int .i64 a2_1, .int .i64 a2_2, .int .i64 a2_3, .bool a2_4, .bool a2_5]) (t := 80) ?hr ?_; (case hd => rfl); (case hg => rfl); (case hr => first | (go_simp; done) | (go_simp; rfl)); intro gb132 hg w7 hbox hb; have BK132 := Aside0.mk (hbox); have GW132 := Aside0.mk ((by rw [hg]; exact HK.out.1 : w.heap.size ≤ gb132)); have GE132 := Aside0.mk ((by rw [hg]; exact (below_size HB.out) : w0.heap.size ≤ gb132)); have NB131_132 := Aside0.mk ((by rw [hg]; exact Nat.ne_of_lt (blk_lt BK131.out) : gb131 ≠ gb132)); have NB132_131 := Aside0.mk ((by rw [hg]; exact Nat.ne_of_gt (blk_lt BK131.out) : gb132 ≠ gb131)); replace HO0_0 := Aside0.mk (Kd.R_below (Kd.R_elderB HO0_0.out gb132 (Nat.le_of_eq hg.symm)) hb); replace BK131 := Aside0.mk (blk_below BK131.out hb); replace HK := Aside0.mk (Kept.below (S := (fun k_ => P0_0_ k_)) HK.out hb); replace HB := Aside0.mk (below_step HB.out hb); clear hb hbox hg) | ((with_reducible refine gate_dst (N := 6) rfl ?_); (try (refine gate_guard (by rfl) ?_; dsimp only)); refine box_event ?hg (N := 6) ?hd (cs := #[.slice none 0 0, .int .i64 0]) (t := 49) ?hr ?_; (case hd => rfl); (case hg => rfl); (case hr => first | (go_simp; done) | (go_simp; rfl)); intro gb133 hg w8 hbox hb; have BK133 := Aside0.mk (hbox); have GW133 := Aside0.mk ((by rw [hg]; exact HK.out.1 : w.heap.size ≤ gb133)); have GE133 := Aside0.mk ((by rw [hg]; exact (below_size HB.out) : w0.heap.size ≤ gb133)); have NB131_133 := Aside0.mk ((by rw [hg]; exact Nat.ne_of_lt (blk_lt BK131.out) : gb131 ≠ gb133)); have NB133_131 := Aside0.mk ((by rw [hg]; exact Nat.ne_of_gt (blk_lt BK131.out) : gb133 ≠ gb131)); have NB132_133 := Aside0.mk ((by rw [hg]; exact Nat.ne_of_lt (blk_lt BK132.out) : gb132 ≠ gb133)); have NB133_132 := Aside0.mk ((by rw [hg]; exact Nat.ne_of_gt (blk_lt BK132.out) : gb133 ≠ gb132)); replace HO0_0 := Aside0.mk (Kd.R_below HO0_0.out hb); replace BK131 := Aside0.mk (blk_below BK131.out hb); replace BK132 := Aside0.mk (blk_below BK132.out hb); replace HK := Aside0.mk (Kept.below (S := (fun k_ => P0_0_ k_)) HK.out hb); replace HB := Aside0.mk (below_step HB.out hb); clear hb hbox hg; have hnb9 := NB131_132.out; have hnc9 := NB132_131.out; have hnb10 := NB131_133.out; have hnc10 := NB133_131.out; have hcz11_0 : w8.cell? ⟨gb131, 0, none⟩ = some (.slice Ao5 l0_0.length co5) := (blk_cell BK131.out 0).trans rfl; have hcz11_1 : w8.cell? ⟨gb131, 1, none⟩ = some (.int .i64 a0_1) := (blk_cell BK131.out 1).trans rfl; have hfz11_0 := blk_frozen BK131.out 0; have hfz11_1 := blk_frozen BK131.out 1; have hnb12 := NB133_132.out; have hnc12 := NB132_133.out; have hcz13_0 : w8.cell? ⟨gb133, 0, none⟩ = some (.slice none 0 0) := (blk_cell BK133.out 0).trans rfl; have hcz13_1 : w8.cell? ⟨gb133, 1, none⟩ = some (.int .i64 0) := (blk_cell BK133.out 1).trans rfl; have hfz13_0 := blk_frozen BK133.out 0; have hfz13_1 := blk_frozen BK133.out 1))
  refine bodyPost_ret (results_cell_row rfl _ _ gb133 49 #[.slice Ao5 l0_0.length co5, .int .i64 a0_1] (0, 0) _ rfl (by refine blk_put (cs := #[.slice Ao5 l0_0.length co5, .int .i64 0]) ?_ 1 _ rfl; refine blk_put (cs := #[.slice none 0 0, .int .i64 0]) ?_ 0 _ rfl; exact BK133.out) Try.underlying49 rfl (by kernel_rfl)) rfl ?_
  exact ⟨_, by first | rfl | (simp [errW_none, errW_some] <;> rfl) | (simp [*, errW_none, errW_some] <;> rfl), by exact Kd.R_mono (Kd.R_far (p := ⟨gb133, 1, none⟩) (Kd.R_far (p := ⟨gb133, 0, none⟩) (Kd.R_types HO0_0.out BK133.out (by decide)) (fun _ hk => hk.2) (.slice Ao5 l0_0.length co5)) (fun _ hk => hk.2) (.int .i64 a0_1)) (fun _ hk => hk.1.1), by repeat (first | (with_reducible first | exact HB.out | refine below_set ?_ GE131.out | refine below_set ?_ GE132.out | refine below_set ?_ GE133.out) | exact HB.out), by repeat (first | (with_reducible first | exact HK.out | refine Kept.setCell ?_ (.inr GW131.out) _ | refine Kept.setCell ?_ (.inr GW132.out) _ | refine Kept.setCell ?_ (.inr GW133.out) _) | exact HK.out)⟩
 ·rw [if_neg c4] at H
  have c4b0 : decide (a1 < 1) = false := decide_eq_false c4
  clear c4
  by_cases c14 : a1 > (l0_0.length : Int)
  ·rw [if_pos c14] at H
   have c14b0 : decide ((l0_0.length : Int) < a1) = true := decide_eq_true c14
   clear c14
   simp only [Option.some.injEq, Prod.mk.injEq] at H
   obtain ⟨rfl, rfl⟩ := H
   obtain ⟨Ao15, co15, eo15⟩ := Kd.R_slice HO0_0.out
   subst eo15
   go_enter Try.func55, Try.ntmps55
   go_wp2_with (first | ((with_reducible refine gate_dst (N := 3) rfl ?_); (try (refine gate_guard (by rfl) ?_; dsimp only)); refine box_event ?hg (N := 3) ?hd (cs := #[.slice Ao15 l0_0.length co15, .int .i64 a0_1]) (t := 49) ?hr ?_; (case hd => rfl); (case hg => rfl); (case hr => first | (go_simp; done) | (go_simp; rfl)); intro gb131 hg w16 hbox hb; have BK131 := Aside0.mk (hbox); have GW131 := Aside0.mk ((by rw [hg]; exact HK.out.1 : w.heap.size ≤ gb131)); have GE131 := Aside0.mk ((by rw [hg]; exact (below_size HB.out) : w0.heap.size ≤ gb131)); replace HO0_0 := Aside0.mk (Kd.R_below HO0_0.out hb); replace HK := Aside0.mk (Kept.below (S := (fun k_ => P0_0_ k_)) HK.out hb); replace HB := Aside0.mk (below_step HB.out hb); clear hb hbox hg) | ((with_reducible refine gate_dst (N := 5) rfl ?_); (try (refine gate_guard (by rfl) ?_; dsimp only)); refine box_event ?hg (N := 5) ?hd (cs := #[.int .u64 a2_0, .int .i64 a2_1, .int .i64 a2_2, .int .i64 a2_3, .bool a2_4, .bool a2_5]) (t := 80) ?hr ?_; (case hd => rfl); (case hg => rfl); (case hr => first | (go_simp; done) | (go_simp; rfl)); intro gb132 hg w17 hbox hb; have BK132 := Aside0.mk (hbox); have GW132 := Aside0.mk ((by rw [hg]; exact HK.out.1 : w.heap.size ≤ gb132)); have GE132 := Aside0.mk ((by rw [hg]; exact (below_size HB.out) : w0.heap.size ≤ gb132)); have NB131_132 := Aside0.mk ((by rw [hg]; exact Nat.ne_of_lt (blk_lt BK131.out) : gb131 ≠ gb132)); have NB132_131 := Aside0.mk ((by rw [hg]; exact Nat.ne_of_gt (blk_lt BK131.out) : gb132 ≠ gb131)); replace HO0_0 := Aside0.mk (Kd.R_below (Kd.R_elderB HO0_0.out gb132 (Nat.le_of_eq hg.symm)) hb); replace BK131 := Aside0.mk (blk_below BK131.out hb); replace HK := Aside0.mk (Kept.below (S := (fun k_ => P0_0_ k_)) HK.out hb); replace HB := Aside0.mk (below_step HB.out hb); clear hb hbox hg) | ((with_reducible refine gate_dst (N := 6) rfl ?_); (try (refine gate_guard (by rfl) ?_; dsimp only)); refine box_event ?hg (N := 6) ?hd (cs := #[.slice none 0 0, .int .i64 0]) (t := 49) ?hr ?_; (case hd => rfl); (case hg => rfl); (case hr => first | (go_simp; done) | (go_simp; rfl)); intro gb133 hg w18 hbox hb; have BK133 := Aside0.mk (hbox); have GW133 := Aside0.mk ((by rw [hg]; exact HK.out.1 : w.heap.size ≤ gb133)); have GE133 := Aside0.mk ((by rw [hg]; exact (below_size HB.out) : w0.heap.size ≤ gb133)); have NB131_133 := Aside0.mk ((by rw [hg]; exact Nat.ne_of_lt (blk_lt BK131.out) : gb131 ≠ gb133)); have NB133_131 := Aside0.mk ((by rw [hg]; exact Nat.ne_of_gt (blk_lt BK131.out) : gb133 ≠ gb131)); have NB132_133 := Aside0.mk ((by rw [hg]; exact Nat.ne_of_lt (blk_lt BK132.out) : gb132 ≠ gb133)); have NB133_132 := Aside0.mk ((by rw [hg]; exact Nat.ne_of_gt (blk_lt BK132.out) : gb133 ≠ gb132)); replace HO0_0 := Aside0.mk (Kd.R_below HO0_0.out hb); replace BK131 := Aside0.mk (blk_below BK131.out hb); replace BK132 := Aside0.mk (blk_below BK132.out hb); replace HK := Aside0.mk (Kept.below (S := (fun k_ => P0_0_ k_)) HK.out hb); replace HB := Aside0.mk (below_step HB.out hb); clear hb hbox hg; have hnb19 := NB131_132.out; have hnc19 := NB132_131.out; have hnb20 := NB131_133.out; have hnc20 := NB133_131.out; have hcz21_0 : w18.cell? ⟨gb131, 0, none⟩ = some (.slice Ao15 l0_0.length co15) := (blk_cell BK131.out 0).trans rfl; have hcz21_1 : w18.cell? ⟨gb131, 1, none⟩ = some (.int .i64 a0_1) := (blk_cell BK131.out 1).trans rfl; have hfz21_0 := blk_frozen BK131.out 0; have hfz21_1 := blk_frozen BK131.out 1; have hnb22 := NB133_132.out; have hnc22 := NB132_133.out; have hcz23_0 : w18.cell? ⟨gb133, 0, none⟩ = some (.slice none 0 0) := (blk_cell BK133.out 0).trans rfl; have hcz23_1 : w18.cell? ⟨gb133, 1, none⟩ = some (.int .i64 0) := (blk_cell BK133.out 1).trans rfl; have hfz23_0 := blk_frozen BK133.out 0; have hfz23_1 := blk_frozen BK133.out 1))
   refine bodyPost_ret (results_cell_row rfl _ _ gb133 49 #[.slice Ao15 l0_0.length co15, .int .i64 a0_1] (0, 0) _ rfl (by refine blk_put (cs := #[.slice Ao15 l0_0.length co15, .int .i64 0]) ?_ 1 _ rfl; refine blk_put (cs := #[.slice none 0 0, .int .i64 0]) ?_ 0 _ rfl; exact BK133.out) Try.underlying49 rfl (by kernel_rfl)) rfl ?_
   exact ⟨_, by first | rfl | (simp [errW_none, errW_some] <;> rfl) | (simp [*, errW_none, errW_some] <;> rfl), by exact Kd.R_mono (Kd.R_far (p := ⟨gb133, 1, none⟩) (Kd.R_far (p := ⟨gb133, 0, none⟩) (Kd.R_types HO0_0.out BK133.out (by decide)) (fun _ hk => hk.2) (.slice Ao15 l0_0.length co15)) (fun _ hk => hk.2) (.int .i64 a0_1)) (fun _ hk => hk.1.1), by repeat (first | (with_reducible first | exact HB.out | refine below_set ?_ GE131.out | refine below_set ?_ GE132.out | refine below_set ?_ GE133.out) | exact HB.out), by repeat (first | (with_reducible first | exact HK.out | refine Kept.setCell ?_ (.inr GW131.out) _ | refine Kept.setCell ?_ (.inr GW132.out) _ | refine Kept.setCell ?_ (.inr GW133.out) _) | exact HK.out)⟩
  ·rw [if_neg c14] at H
   have c14b0 : decide ((l0_0.length : Int) < a1) = false := decide_eq_false c14
   clear c14
   obtain ⟨y134, hy134⟩ : ∃ y_ : List (S80), y_ = (([] : List (S80))) := ⟨_, rfl⟩
   replace H : (if y134.length + l0_0.length < 3518437208883 then ((some (y134 ++ l0_0 : List (S80))).bind fun y137 => (if 0 ≤ (wrap64 (a1 - 1)) then (if (wrap64 (a1 - 1)) < (y137.length : Int) then (some ((y137.set ((wrap64 (a1 - 1)) : Int).toNat (⟨a2_0, a2_1, a2_2, a2_3, a2_4, a2_5⟩ : S80)), a0_1)) else (none)) else (none))) else (none)) = some (r1, r2) := by first | (rw [hy134]; with_reducible exact H) | (have H2_ := (Option.bind_some _ _).symm.trans H; rw [hy134]; with_reducible exact H2_) | (have H2_ := (Option.bind_some _ _).symm.trans H; with_reducible exact H2_) | with_reducible exact H | (rw [hy134]; exact H) | exact H
   have Ny134 := Aside0.mk hy134
   clear hy134
   by_cases c24 : y134.length + l0_0.length < 3518437208883
   ·rw [if_pos c24] at H
    have LMc24 := Aside0.mk c24
    clear c24
    obtain ⟨y137, hy137⟩ : ∃ y_ : List (S80), y_ = (y134 ++ l0_0) := ⟨_, rfl⟩
    replace H : (if 0 ≤ (wrap64 (a1 - 1)) then (if (wrap64 (a1 - 1)) < (y137.length : Int) then (some ((y137.set ((wrap64 (a1 - 1)) : Int).toNat (⟨a2_0, a2_1, a2_2, a2_3, a2_4, a2_5⟩ : S80)), a0_1)) else (none)) else (none)) = some (r1, r2) := by first | (rw [hy137]; with_reducible exact H) | (have H2_ := (Option.bind_some _ _).symm.trans H; rw [hy137]; with_reducible exact H2_) | (have H2_ := (Option.bind_some _ _).symm.trans H; with_reducible exact H2_) | with_reducible exact H | (rw [hy137]; exact H) | exact H
    have Ny137 := Aside0.mk hy137
    clear hy137
    obtain ⟨ji25, hji25⟩ : ∃ j_ : Int, (wrap64 (a1 - 1)) = j_ := ⟨_, rfl⟩
    replace H : (if 0 ≤ (ji25) then (if (ji25) < (y137.length : Int) then (some ((y137.set ((ji25) : Int).toNat (⟨a2_0, a2_1, a2_2, a2_3, a2_4, a2_5⟩ : S80)), a0_1)) else (none)) else (none)) = some (r1, r2) := by first | (rw [hji25] at H; exact H) | (simp only [hji25] at H ⊢; exact H)
    have hji25w : (IntKind.i64.wrap (a1 - 1)) = ji25 := (i64_w _).trans hji25
    by_cases c26 : 0 ≤ (ji25)
    ·rw [if_pos c26] at H
     have c26b0 : decide (0 ≤ (ji25)) = true := decide_eq_true c26
     clear c26
     by_cases c27 : (ji25) < (y137.length : Int)
     ·rw [if_pos c27] at H
      have c27b0 : decide ((ji25) < (y137.length : Int)) = true := decide_eq_true c27
      clear c27
      obtain ⟨y140, hy140⟩ : ∃ y_ : List (S80), y_ = (y137.set ((ji25) : Int).toNat (⟨a2_0, a2_1, a2_2, a2_3, a2_4, a2_5⟩ : S80)) := ⟨_, rfl⟩
      replace H : (some (y140, a0_1)) = some (r1, r2) := by first | (rw [hy140]; with_reducible exact H) | (have H2_ := (Option.bind_some _ _).symm.trans H; rw [hy140]; with_reducible exact H2_) | (have H2_ := (Option.bind_some _ _).symm.trans H; with_reducible exact H2_) | with_reducible exact H | (rw [hy140]; exact H) | exact H
      have Ny140 := Aside0.mk hy140
      clear hy140
      simp only [Option.some.injEq, Prod.mk.injEq] at H
      obtain ⟨rfl, rfl⟩ := H
      obtain ⟨Ao29, co29, eo29⟩ := Kd.R_slice HO0_0.out
      subst eo29
      go_enter Try.func55, Try.ntmps55
      go_wp2_with (first | ((with_reducible refine gate_dst (N := 3) rfl ?_); (try (refine gate_guard (by rfl) ?_; dsimp only)); refine box_event ?hg (N := 3) ?hd (cs := #[.slice Ao29 l0_0.length co29, .int .i64 a0_1]) (t := 49) ?hr ?_; (case hd => rfl); (case hg => rfl); (case hr => first | (go_simp; done) | (go_simp; rfl)); intro gb131 hg w30 hbox hb; have BK131 := Aside0.mk (hbox); have GW131 := Aside0.mk ((by rw [hg]; exact HK.out.1 : w.heap.size ≤ gb131)); have GE131 := Aside0.mk ((by rw [hg]; exact (below_size HB.out) : w0.heap.size ≤ gb131)); replace HO0_0 := Aside0.mk (Kd.R_below HO0_0.out hb); replace HK := Aside0.mk (Kept.below (S := (fun k_ => P0_0_ k_)) HK.out hb); replace HB := Aside0.mk (below_step HB.out hb); clear hb hbox hg) | ((with_reducible refine gate_dst (N := 5) rfl ?_); (try (refine gate_guard (by rfl) ?_; dsimp only)); refine box_event ?hg (N := 5) ?hd (cs := #[.int .u64 a2_0, .int .i64 a2_1, .int .i64 a2_2, .int .i64 a2_3, .bool a2_4, .bool a2_5]) (t := 80) ?hr ?_; (case hd => rfl); (case hg => rfl); (case hr => first | (go_simp; done) | (go_simp; rfl)); intro gb132 hg w31 hbox hb; have BK132 := Aside0.mk (hbox); have GW132 := Aside0.mk ((by rw [hg]; exact HK.out.1 : w.heap.size ≤ gb132)); have GE132 := Aside0.mk ((by rw [hg]; exact (below_size HB.out) : w0.heap.size ≤ gb132)); have NB131_132 := Aside0.mk ((by rw [hg]; exact Nat.ne_of_lt (blk_lt BK131.out) : gb131 ≠ gb132)); have NB132_131 := Aside0.mk ((by rw [hg]; exact Nat.ne_of_gt (blk_lt BK131.out) : gb132 ≠ gb131)); replace HO0_0 := Aside0.mk (Kd.R_below (Kd.R_elderB HO0_0.out gb132 (Nat.le_of_eq hg.symm)) hb); replace BK131 := Aside0.mk (blk_below BK131.out hb); replace HK := Aside0.mk (Kept.below (S := (fun k_ => P0_0_ k_)) HK.out hb); replace HB := Aside0.mk (below_step HB.out hb); clear hb hbox hg) | ((with_reducible refine gate_dst (N := 6) rfl ?_); (try (refine gate_guard (by rfl) ?_; dsimp only)); refine box_event ?hg (N := 6) ?hd (cs := #[.slice none 0 0, .int .i64 0]) (t := 49) ?hr ?_; (case hd => rfl); (case hg => rfl); (case hr => first | (go_simp; done) | (go_simp; rfl)); intro gb133 hg w32 hbox hb; have BK133 := Aside0.mk (hbox); have GW133 := Aside0.mk ((by rw [hg]; exact HK.out.1 : w.heap.size ≤ gb133)); have GE133 := Aside0.mk ((by rw [hg]; exact (below_size HB.out) : w0.heap.size ≤ gb133)); have NB131_133 := Aside0.mk ((by rw [hg]; exact Nat.ne_of_lt (blk_lt BK131.out) : gb131 ≠ gb133)); have NB133_131 := Aside0.mk ((by rw [hg]; exact Nat.ne_of_gt (blk_lt BK131.out) : gb133 ≠ gb131)); have NB132_133 := Aside0.mk ((by rw [hg]; exact Nat.ne_of_lt (blk_lt BK132.out) : gb132 ≠ gb133)); have NB133_132 := Aside0.mk ((by rw [hg]; exact Nat.ne_of_gt (blk_lt BK132.out) : gb133 ≠ gb132)); replace HO0_0 := Aside0.mk (Kd.R_below HO0_0.out hb); replace BK131 := Aside0.mk (blk_below BK131.out hb); replace BK132 := Aside0.mk (blk_below BK132.out hb); replace HK := Aside0.mk (Kept.below (S := (fun k_ => P0_0_ k_)) HK.out hb); replace HB := Aside0.mk (below_step HB.out hb); clear hb hbox hg; have hnb33 := NB131_132.out; have hnc33 := NB132_131.out; have hnb34 := NB131_133.out; have hnc34 := NB133_131.out; have hcz35_0 : w32.cell? ⟨gb131, 0, none⟩ = some (.slice Ao29 l0_0.length co29) := (blk_cell BK131.out 0).trans rfl; have hcz35_1 : w32.cell? ⟨gb131, 1, none⟩ = some (.int .i64 a0_1) := (blk_cell BK131.out 1).trans rfl; have hfz35_0 := blk_frozen BK131.out 0; have hfz35_1 := blk_frozen BK131.out 1) | ((with_reducible refine gate_dst (N := 17) rfl ?_); (try (refine gate_guard (by rfl) ?_; dsimp only)); refine Kd.R_lit k80 _ 80 ?hg (N := 17) ?hd (xs := ([] : List (S80))) (inner := []) (ok := fun _ => True) (okp := fun _ => True) ?hr ?hp (fun _ hk => hk) trivial (Below.refl _ _) (Nat.le_refl _) (by simp) ?_; (case hd => rfl); (case hg => rfl); (case hr => first | (go_simp; done) | (go_simp; rfl)); (case hp => exact (Reps.none _ _)); intro v135 w36 ho37 hb hg_ hnew_; clear hg_ hnew_; (first | rw [← Ny134.out] at ho37 | (simp only [Int.reduceToNat] at ho37; rw [← Ny134.out] at ho37)); have HO136 := Aside0.mk (Kd.R_lower (Kd.R_newB (Kd.R_new' (Kd.R_newM (M := fun k_ => (P0_0_ k_ ∨ w.heap.size ≤ k_)) ho37 HK.out.1 (fun k_ h_ => .inr h_)) (Kd.R_lt HO0_0.out)) BK132.out) (below_size HB.out)); replace HO0_0 := Aside0.mk (Kd.R_elder' HO0_0.out (Kd.R_base ho37) hb); replace BK131 := Aside0.mk (blk_below BK131.out hb); replace BK132 := Aside0.mk (blk_below BK132.out hb); replace BK133 := Aside0.mk (blk_below BK133.out hb); replace HK := Aside0.mk (Kept.below (S := (fun k_ => P0_0_ k_)) HK.out hb); replace HB := Aside0.mk (below_step HB.out hb); clear hb ho37; have hcz38_0 : w36.cell? ⟨gb131, 0, none⟩ = some (.slice Ao29 l0_0.length co29) := (blk_cell BK131.out 0).trans rfl; have hcz38_1 : w36.cell? ⟨gb131, 1, none⟩ = some (.int .i64 a0_1) := (blk_cell BK131.out 1).trans rfl; have hfz38_0 := blk_frozen BK131.out 0; have hfz38_1 := blk_frozen BK131.out 1) | ((with_reducible refine gate_builtin (b := .append) (xs := #[.tmp 17, .tmp 19]) rfl ?_); (try (refine gate_guard (by rfl) ?_; dsimp only)); at_builtin; refine Kd.R_append_rows k80 (w0 := w0) w0.heap.size rfl (.tmp 17) (.tmp 19) 47 80 (.agg #[(.int .u64 0), (.int .i64 0), (.int .i64 0), (.int .i64 0), (.bool false), (.bool false)]) 40 rfl Try.underlying47 info80 rfl (by decide) (by omega) v135 y134 l0_0 _ _ _ (fun k_ => (P0_0_ k_ ∨ w.heap.size ≤ k_) ∧ some k_ ≠ (.slice Ao29 l0_0.length co29 : Value).ownBlock ∧ k_ ≠ gb132) (fun _ => False) rfl rfl ?aO ?aR (fun _ _ h => h) (fun _ h => h.elim) ?aF ?aB ?aS ?aL ?_; (case aR => repeat (first | exact (Kd.R_reads' HO0_0.out).2.2 | (with_reducible refine Kd.C_alloc ?_ _) | (with_reducible refine Kd.C_drewN ?_ _) | (with_reducible refine Kd.C_drew ?_))); (case aB => exact HB.out); (case aF => exact (fun k_ hk => ⟨(.inr (Nat.le_trans HK.out.1 hk)), Kd.fresh' (Kd.R_lt HO0_0.out) k_ hk, Kd.freshB BK132.out k_ hk⟩)); (case aO => exact (by exact Kd.R_mono HO136.out (fun _ hk => ⟨hk.1.1.1, ⟨hk.1.2, hk.2⟩⟩))); (case aS => exact (below_size HB.out)); (case aL => have := LMc24.out; omega); intro v138 w39 ho hb hg hat; rw [← Ny137.out] at ho; have HO139 := Aside0.mk (ho); replace HO0_0 := Aside0.mk (Kd.R_after (ok := (fun k_ => (P0_0_ k_ ∨ w.heap.size ≤ k_) ∧ k_ ≠ gb132)) HO0_0.out hg hat); replace BK131 := Aside0.mk (blk_grown BK131.out hg (Kd.R_ne HO136.out BK131.out (by decide))); replace BK132 := Aside0.mk (blk_grown BK132.out hg (Kd.R_away HO136.out (fun _ hk => hk.2))); replace BK133 := Aside0.mk (blk_grown BK133.out hg (Kd.R_ne HO136.out BK133.out (by decide))); replace HB := Aside0.mk (hb); replace HK := Aside0.mk (Kept.of_grown (S := (fun k_ => P0_0_ k_)) hg HK.out (fun k_ e_ => (HO136.out.1 k_ e_).1.1.1)); clear HO136; clear ho hb hg hat; obtain ⟨Ao40, co40, eo40⟩ := Kd.R_slice HO139.out; subst eo40; have hcz41_0 : w39.cell? ⟨gb131, 0, none⟩ = some (.slice Ao29 l0_0.length co29) := (blk_cell BK131.out 0).trans rfl; have hcz41_1 : w39.cell? ⟨gb131, 1, none⟩ = some (.int .i64 a0_1) := (blk_cell BK131.out 1).trans rfl; have hfz41_0 := blk_frozen BK131.out 0; have hfz41_1 := blk_frozen BK131.out 1) | ((with_reducible refine gate_store (t := 47) (p := 21) rfl ?_); refine store_event (t := 47) (p := 21) (v := ?vo_w42) (w1 := (w39.setCell ⟨gb131, 0, none⟩ (.slice Ao40 y137.length co40))) ?hg ?ho ?hn ?hr ?_; (case ho => rfl); (case hg => rfl); (case hn => rfl); (case hr => first | (go_simp; done) | (go_simp; rfl)); intro w42 hw; replace HO0_0 : Aside0 (Kd.R k80 80 w42 w0.heap.size (fun k_ => (P0_0_ k_ ∨ w.heap.size ≤ k_) ∧ some k_ ≠ (.slice Ao40 y137.length co40 : Value).ownBlock ∧ k_ ≠ gb132) (.slice Ao29 l0_0.length co29) l0_0) := ⟨(by rw [hw]; exact (by exact Kd.R_mono (Kd.R_far (p := ⟨gb131, 0, none⟩) (Kd.R_types HO0_0.out BK131.out (by decide)) (fun _ hk => hk.2) (.slice Ao40 y137.length co40)) (fun _ hk => ⟨hk.1.1.1, ⟨hk.1.2, hk.1.1.2⟩⟩)))⟩; replace HO139 : Aside0 (Kd.R k80 80 w42 w0.heap.size (fun k_ => (P0_0_ k_ ∨ w.heap.size ≤ k_) ∧ some k_ ≠ (.slice Ao29 l0_0.length co29 : Value).ownBlock ∧ k_ ≠ gb132) (.slice Ao40 y137.length co40) y137) := ⟨(by rw [hw]; exact (by exact Kd.R_mono (Kd.R_far (p := ⟨gb131, 0, none⟩) (Kd.R_types HO139.out BK131.out (by decide)) (fun _ hk => hk.2) (.slice Ao40 y137.length co40)) (fun _ hk => ⟨hk.1.1, ⟨hk.1.2.1, hk.1.2.2⟩⟩)))⟩; replace BK131 : Aside0 (w42.heap[gb131]? = some (.cells #[.slice Ao40 y137.length co40, .int .i64 a0_1] 49 (0, 0))) := ⟨(by rw [hw]; exact (by refine blk_put (cs := #[.slice Ao29 l0_0.length co29, .int .i64 a0_1]) ?_ 0 _ rfl; exact BK131.out))⟩; replace BK132 : Aside0 (w42.heap[gb132]? = some (.cells #[.int .u64 a2_0, .int .i64 a2_1, .int .i64 a2_2, .int .i64 a2_3, .bool a2_4, .bool a2_5] 80 (0, 0))) := ⟨(by rw [hw]; exact (by refine blk_far ?_ NB132_131.out _; exact BK132.out))⟩; replace BK133 : Aside0 (w42.heap[gb133]? = some (.cells #[.slice none 0 0, .int .i64 0] 49 (0, 0))) := ⟨(by rw [hw]; exact (by refine blk_far ?_ NB133_131.out _; exact BK133.out))⟩; replace HK : Aside0 (Kept w w42 (fun k_ => P0_0_ k_)) := ⟨(by rw [hw]; repeat (with_reducible first | exact HK.out | refine Kept.setCell ?_ (.inr GW131.out) _ | refine Kept.setCell ?_ (.inr GW132.out) _ | refine Kept.setCell ?_ (.inr GW133.out) _))⟩; replace HB : Aside0 (Below w0.heap.size w0 w42) := ⟨(by rw [hw]; repeat (with_reducible first | exact HB.out | refine below_set ?_ GE131.out | refine below_set ?_ GE132.out | refine below_set ?_ GE133.out))⟩; clear hw; have hcz43_0 : w42.cell? ⟨gb131, 0, none⟩ = some (.slice Ao40 y137.length co40) := (blk_cell BK131.out 0).trans rfl; have hcz43_1 : w42.cell? ⟨gb131, 1, none⟩ = some (.int .i64 a0_1) := (blk_cell BK131.out 1).trans rfl; have hfz43_0 := blk_frozen BK131.out 0; have hfz43_1 := blk_frozen BK131.out 1; have hnb44 := NB132_133.out; have hnc44 := NB133_132.out; have hcz45_0 : w42.cell? ⟨gb132, 0, none⟩ = some (.int .u64 a2_0) := (blk_cell BK132.out 0).trans rfl; have hcz45_1 : w42.cell? ⟨gb132, 1, none⟩ = some (.int .i64 a2_1) := (blk_cell BK132.out 1).trans rfl; have hcz45_2 : w42.cell? ⟨gb132, 2, none⟩ = some (.int .i64 a2_2) := (blk_cell BK132.out 2).trans rfl; have hcz45_3 : w42.cell? ⟨gb132, 3, none⟩ = some (.int .i64 a2_3) := (blk_cell BK132.out 3).trans rfl; have hcz45_4 : w42.cell? ⟨gb132, 4, none⟩ = some (.bool a2_4) := (blk_cell BK132.out 4).trans rfl; have hcz45_5 : w42.cell? ⟨gb132, 5, none⟩ = some (.bool a2_5) := (blk_cell BK132.out 5).trans rfl; have hfz45_0 := blk_frozen BK132.out 0; have hfz45_1 := blk_frozen BK132.out 1; have hfz45_2 := blk_frozen BK132.out 2; have hfz45_3 := blk_frozen BK132.out 3; have hfz45_4 := blk_frozen BK132.out 4; have hfz45_5 := blk_frozen BK132.out 5; have p28 : 0 ≤ ((ji25) : Int) := of_decide_eq_true (by first | (with_reducible assumption) | assumption); have q28 : ((ji25) : Int) < ((y137.length : Int) : Int) := of_decide_eq_true (by first | (with_reducible assumption) | assumption); obtain ⟨go28, co28, eo28, gb28, gl28, cl28, HG28⟩ := Kd.R_form HO139.out (by omega); (first | cases eo28 | (injection eo28 with ea_ en_ ec_; (first | subst ea_ | (injection ea_ with ea_; subst ea_)); subst ec_; clear en_)); have GB28 := Aside0.mk gb28; have GG28 := Aside0.mk HG28; clear gb28 gl28 HG28; have HMgo28 := Aside0.mk (show (P0_0_ go28 ∨ w.heap.size ≤ go28) from (HO139.out.1 _ rfl).1); obtain ⟨ce28, hcl28, hM28, hcc28, hfr28⟩ := Kd.R_elem HO139.out z80 ((ji25) : Int) p28 q28; obtain rfl := k80_openM hM28; have hx28_0 : w42.cell? ⟨go28, ((ji25) : Int).toNat * 6, none⟩ = some (.int .u64 ((rd_T80 y137 (ji25)).f0)) := hcc28 0 _ rfl; have hx28_1 : w42.cell? ⟨go28, ((ji25) : Int).toNat * 6 + 1, none⟩ = some (.int .i64 ((rd_T80 y137 (ji25)).f1)) := hcc28 1 _ rfl; have hx28_2 : w42.cell? ⟨go28, ((ji25) : Int).toNat * 6 + 2, none⟩ = some (.int .i64 ((rd_T80 y137 (ji25)).f2)) := hcc28 2 _ rfl; have hx28_3 : w42.cell? ⟨go28, ((ji25) : Int).toNat * 6 + 3, none⟩ = some (.int .i64 ((rd_T80 y137 (ji25)).f3)) := hcc28 3 _ rfl; have hx28_4 : w42.cell? ⟨go28, ((ji25) : Int).toNat * 6 + 4, none⟩ = some (.bool ((rd_T80 y137 (ji25)).f4)) := hcc28 4 _ rfl; have hx28_5 : w42.cell? ⟨go28, ((ji25) : Int).toNat * 6 + 5, none⟩ = some (.bool ((rd_T80 y137 (ji25)).f5)) := hcc28 5 _ rfl; have hf28_0 : w42.frozen? ⟨go28, ((ji25) : Int).toNat * 6, none⟩ = false := hfr28 0; have hf28_1 : w42.frozen? ⟨go28, ((ji25) : Int).toNat * 6 + 1, none⟩ = false := hfr28 1; have hf28_2 : w42.frozen? ⟨go28, ((ji25) : Int).toNat * 6 + 2, none⟩ = false := hfr28 2; have hf28_3 : w42.frozen? ⟨go28, ((ji25) : Int).toNat * 6 + 3, none⟩ = false := hfr28 3; have hf28_4 : w42.frozen? ⟨go28, ((ji25) : Int).toNat * 6 + 4, none⟩ = false := hfr28 4; have hf28_5 : w42.frozen? ⟨go28, ((ji25) : Int).toNat * 6 + 5, none⟩ = false := hfr28 5; clear hcl28 hcc28 hfr28 hM28; replace p28 := eq_true p28; replace q28 := eq_true q28; have HX46 := Aside0.mk (show Kd.R k80 80 w42 w0.heap.size (fun k_ => (P0_0_ k_ ∨ w.heap.size ≤ k_) ∧ some k_ ≠ (.slice Ao29 l0_0.length co29 : Value).ownBlock ∧ k_ ≠ gb132) (.slice (some ⟨go28, 0, none⟩) y137.length co40) y137 from HO139.out); obtain ⟨ce46, hcl46, hM46, hcc46, hfr46⟩ := Kd.R_elem HX46.out z80 ((ji25) : Int) (of_decide_eq_true (by first | (with_reducible assumption) | assumption)) (by have h_ : ((ji25) : Int) < ((y137.length : Int) : Int) := of_decide_eq_true (by first | (with_reducible assumption) | assumption); first | exact h_ | (have e_ := (Kd.R_reads' HO139.out).1; omega) | simpa using h_); obtain rfl := k80_openM hM46; have HP46 := Kd.R_seg HX46.out ((ji25) : Int) (of_decide_eq_true (by first | (with_reducible assumption) | assumption)) (by have h_ : ((ji25) : Int) < ((y137.length : Int) : Int) := of_decide_eq_true (by first | (with_reducible assumption) | assumption); first | exact h_ | (have e_ := (Kd.R_reads' HO139.out).1; omega) | simpa using h_) (seg := [.int .u64 a2_0, .int .i64 a2_1, .int .i64 a2_2, .int .i64 a2_3, .bool a2_4, .bool a2_5]) (j := 0) hcl46 hcc46 (show 6 ≤ 6 from by decide) (x' := (⟨a2_0, a2_1, a2_2, a2_3, a2_4, a2_5⟩ : S80)) (k80_mkM _ _ _ (⟨a2_0, a2_1, a2_2, a2_3, a2_4, a2_5⟩ : S80) ) (fun _ hk => hk); have hx46_0 := hcc46 0 _ rfl; (try simp only [show (k80).sz = 6 from rfl, Nat.mul_one, Nat.add_zero] at hx46_0); have hf46_0 := hfr46 0; (try simp only [show (k80).sz = 6 from rfl, Nat.mul_one, Nat.add_zero] at hf46_0); have hx46_1 := hcc46 1 _ rfl; (try simp only [show (k80).sz = 6 from rfl, Nat.mul_one, Nat.add_zero] at hx46_1); have hf46_1 := hfr46 1; (try simp only [show (k80).sz = 6 from rfl, Nat.mul_one, Nat.add_zero] at hf46_1); have hx46_2 := hcc46 2 _ rfl; (try simp only [show (k80).sz = 6 from rfl, Nat.mul_one, Nat.add_zero] at hx46_2); have hf46_2 := hfr46 2; (try simp only [show (k80).sz = 6 from rfl, Nat.mul_one, Nat.add_zero] at hf46_2); have hx46_3 := hcc46 3 _ rfl; (try simp only [show (k80).sz = 6 from rfl, Nat.mul_one, Nat.add_zero] at hx46_3); have hf46_3 := hfr46 3; (try simp only [show (k80).sz = 6 from rfl, Nat.mul_one, Nat.add_zero] at hf46_3); have hx46_4 := hcc46 4 _ rfl; (try simp only [show (k80).sz = 6 from rfl, Nat.mul_one, Nat.add_zero] at hx46_4); have hf46_4 := hfr46 4; (try simp only [show (k80).sz = 6 from rfl, Nat.mul_one, Nat.add_zero] at hf46_4); have hx46_5 := hcc46 5 _ rfl; (try simp only [show (k80).sz = 6 from rfl, Nat.mul_one, Nat.add_zero] at hx46_5); have hf46_5 := hfr46 5; (try simp only [show (k80).sz = 6 from rfl, Nat.mul_one, Nat.add_zero] at hf46_5); clear hcl46 hcc46 hfr46 hM46) | ((with_reducible refine gate_store (t := 80) (p := 27) rfl ?_); refine store_event (t := 80) (p := 27) (v := ?vo_w47) (w1 := ((((((w42.setCell ⟨go28, ((ji25) : Int).toNat * 6, none⟩ (.int .u64 a2_0)).setCell ⟨go28, ((ji25) : Int).toNat * 6 + 1, none⟩ (.int .i64 a2_1)).setCell ⟨go28, ((ji25) : Int).toNat * 6 + 2, none⟩ (.int .i64 a2_2)).setCell ⟨go28, ((ji25) : Int).toNat * 6 + 3, none⟩ (.int .i64 a2_3)).setCell ⟨go28, ((ji25) : Int).toNat * 6 + 4, none⟩ (.bool a2_4)).setCell ⟨go28, ((ji25) : Int).toNat * 6 + 5, none⟩ (.bool a2_5))) ?hg ?ho ?hn ?hr ?_; (case ho => rfl); (case hg => rfl); (case hn => rfl); (case hr => first | (go_simp; done) | (go_simp; rfl)); intro w47 hw; have hg : w42.grownBy w47 (some go28) := (by rw [hw]; exact HP46.2); have hp_ : Kd.R k80 80 w47 w0.heap.size (fun k_ => (P0_0_ k_ ∨ w.heap.size ≤ k_) ∧ some k_ ≠ (.slice Ao29 l0_0.length co29 : Value).ownBlock ∧ k_ ≠ gb132) (.slice (some ⟨go28, 0, none⟩) y137.length co40) y140 := (by rw [hw, Ny140.out]; exact HP46.1); clear HP46; replace HO0_0 := Aside0.mk (Kd.R_after (v := (.slice (some ⟨go28, 0, none⟩) y137.length co40)) (v1 := (.slice (some ⟨go28, 0, none⟩) y137.length co40)) (ok := (fun k_ => (P0_0_ k_ ∨ w.heap.size ≤ k_) ∧ k_ ≠ gb132)) (by exact Kd.R_mono HO0_0.out (fun _ hk => ⟨⟨hk.1, hk.2.2⟩, hk.2.1⟩)) hg (.inl rfl)); replace BK131 := Aside0.mk (blk_grown BK131.out hg (Kd.R_ne HO139.out BK131.out (by decide))); replace BK132 := Aside0.mk (blk_grown BK132.out hg (Kd.R_away HO139.out (fun _ hk => hk.2.2))); replace BK133 := Aside0.mk (blk_grown BK133.out hg (Kd.R_ne HO139.out BK133.out (by decide))); replace HB := Aside0.mk ((by rw [hw]; exact below_set (below_set (below_set (below_set (below_set (below_set (HB.out) GB28.out) GB28.out) GB28.out) GB28.out) GB28.out) GB28.out : Below w0.heap.size w0 w47)); replace HK := Aside0.mk (Kept.of_grown (S := (fun k_ => P0_0_ k_)) hg HK.out (fun k_ e_ => (HO139.out.1 k_ e_).1)); replace HO139 := Aside0.mk (hp_); clear hg hw hp_; have hcz48_0 : w47.cell? ⟨gb131, 0, none⟩ = some (.slice (some ⟨go28, 0, none⟩) y137.length co40) := (blk_cell BK131.out 0).trans rfl; have hcz48_1 : w47.cell? ⟨gb131, 1, none⟩ = some (.int .i64 a0_1) := (blk_cell BK131.out 1).trans rfl; have hfz48_0 := blk_frozen BK131.out 0; have hfz48_1 := blk_frozen BK131.out 1; have hcz49_0 : w47.cell? ⟨gb133, 0, none⟩ = some (.slice none 0 0) := (blk_cell BK133.out 0).trans rfl; have hcz49_1 : w47.cell? ⟨gb133, 1, none⟩ = some (.int .i64 0) := (blk_cell BK133.out 1).trans rfl; have hfz49_0 := blk_frozen BK133.out 0; have hfz49_1 := blk_frozen BK133.out 1))
      refine bodyPost_ret (results_cell_row rfl _ _ gb133 49 #[.slice (some ⟨go28, 0, none⟩) y137.length co40, .int .i64 a0_1] (0, 0) _ rfl (by refine blk_put (cs := #[.slice (some ⟨go28, 0, none⟩) y137.length co40, .int .i64 0]) ?_ 1 _ rfl; refine blk_put (cs := #[.slice none 0 0, .int .i64 0]) ?_ 0 _ rfl; exact BK133.out) Try.underlying49 rfl (by kernel_rfl)) rfl ?_
      exact ⟨_, by first | rfl | (simp [errW_none, errW_some] <;> rfl) | (simp only [← hji25]; first | rfl | (simp [errW_none, errW_some] <;> rfl)) | (simp [*, errW_none, errW_some] <;> rfl), by exact Kd.R_mono (Kd.R_far (p := ⟨gb133, 1, none⟩) (Kd.R_far (p := ⟨gb133, 0, none⟩) (Kd.R_types HO139.out BK133.out (by decide)) (fun _ hk => hk.2) (.slice (some ⟨go28, 0, none⟩) y137.length co40)) (fun _ hk => hk.2) (.int .i64 a0_1)) (fun _ hk => hk.1.1), by repeat (first | (with_reducible first | exact HB.out | refine below_set ?_ GE131.out | refine below_set ?_ GE132.out | refine below_set ?_ GE133.out) | exact HB.out), by repeat (first | (with_reducible first | exact HK.out | refine Kept.setCell ?_ (.inr GW131.out) _ | refine Kept.setCell ?_ (.inr GW132.out) _ | refine Kept.setCell ?_ (.inr GW133.out) _) | exact HK.out)⟩
     ·rw [if_neg c27] at H
      exact absurd H (by simp)
    ·rw [if_neg c26] at H
     exact absurd H (by simp)
   ·rw [if_neg c24] at H
    exact absurd H (by simp)
end Go.Proofs.Ythkppnkhiimaeaa.PTreePlays
