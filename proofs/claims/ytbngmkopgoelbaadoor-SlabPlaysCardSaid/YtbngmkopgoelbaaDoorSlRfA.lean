/- The reference of layer 3: Alloc (turned from a text that the printer wrote, whose own two reads fall). -/
import Derived.Test.YtbngmkopgoelbaaDoorPSlabPlaysx0
import Derived.Test.YtbngmkopgoelbaaDoorPSlabPlaysx1
namespace Go.Proofs.YtbngmkopgoelbaaDoor.PSlabPlays
open Go.RowKit Go.Proofs.YtbngmkopgoelbaaDoorW.PrintWords Go.Proofs.YtbngmkopgoelbaaDoorW.PrintLast Go.Proofs.YtbngmkopgoelbaaDoorW.PrintMore
attribute [local go_sem] max2_int min2_int max_two min_two max_three min_three max_four min_four   -- for this text's walks alone
set_option linter.unusedVariables false
set_option linter.unusedSimpArgs false

/-! ### turnbuckleref03_Alloc: function 21 -/
mutual
def turnbuckleref03_Alloc.j0 : Nat → List (S82) → Int → Bool → Option ((List (S82)) × Int × Int)
  | 0, _, _, _ => none
  | k + 1, x0, x1, x20 => if x20 = true then (some (x0, 0, 1)) else ((turnbuckleref03_Class.f k x1).bind fun t119 => (turnbuckleref03_Alloc.l0 k x0 t119 0 (wrap64 ((x0.length : Int) - 1))))
def turnbuckleref03_Alloc.l0 : Nat → List (S82) → Int → Int → Int → Option ((List (S82)) × Int × Int)
  | 0, _, _, _, _ => none
  | k + 1, x0, x7, x8, x9 => if x9 > 0 then (if 0 ≤ x9 then (if x9 < (x0.length : Int) then (if ((rd_T82 x0 x9).f0) = x7 then (if (((rd_T82 x0 x9).f1).length : Int) > 0 then (turnbuckleref03_Alloc.l0 k x0 x7 x9 (wrap64 (x9 - 1))) else (turnbuckleref03_Alloc.l0 k x0 x7 x8 (wrap64 (x9 - 1)))) else (turnbuckleref03_Alloc.l0 k x0 x7 x8 (wrap64 (x9 - 1)))) else (none)) else (none)) else (if x8 = 0 then (turnbuckleref03_Alloc.l1 k x0 x7 x8 (wrap64 ((x0.length : Int) - 1))) else (if 0 ≤ x8 then (if x8 < (x0.length : Int) then (if 0 < (((rd_T82 x0 x8).f1).length : Int) then (if 1 ≤ (((rd_T82 x0 x8).f1).length : Int) then ((some (([] : List Int) : List Int)).bind fun y158 => (if y158.length + ((rd_T82 x0 x8).f2).length < 17592186044416 then ((some (y158 ++ ((rd_T82 x0 x8).f2) : List Int)).bind fun y161 => (if y161.length < 17592186044416 then ((turnbuckleref03_with.f x0 x8 ((rd_T82 x0 x8).f0) (((rd_T82 x0 x8).f1).drop 1) (y161 ++ [rd ((rd_T82 x0 x8).f1) 0])).bind fun t167 => (some (t167, rd ((rd_T82 x0 x8).f1) 0, 0))) else (none))) else (none))) else (none)) else (none)) else (none)) else (none)))
def turnbuckleref03_Alloc.l1 : Nat → List (S82) → Int → Int → Int → Option ((List (S82)) × Int × Int)
  | 0, _, _, _, _ => none
  | k + 1, x0, x7, x8, x10 => if x10 > 0 then (if 0 ≤ x10 then (if x10 < (x0.length : Int) then (if ((rd_T82 x0 x10).f0) = 0 then (turnbuckleref03_Alloc.l1 k x0 x7 x10 (wrap64 (x10 - 1))) else (turnbuckleref03_Alloc.l1 k x0 x7 x8 (wrap64 (x10 - 1)))) else (none)) else (none)) else (if x8 = 0 then (some (x0, 0, 5)) else (turnbuckleref03_Alloc.l2 k x0 x7 x8 0 x7 ([] : List Int)))
def turnbuckleref03_Alloc.l2 : Nat → List (S82) → Int → Int → Int → Int → List Int → Option ((List (S82)) × Int × Int)
  | 0, _, _, _, _, _, _ => none
  | k + 1, x0, x7, x8, x12, x124000, x124001 => if x12 < 512 then (if x124001.length < 17592186044416 then (turnbuckleref03_Alloc.l2 k x0 x7 x8 (wrap64 (x12 + x7)) x124000 (x124001 ++ [wrap64 ((wrap64 (512 * x8)) + x12)])) else (none)) else ((turnbuckleref03_with.f x0 x8 x124000 x124001 ([] : List Int)).bind fun t127 => (if 0 ≤ x8 then (if x8 < (t127.length : Int) then (if 0 < (((rd_T82 t127 x8).f1).length : Int) then (if 1 ≤ (((rd_T82 t127 x8).f1).length : Int) then ((some (([] : List Int) : List Int)).bind fun y138 => (if y138.length + ((rd_T82 t127 x8).f2).length < 17592186044416 then ((some (y138 ++ ((rd_T82 t127 x8).f2) : List Int)).bind fun y141 => (if y141.length < 17592186044416 then ((turnbuckleref03_with.f t127 x8 ((rd_T82 t127 x8).f0) (((rd_T82 t127 x8).f1).drop 1) (y141 ++ [rd ((rd_T82 t127 x8).f1) 0])).bind fun t147 => (some (t147, rd ((rd_T82 t127 x8).f1) 0, 0))) else (none))) else (none))) else (none)) else (none)) else (none)) else (none)))
end
def turnbuckleref03_Alloc.f (k : Nat) (l0 : List (S82)) (a1 : Int) : Option ((List (S82)) × Int × Int) := if a1 < 1 then (turnbuckleref03_Alloc.j0 k l0 a1 true) else (turnbuckleref03_Alloc.j0 k l0 a1 (decide (a1 > 256)))
theorem turnbuckleref03_Alloc.mono_l : ∀ k, (∀ y0 y1 y2, LeO (turnbuckleref03_Alloc.j0 k y0 y1 y2) (turnbuckleref03_Alloc.j0 (k + 1) y0 y1 y2)) ∧ (∀ y0 y1 y2 y3, LeO (turnbuckleref03_Alloc.l0 k y0 y1 y2 y3) (turnbuckleref03_Alloc.l0 (k + 1) y0 y1 y2 y3)) ∧ (∀ y0 y1 y2 y3, LeO (turnbuckleref03_Alloc.l1 k y0 y1 y2 y3) (turnbuckleref03_Alloc.l1 (k + 1) y0 y1 y2 y3)) ∧ (∀ y0 y1 y2 y3 y4 y5, LeO (turnbuckleref03_Alloc.l2 k y0 y1 y2 y3 y4 y5) (turnbuckleref03_Alloc.l2 (k + 1) y0 y1 y2 y3 y4 y5))
  | 0 => ⟨fun _ _ _ r h => by simp [turnbuckleref03_Alloc.j0] at h, fun _ _ _ _ r h => by simp [turnbuckleref03_Alloc.l0] at h, fun _ _ _ _ r h => by simp [turnbuckleref03_Alloc.l1] at h, fun _ _ _ _ _ _ r h => by simp [turnbuckleref03_Alloc.l2] at h⟩
  | k + 1 => by
    obtain ⟨ih0, ih1, ih2, ih3⟩ := turnbuckleref03_Alloc.mono_l k
    refine ⟨?_, ?_, ?_, ?_⟩
    · intro y0 y1 y2
      unfold turnbuckleref03_Alloc.j0
      repeat' first
      | (with_reducible exact ih0 _ _ _)
      | (with_reducible exact ih1 _ _ _ _)
      | (with_reducible exact ih2 _ _ _ _)
      | (with_reducible exact ih3 _ _ _ _ _ _)
      | (with_reducible exact turnbuckleref03_Class.mono _ _)
      | (with_reducible exact LeO.refl _)
      | (with_reducible exact LeO.none _)
      | (with_reducible refine LeO.ite ?_ ?_)
      | (with_reducible refine LeO.bind ?_ (fun _ => ?_))
      | exact ih0 _ _ _
      | exact ih1 _ _ _ _
      | exact ih2 _ _ _ _
      | exact ih3 _ _ _ _ _ _
      | exact turnbuckleref03_Class.mono _ _
      | exact LeO.none _
      | refine LeO.ite ?_ ?_
      | refine LeO.bind ?_ (fun _ => ?_)
    · intro y0 y1 y2 y3
      unfold turnbuckleref03_Alloc.l0
      repeat' first
      | (with_reducible exact ih0 _ _ _)
      | (with_reducible exact ih1 _ _ _ _)
      | (with_reducible exact ih2 _ _ _ _)
      | (with_reducible exact ih3 _ _ _ _ _ _)
      | (with_reducible exact turnbuckleref03_Class.mono _ _)
      | (with_reducible exact LeO.refl _)
      | (with_reducible exact LeO.none _)
      | (with_reducible refine LeO.ite ?_ ?_)
      | (with_reducible refine LeO.bind ?_ (fun _ => ?_))
      | exact ih0 _ _ _
      | exact ih1 _ _ _ _
      | exact ih2 _ _ _ _
      | exact ih3 _ _ _ _ _ _
      | exact turnbuckleref03_Class.mono _ _
      | exact LeO.none _
      | refine LeO.ite ?_ ?_
      | refine LeO.bind ?_ (fun _ => ?_)
    · intro y0 y1 y2 y3
      unfold turnbuckleref03_Alloc.l1
      repeat' first
      | (with_reducible exact ih0 _ _ _)
      | (with_reducible exact ih1 _ _ _ _)
      | (with_reducible exact ih2 _ _ _ _)
      | (with_reducible exact ih3 _ _ _ _ _ _)
      | (with_reducible exact turnbuckleref03_Class.mono _ _)
      | (with_reducible exact LeO.refl _)
      | (with_reducible exact LeO.none _)
      | (with_reducible refine LeO.ite ?_ ?_)
      | (with_reducible refine LeO.bind ?_ (fun _ => ?_))
      | exact ih0 _ _ _
      | exact ih1 _ _ _ _
      | exact ih2 _ _ _ _
      | exact ih3 _ _ _ _ _ _
      | exact turnbuckleref03_Class.mono _ _
      | exact LeO.none _
      | refine LeO.ite ?_ ?_
      | refine LeO.bind ?_ (fun _ => ?_)
    · intro y0 y1 y2 y3 y4 y5
      unfold turnbuckleref03_Alloc.l2
      repeat' first
      | (with_reducible exact ih0 _ _ _)
      | (with_reducible exact ih1 _ _ _ _)
      | (with_reducible exact ih2 _ _ _ _)
      | (with_reducible exact ih3 _ _ _ _ _ _)
      | (with_reducible exact turnbuckleref03_Class.mono _ _)
      | (with_reducible exact LeO.refl _)
      | (with_reducible exact LeO.none _)
      | (with_reducible refine LeO.ite ?_ ?_)
      | (with_reducible refine LeO.bind ?_ (fun _ => ?_))
      | exact ih0 _ _ _
      | exact ih1 _ _ _ _
      | exact ih2 _ _ _ _
      | exact ih3 _ _ _ _ _ _
      | exact turnbuckleref03_Class.mono _ _
      | exact LeO.none _
      | refine LeO.ite ?_ ?_
      | refine LeO.bind ?_ (fun _ => ?_)
theorem turnbuckleref03_Alloc.mono : ∀ a0 a1 k, LeO (turnbuckleref03_Alloc.f k a0 a1) (turnbuckleref03_Alloc.f (k + 1) a0 a1) := by
  intro a0 a1 k
  obtain ⟨ih0, ih1, ih2, ih3⟩ := turnbuckleref03_Alloc.mono_l k
  unfold turnbuckleref03_Alloc.f
  repeat' first
      | (with_reducible exact ih0 _ _ _)
      | (with_reducible exact ih1 _ _ _ _)
      | (with_reducible exact ih2 _ _ _ _)
      | (with_reducible exact ih3 _ _ _ _ _ _)
      | (with_reducible exact turnbuckleref03_Class.mono _ _)
      | (with_reducible exact LeO.refl _)
      | (with_reducible exact LeO.none _)
      | (with_reducible refine LeO.ite ?_ ?_)
      | (with_reducible refine LeO.bind ?_ (fun _ => ?_))
      | exact ih0 _ _ _
      | exact ih1 _ _ _ _
      | exact ih2 _ _ _ _
      | exact ih3 _ _ _ _ _ _
      | exact turnbuckleref03_Class.mono _ _
      | exact LeO.none _
      | refine LeO.ite ?_ ?_
      | refine LeO.bind ?_ (fun _ => ?_)
set_option maxHeartbeats 8000000 in
set_option maxRecDepth 100000 in
theorem turnbuckleref03_Alloc.calls (k : Nat) (P0_ : Nat → Prop) (A0 : Option Addr) (c0 : Nat) (l0 : List (S82)) (a1 : Int) (r1 : List (S82)) (r2 : Int) (r3 : Int) (w : World) (hs0 : Kd.V k82 82 w w.heap.size (fun k_ => P0_ k_) (.slice A0 l0.length c0) l0) (h : turnbuckleref03_Alloc.f k l0 a1 = some (r1, r2, r3)) :
    Calls Tryd.prog 21 #[.slice A0 l0.length c0, .int .i64 a1] w fun e w' => ∃ v0_ : Value, e = .returned (.tuple #[v0_, .int .i64 r2, .int .i64 r3]) ∧ Kd.V k82 82 w' w.heap.size (fun k_ => (P0_ k_ ∨ w.heap.size ≤ k_)) v0_ r1 ∧ Below w.heap.size w w' := by
  have hu82 := Tryd.underlying82
  have HO0 := Aside0.mk (show Kd.V k82 82 w w.heap.size (fun k_ => (P0_ k_ ∨ w.heap.size ≤ k_)) (.slice A0 l0.length c0) l0 from Kd.V_mono hs0 (fun k_ hk => .inl hk))
  have HB := Aside0.mk (Below.refl w.heap.size w)
  have H : (if a1 < 1 then (turnbuckleref03_Alloc.j0 k l0 a1 true) else (turnbuckleref03_Alloc.j0 k l0 a1 (decide (a1 > 256)))) = some (r1, r2, r3) := h
  clear h
  have HC3 := Aside0.mk H
  clear H
  go_enter Tryd.func21, Tryd.ntmps21
  go_upto_region 1 with (fail)
  go_cut [20] (fun v20 wc => ∃ (kq : Nat) (x20_2 : Bool), v20 = .bool x20_2 ∧ Aside0 (turnbuckleref03_Alloc.j0 kq l0 a1 x20_2 = some (r1, r2, r3)) ∧ Aside0 (kq ≤ k) ∧ Aside0 (Kd.V k82 82 wc w.heap.size (fun k_ => (P0_ k_ ∨ w.heap.size ≤ k_)) (.slice A0 l0.length c0) l0) ∧ Aside0 (Below w.heap.size w wc))
  case first =>
    have H := HC3.out
    clear HC3
    by_cases c4 : a1 < 1
    · rw [if_pos c4] at H
      have c4b0 : decide (a1 < 1) = true := decide_eq_true c4
      clear c4
      (first | rw [c4b0] | (simp only [i64_w, i32_w]; rw [c4b0]) | skip)
      have H' := Aside0.mk H
      clear H
      go_wp2
      go_meet
      case rel => exact ⟨_, (true), (by first | rfl | (simp; done) | (simp [*]; done)), H', ⟨by first | omega | exact Nat.le_refl _⟩, ⟨by (with_reducible repeat (first | apply Kd.V_alloc | apply Kd.V_drewN | apply Kd.V_drew)); exact HO0.out⟩, ⟨by repeat (first | (with_reducible first | exact HB.out | apply below_alloc | apply pw_below_drewN | apply below_drew1) | exact HB.out)⟩⟩
    · rw [if_neg c4] at H
      have c4b0 : decide (a1 < 1) = false := decide_eq_false c4
      clear c4
      (first | rw [c4b0] | (simp only [i64_w, i32_w]; rw [c4b0]) | skip)
      have H' := Aside0.mk H
      clear H
      go_wp2
      go_meet
      case rel => exact ⟨_, (decide (a1 > 256)), (by first | rfl | (simp; done) | (simp [*]; done)), H', ⟨by first | omega | exact Nat.le_refl _⟩, ⟨by (with_reducible repeat (first | apply Kd.V_alloc | apply Kd.V_drewN | apply Kd.V_drew)); exact HO0.out⟩, ⟨by repeat (first | (with_reducible first | exact HB.out | apply below_alloc | apply pw_below_drewN | apply below_drew1) | exact HB.out)⟩⟩
  case rest =>
    clear HC3
    try clear c2
    try clear p2
    try clear c4
    try clear c4b0
    obtain ⟨kq, x20_2, rfl, HA, HJ2, HO_0, HB⟩ := hcut
    cases kq with
    | zero => exact absurd HA.out (by simp [turnbuckleref03_Alloc.j0])
    | succ kj2 =>
      have H := HA.out
      clear HA
      simp only [turnbuckleref03_Alloc.j0] at H
      by_cases c5 : x20_2 = true
      · subst c5
        have H1 : (some (l0, 0, 1)) = some (r1, r2, r3) := by rw [if_pos rfl] at H; exact H
        clear H
        have H := H1
        clear H1
        simp only [Option.some.injEq, Prod.mk.injEq] at H
        obtain ⟨rfl, rfl, rfl⟩ := H
        go_wp2
        go_ret3
        exact ⟨_, by first | rfl | (simp [errW_none, errW_some] <;> rfl) | (simp [*, errW_none, errW_some] <;> rfl), by (with_reducible repeat (first | apply Kd.V_alloc | apply Kd.V_drewN | apply Kd.V_drew)); exact HO_0.out, by repeat (first | (with_reducible first | exact HB.out | apply below_alloc | apply pw_below_drewN | apply below_drew1) | exact HB.out)⟩
      · replace c5 := Bool.eq_false_iff.mpr c5
        subst c5
        have H1 : ((turnbuckleref03_Class.f kj2 a1).bind fun t119 => (turnbuckleref03_Alloc.l0 kj2 l0 t119 0 (wrap64 ((l0.length : Int) - 1)))) = some (r1, r2, r3) := by rw [if_neg (show ¬ (false = true) by decide)] at H; exact H
        clear H
        have H := H1
        clear H1
        replace H := Option.bind_eq_some_iff.mp H
        obtain ⟨t119, A60, H⟩ := H
        replace H : (turnbuckleref03_Alloc.l0 kj2 l0 t119 0 (wrap64 ((l0.length : Int) - 1))) = some (r1, r2, r3) := H
        have A6 := Aside0.mk A60
        clear A60
        have H' := Aside0.mk H
        clear H
        go_wp2_with (first | ((with_reducible refine gate_callee (f := 22) rfl ?_); refine goesL_ (some 23) rfl rfl Tryd.func22 (by kernel_rfl) rfl #[.int .i64 a1] rfl (by (try simp only [List.map_toArray, List.map_cons, List.map_nil]); first | done | rfl | (simp only [List.length_drop, List.length_take]; rfl)) ?_; (with_reducible refine (turnbuckleref03_Class.calls kj2 a1 t119 _ A6.out).mono ?_); rintro e w7 ⟨rfl, hb⟩; refine ⟨_, rfl, ?_⟩; have n0_ := Aside0.mk (Kd.V_below (by (with_reducible repeat (first | apply Kd.V_alloc | apply Kd.V_drewN | apply Kd.V_drew)); exact HO_0.out) hb); have n1_ := Aside0.mk (below_step (by repeat (first | (with_reducible first | exact HB.out | apply below_alloc | apply pw_below_drewN | apply below_drew1) | exact HB.out)) hb); clear HO_0; clear HB; have HO_0 := n0_; have HB := n1_; clear n0_ n1_; (try clear hb); (try clear hb2); (try clear hk); (try clear hi)))
        go_loopg [8, 9] kj2 (fun kq v8 v9 w' => ∃ (x8_2 : Int) (x9_2 : Int), v8 = .int .i64 x8_2 ∧ v9 = .int .i64 x9_2 ∧ Aside0 (turnbuckleref03_Alloc.l0 kq l0 t119 x8_2 x9_2 = some (r1, r2, r3)) ∧ Aside0 (kq ≤ kj2) ∧ Aside0 (Kd.V k82 82 w' w.heap.size (fun k_ => (P0_ k_ ∨ w.heap.size ≤ k_)) (.slice A0 l0.length c0) l0) ∧ Aside0 (Below w.heap.size w w'))
        case atStart => exact ⟨(0), (wrap64 ((l0.length : Int) - 1)), (by first | rfl | (simp; done) | (simp [*]; done)), (by first | rfl | (simp; done) | (simp [*]; done)), H', ⟨Nat.le_refl _⟩, ⟨by (with_reducible repeat (first | apply Kd.V_alloc | apply Kd.V_drewN | apply Kd.V_drew)); exact HO_0.out⟩, ⟨by repeat (first | (with_reducible first | exact HB.out | apply below_alloc | apply pw_below_drewN | apply below_drew1) | exact HB.out)⟩⟩
        case round =>
          clear H'
          try clear c2
          try clear p2
          try clear c4
          try clear c4b0
          try clear c5
          try clear p6
          try clear p2
          obtain ⟨x8_2, x9_2, rfl, rfl, HA, HK2, HO_0, HB⟩ := hrel
          cases gk with
          | zero => exact absurd HA.out (by simp [turnbuckleref03_Alloc.l0])
          | succ k2 =>
            have H := HA.out
            clear HA
            simp only [turnbuckleref03_Alloc.l0] at H
            by_cases c8 : x9_2 > 0
            · rw [if_pos c8] at H
              have c8b0 : decide (0 < x9_2) = true := decide_eq_true c8
              clear c8
              by_cases c9 : 0 ≤ x9_2
              · rw [if_pos c9] at H
                have c9b0 : decide (0 ≤ x9_2) = true := decide_eq_true c9
                clear c9
                by_cases c10 : x9_2 < (l0.length : Int)
                · rw [if_pos c10] at H
                  have c10b0 : decide (x9_2 < (l0.length : Int)) = true := decide_eq_true c10
                  clear c10
                  by_cases c11 : ((rd_T82 l0 x9_2).f0) = t119
                  · rw [if_pos c11] at H
                    have c11b0 : (((rd_T82 l0 x9_2).f0) == t119) = true := beq_iff_eq.mpr c11
                    have c11b1 : (((rd_T82 l0 x9_2).f0) != t119) = false := bne_eq_false_iff_eq.mpr c11
                    clear c11
                    by_cases c12 : (((rd_T82 l0 x9_2).f1).length : Int) > 0
                    · rw [if_pos c12] at H
                      have c12b0 : decide (0 < (((rd_T82 l0 x9_2).f1).length : Int)) = true := decide_eq_true c12
                      have c12b1 : decide (0 < ((rd_T82 l0 x9_2).f1).length) = true := decide_eq_true (by omega)
                      clear c12
                      have H' := Aside0.mk H
                      clear H
                      have p120 : 0 ≤ (x9_2 : Int) := of_decide_eq_true (by first | (with_reducible assumption) | assumption)
                      have q120 : x9_2 < (l0.length : Int) := of_decide_eq_true (by first | (with_reducible assumption) | assumption)
                      obtain ⟨ad120, A120_1, c120_1, A120_2, c120_2, e120, hx120_0, hx120_1, hx120_2, hl120_1, hi120_1, hl120_2, hi120_2⟩ := at_T82 (Kd.V_reads' HO_0.out).2.2 x9_2 p120 q120
                      cases e120
                      obtain ⟨ce120, hce120, hMe120, hcc120⟩ := Kd.V_get HO_0.out z82 x9_2 p120 (by first | exact q120 | exact of_decide_eq_true (by first | (with_reducible assumption) | assumption) | (have e_ := (Kd.V_reads' HO_0.out).1; omega))
                      obtain ⟨ua120_1, uc120_1, ua120_2, uc120_2, rfl, ul120_1, ge120_1, ul120_2, ge120_2⟩ := k82_openF hMe120
                      have hv120_1 := hcc120 1 _ rfl
                      rw [add_field _ _ 1 (by omega)] at hv120_1
                      replace hv120_1 := Option.some.inj (hv120_1.symm.trans hx120_1)
                      injection hv120_1 with hva_ hvn_ hvc_
                      rw [hva_] at ge120_1
                      rw [hvc_] at ul120_1
                      have HL120_1 := Aside0.mk (show Kd.V (Kd.int .i64) 3 _ w.heap.size _ _ ((rd_T82 l0 x9_2).f1) from Kd.V_mk ul120_1 ge120_1)
                      clear hva_ hvn_ hvc_ ge120_1 ul120_1
                      have hv120_2 := hcc120 2 _ rfl
                      rw [add_field _ _ 2 (by omega)] at hv120_2
                      replace hv120_2 := Option.some.inj (hv120_2.symm.trans hx120_2)
                      injection hv120_2 with hva_ hvn_ hvc_
                      rw [hva_] at ge120_2
                      rw [hvc_] at ul120_2
                      have HL120_2 := Aside0.mk (show Kd.V (Kd.int .i64) 3 _ w.heap.size _ _ ((rd_T82 l0 x9_2).f2) from Kd.V_mk ul120_2 ge120_2)
                      clear hva_ hvn_ hvc_ ge120_2 ul120_2
                      clear hcc120 hce120
                      have HR120_1 := Aside0.mk hi120_1
                      have HC120_1 := Aside0.mk hl120_1
                      clear hi120_1 hl120_1
                      have HR120_2 := Aside0.mk hi120_2
                      have HC120_2 := Aside0.mk hl120_2
                      clear hi120_2 hl120_2
                      replace p120 := eq_true p120
                      replace q120 := eq_true q120
                      have p121 : 0 ≤ (x9_2 : Int) := of_decide_eq_true (by first | (with_reducible assumption) | assumption)
                      have q121 : x9_2 < (l0.length : Int) := of_decide_eq_true (by first | (with_reducible assumption) | assumption)
                      obtain ⟨ad121, A121_1, c121_1, A121_2, c121_2, e121, hx121_0, hx121_1, hx121_2, hl121_1, hi121_1, hl121_2, hi121_2⟩ := at_T82 (Kd.V_reads' HO_0.out).2.2 x9_2 p121 q121
                      obtain rfl : ad120 = ad121 := (by injection e121)
                      obtain ⟨ce121, hce121, hMe121, hcc121⟩ := Kd.V_get HO_0.out z82 x9_2 p121 (by first | exact q121 | exact of_decide_eq_true (by first | (with_reducible assumption) | assumption) | (have e_ := (Kd.V_reads' HO_0.out).1; omega))
                      obtain ⟨ua121_1, uc121_1, ua121_2, uc121_2, rfl, ul121_1, ge121_1, ul121_2, ge121_2⟩ := k82_openF hMe121
                      have hv121_1 := hcc121 1 _ rfl
                      rw [add_field _ _ 1 (by omega)] at hv121_1
                      replace hv121_1 := Option.some.inj (hv121_1.symm.trans hx121_1)
                      injection hv121_1 with hva_ hvn_ hvc_
                      rw [hva_] at ge121_1
                      rw [hvc_] at ul121_1
                      have HL121_1 := Aside0.mk (show Kd.V (Kd.int .i64) 3 _ w.heap.size _ _ ((rd_T82 l0 x9_2).f1) from Kd.V_mk ul121_1 ge121_1)
                      clear hva_ hvn_ hvc_ ge121_1 ul121_1
                      have hv121_2 := hcc121 2 _ rfl
                      rw [add_field _ _ 2 (by omega)] at hv121_2
                      replace hv121_2 := Option.some.inj (hv121_2.symm.trans hx121_2)
                      injection hv121_2 with hva_ hvn_ hvc_
                      rw [hva_] at ge121_2
                      rw [hvc_] at ul121_2
                      have HL121_2 := Aside0.mk (show Kd.V (Kd.int .i64) 3 _ w.heap.size _ _ ((rd_T82 l0 x9_2).f2) from Kd.V_mk ul121_2 ge121_2)
                      clear hva_ hvn_ hvc_ ge121_2 ul121_2
                      clear hcc121 hce121
                      have HR121_1 := Aside0.mk hi121_1
                      have HC121_1 := Aside0.mk hl121_1
                      clear hi121_1 hl121_1
                      have HR121_2 := Aside0.mk hi121_2
                      have HC121_2 := Aside0.mk hl121_2
                      clear hi121_2 hl121_2
                      replace p121 := eq_true p121
                      replace q121 := eq_true q121
                      have ea_ := Option.some.inj (hx120_1.symm.trans hx121_1)
                      injection ea_ with ea_ en_ ec_
                      subst ea_
                      subst ec_
                      clear en_
                      have ea_ := Option.some.inj (hx120_2.symm.trans hx121_2)
                      injection ea_ with ea_ en_ ec_
                      subst ea_
                      subst ec_
                      clear en_
                      go_wp2
                      go_roundg k2
                      case measure => have := HJ2.out; have := HK2.out; omega
                      case rel => exact ⟨(x9_2), (wrap64 (x9_2 - 1)), (by first | rfl | (simp; done) | (simp [*]; done)), (by first | rfl | (simp; done) | (simp [*]; done)), H', ⟨by have := HJ2.out; have := HK2.out; omega⟩, ⟨by (with_reducible repeat (first | apply Kd.V_alloc | apply Kd.V_drewN | apply Kd.V_drew)); exact HO_0.out⟩, ⟨by repeat (first | (with_reducible first | exact HB.out | apply below_alloc | apply pw_below_drewN | apply below_drew1) | exact HB.out)⟩⟩
                    · rw [if_neg c12] at H
                      have c12b0 : decide (0 < (((rd_T82 l0 x9_2).f1).length : Int)) = false := decide_eq_false c12
                      have c12b1 : decide (0 < ((rd_T82 l0 x9_2).f1).length) = false := decide_eq_false (by omega)
                      clear c12
                      have H' := Aside0.mk H
                      clear H
                      have p120 : 0 ≤ (x9_2 : Int) := of_decide_eq_true (by first | (with_reducible assumption) | assumption)
                      have q120 : x9_2 < (l0.length : Int) := of_decide_eq_true (by first | (with_reducible assumption) | assumption)
                      obtain ⟨ad120, A120_1, c120_1, A120_2, c120_2, e120, hx120_0, hx120_1, hx120_2, hl120_1, hi120_1, hl120_2, hi120_2⟩ := at_T82 (Kd.V_reads' HO_0.out).2.2 x9_2 p120 q120
                      cases e120
                      obtain ⟨ce120, hce120, hMe120, hcc120⟩ := Kd.V_get HO_0.out z82 x9_2 p120 (by first | exact q120 | exact of_decide_eq_true (by first | (with_reducible assumption) | assumption) | (have e_ := (Kd.V_reads' HO_0.out).1; omega))
                      obtain ⟨ua120_1, uc120_1, ua120_2, uc120_2, rfl, ul120_1, ge120_1, ul120_2, ge120_2⟩ := k82_openF hMe120
                      have hv120_1 := hcc120 1 _ rfl
                      rw [add_field _ _ 1 (by omega)] at hv120_1
                      replace hv120_1 := Option.some.inj (hv120_1.symm.trans hx120_1)
                      injection hv120_1 with hva_ hvn_ hvc_
                      rw [hva_] at ge120_1
                      rw [hvc_] at ul120_1
                      have HL120_1 := Aside0.mk (show Kd.V (Kd.int .i64) 3 _ w.heap.size _ _ ((rd_T82 l0 x9_2).f1) from Kd.V_mk ul120_1 ge120_1)
                      clear hva_ hvn_ hvc_ ge120_1 ul120_1
                      have hv120_2 := hcc120 2 _ rfl
                      rw [add_field _ _ 2 (by omega)] at hv120_2
                      replace hv120_2 := Option.some.inj (hv120_2.symm.trans hx120_2)
                      injection hv120_2 with hva_ hvn_ hvc_
                      rw [hva_] at ge120_2
                      rw [hvc_] at ul120_2
                      have HL120_2 := Aside0.mk (show Kd.V (Kd.int .i64) 3 _ w.heap.size _ _ ((rd_T82 l0 x9_2).f2) from Kd.V_mk ul120_2 ge120_2)
                      clear hva_ hvn_ hvc_ ge120_2 ul120_2
                      clear hcc120 hce120
                      have HR120_1 := Aside0.mk hi120_1
                      have HC120_1 := Aside0.mk hl120_1
                      clear hi120_1 hl120_1
                      have HR120_2 := Aside0.mk hi120_2
                      have HC120_2 := Aside0.mk hl120_2
                      clear hi120_2 hl120_2
                      replace p120 := eq_true p120
                      replace q120 := eq_true q120
                      have p121 : 0 ≤ (x9_2 : Int) := of_decide_eq_true (by first | (with_reducible assumption) | assumption)
                      have q121 : x9_2 < (l0.length : Int) := of_decide_eq_true (by first | (with_reducible assumption) | assumption)
                      obtain ⟨ad121, A121_1, c121_1, A121_2, c121_2, e121, hx121_0, hx121_1, hx121_2, hl121_1, hi121_1, hl121_2, hi121_2⟩ := at_T82 (Kd.V_reads' HO_0.out).2.2 x9_2 p121 q121
                      obtain rfl : ad120 = ad121 := (by injection e121)
                      obtain ⟨ce121, hce121, hMe121, hcc121⟩ := Kd.V_get HO_0.out z82 x9_2 p121 (by first | exact q121 | exact of_decide_eq_true (by first | (with_reducible assumption) | assumption) | (have e_ := (Kd.V_reads' HO_0.out).1; omega))
                      obtain ⟨ua121_1, uc121_1, ua121_2, uc121_2, rfl, ul121_1, ge121_1, ul121_2, ge121_2⟩ := k82_openF hMe121
                      have hv121_1 := hcc121 1 _ rfl
                      rw [add_field _ _ 1 (by omega)] at hv121_1
                      replace hv121_1 := Option.some.inj (hv121_1.symm.trans hx121_1)
                      injection hv121_1 with hva_ hvn_ hvc_
                      rw [hva_] at ge121_1
                      rw [hvc_] at ul121_1
                      have HL121_1 := Aside0.mk (show Kd.V (Kd.int .i64) 3 _ w.heap.size _ _ ((rd_T82 l0 x9_2).f1) from Kd.V_mk ul121_1 ge121_1)
                      clear hva_ hvn_ hvc_ ge121_1 ul121_1
                      have hv121_2 := hcc121 2 _ rfl
                      rw [add_field _ _ 2 (by omega)] at hv121_2
                      replace hv121_2 := Option.some.inj (hv121_2.symm.trans hx121_2)
                      injection hv121_2 with hva_ hvn_ hvc_
                      rw [hva_] at ge121_2
                      rw [hvc_] at ul121_2
                      have HL121_2 := Aside0.mk (show Kd.V (Kd.int .i64) 3 _ w.heap.size _ _ ((rd_T82 l0 x9_2).f2) from Kd.V_mk ul121_2 ge121_2)
                      clear hva_ hvn_ hvc_ ge121_2 ul121_2
                      clear hcc121 hce121
                      have HR121_1 := Aside0.mk hi121_1
                      have HC121_1 := Aside0.mk hl121_1
                      clear hi121_1 hl121_1
                      have HR121_2 := Aside0.mk hi121_2
                      have HC121_2 := Aside0.mk hl121_2
                      clear hi121_2 hl121_2
                      replace p121 := eq_true p121
                      replace q121 := eq_true q121
                      have ea_ := Option.some.inj (hx120_1.symm.trans hx121_1)
                      injection ea_ with ea_ en_ ec_
                      subst ea_
                      subst ec_
                      clear en_
                      have ea_ := Option.some.inj (hx120_2.symm.trans hx121_2)
                      injection ea_ with ea_ en_ ec_
                      subst ea_
                      subst ec_
                      clear en_
                      go_wp2
                      go_roundg k2
                      case measure => have := HJ2.out; have := HK2.out; omega
                      case rel => exact ⟨(x8_2), (wrap64 (x9_2 - 1)), (by first | rfl | (simp; done) | (simp [*]; done)), (by first | rfl | (simp; done) | (simp [*]; done)), H', ⟨by have := HJ2.out; have := HK2.out; omega⟩, ⟨by (with_reducible repeat (first | apply Kd.V_alloc | apply Kd.V_drewN | apply Kd.V_drew)); exact HO_0.out⟩, ⟨by repeat (first | (with_reducible first | exact HB.out | apply below_alloc | apply pw_below_drewN | apply below_drew1) | exact HB.out)⟩⟩
                  · rw [if_neg c11] at H
                    have c11b0 : (((rd_T82 l0 x9_2).f0) == t119) = false := beq_eq_false_iff_ne.mpr c11
                    have c11b1 : (((rd_T82 l0 x9_2).f0) != t119) = true := bne_iff_ne.mpr c11
                    have H' := Aside0.mk H
                    clear H
                    have p120 : 0 ≤ (x9_2 : Int) := of_decide_eq_true (by first | (with_reducible assumption) | assumption)
                    have q120 : x9_2 < (l0.length : Int) := of_decide_eq_true (by first | (with_reducible assumption) | assumption)
                    obtain ⟨ad120, A120_1, c120_1, A120_2, c120_2, e120, hx120_0, hx120_1, hx120_2, hl120_1, hi120_1, hl120_2, hi120_2⟩ := at_T82 (Kd.V_reads' HO_0.out).2.2 x9_2 p120 q120
                    cases e120
                    obtain ⟨ce120, hce120, hMe120, hcc120⟩ := Kd.V_get HO_0.out z82 x9_2 p120 (by first | exact q120 | exact of_decide_eq_true (by first | (with_reducible assumption) | assumption) | (have e_ := (Kd.V_reads' HO_0.out).1; omega))
                    obtain ⟨ua120_1, uc120_1, ua120_2, uc120_2, rfl, ul120_1, ge120_1, ul120_2, ge120_2⟩ := k82_openF hMe120
                    have hv120_1 := hcc120 1 _ rfl
                    rw [add_field _ _ 1 (by omega)] at hv120_1
                    replace hv120_1 := Option.some.inj (hv120_1.symm.trans hx120_1)
                    injection hv120_1 with hva_ hvn_ hvc_
                    rw [hva_] at ge120_1
                    rw [hvc_] at ul120_1
                    have HL120_1 := Aside0.mk (show Kd.V (Kd.int .i64) 3 _ w.heap.size _ _ ((rd_T82 l0 x9_2).f1) from Kd.V_mk ul120_1 ge120_1)
                    clear hva_ hvn_ hvc_ ge120_1 ul120_1
                    have hv120_2 := hcc120 2 _ rfl
                    rw [add_field _ _ 2 (by omega)] at hv120_2
                    replace hv120_2 := Option.some.inj (hv120_2.symm.trans hx120_2)
                    injection hv120_2 with hva_ hvn_ hvc_
                    rw [hva_] at ge120_2
                    rw [hvc_] at ul120_2
                    have HL120_2 := Aside0.mk (show Kd.V (Kd.int .i64) 3 _ w.heap.size _ _ ((rd_T82 l0 x9_2).f2) from Kd.V_mk ul120_2 ge120_2)
                    clear hva_ hvn_ hvc_ ge120_2 ul120_2
                    clear hcc120 hce120
                    have HR120_1 := Aside0.mk hi120_1
                    have HC120_1 := Aside0.mk hl120_1
                    clear hi120_1 hl120_1
                    have HR120_2 := Aside0.mk hi120_2
                    have HC120_2 := Aside0.mk hl120_2
                    clear hi120_2 hl120_2
                    replace p120 := eq_true p120
                    replace q120 := eq_true q120
                    go_wp2
                    go_roundg k2
                    case measure => have := HJ2.out; have := HK2.out; omega
                    case rel => exact ⟨(x8_2), (wrap64 (x9_2 - 1)), (by first | rfl | (simp; done) | (simp [*]; done)), (by first | rfl | (simp; done) | (simp [*]; done)), H', ⟨by have := HJ2.out; have := HK2.out; omega⟩, ⟨by (with_reducible repeat (first | apply Kd.V_alloc | apply Kd.V_drewN | apply Kd.V_drew)); exact HO_0.out⟩, ⟨by repeat (first | (with_reducible first | exact HB.out | apply below_alloc | apply pw_below_drewN | apply below_drew1) | exact HB.out)⟩⟩
                · rw [if_neg c10] at H
                  exact absurd H (by simp)
              · rw [if_neg c9] at H
                exact absurd H (by simp)
            · rw [if_neg c8] at H
              have c8b0 : decide (0 < x9_2) = false := decide_eq_false c8
              clear c8
              by_cases c13 : x8_2 = 0
              · rw [if_pos c13] at H
                have c13b0 : (x8_2 == 0) = true := beq_iff_eq.mpr c13
                have c13b1 : (x8_2 != 0) = false := bne_eq_false_iff_eq.mpr c13
                clear c13
                have H' := Aside0.mk H
                clear H
                go_wp2
                go_loopg [8, 10] k2 (fun kq v8 v10 w' => ∃ (x8_3 : Int) (x10_3 : Int), v8 = .int .i64 x8_3 ∧ v10 = .int .i64 x10_3 ∧ Aside0 (turnbuckleref03_Alloc.l1 kq l0 t119 x8_3 x10_3 = some (r1, r2, r3)) ∧ Aside0 (kq ≤ k2) ∧ Aside0 (Kd.V k82 82 w' w.heap.size (fun k_ => (P0_ k_ ∨ w.heap.size ≤ k_)) (.slice A0 l0.length c0) l0) ∧ Aside0 (Below w.heap.size w w'))
                case atStart => exact ⟨(x8_2), (wrap64 ((l0.length : Int) - 1)), (by first | rfl | (simp; done) | (simp [*]; done)), (by first | rfl | (simp; done) | (simp [*]; done)), H', ⟨Nat.le_refl _⟩, ⟨by (with_reducible repeat (first | apply Kd.V_alloc | apply Kd.V_drewN | apply Kd.V_drew)); exact HO_0.out⟩, ⟨by repeat (first | (with_reducible first | exact HB.out | apply below_alloc | apply pw_below_drewN | apply below_drew1) | exact HB.out)⟩⟩
                case round =>
                  clear H'
                  try clear c1
                  try clear p1
                  try clear q1
                  try clear hx1
                  try clear c2
                  try clear p2
                  try clear c4
                  try clear c4b0
                  try clear c5
                  try clear p6
                  try clear c8
                  try clear c8b0
                  try clear c9
                  try clear c9b0
                  try clear c10
                  try clear c10b0
                  try clear c11
                  try clear c11b0
                  try clear c11b1
                  try clear c12
                  try clear c12b0
                  try clear c12b1
                  try clear p12
                  try clear q12
                  try clear hx12
                  try clear c13
                  try clear c13b0
                  try clear c13b1
                  try clear hx120_0
                  try clear hx120_1
                  try clear hx120_2
                  try clear hx121_0
                  try clear hx121_1
                  try clear hx121_2
                  try clear p120
                  try clear p121
                  try clear p2
                  try clear p6
                  try clear q120
                  try clear q121
                  obtain ⟨x8_3, x10_3, rfl, rfl, HA, HK3, HO_0, HB⟩ := hrel
                  cases gk with
                  | zero => exact absurd HA.out (by simp [turnbuckleref03_Alloc.l1])
                  | succ k3 =>
                    have H := HA.out
                    clear HA
                    simp only [turnbuckleref03_Alloc.l1] at H
                    by_cases c14 : x10_3 > 0
                    · rw [if_pos c14] at H
                      have c14b0 : decide (0 < x10_3) = true := decide_eq_true c14
                      clear c14
                      by_cases c15 : 0 ≤ x10_3
                      · rw [if_pos c15] at H
                        have c15b0 : decide (0 ≤ x10_3) = true := decide_eq_true c15
                        clear c15
                        by_cases c16 : x10_3 < (l0.length : Int)
                        · rw [if_pos c16] at H
                          have c16b0 : decide (x10_3 < (l0.length : Int)) = true := decide_eq_true c16
                          clear c16
                          by_cases c17 : ((rd_T82 l0 x10_3).f0) = 0
                          · rw [if_pos c17] at H
                            have c17b0 : (((rd_T82 l0 x10_3).f0) == 0) = true := beq_iff_eq.mpr c17
                            have c17b1 : (((rd_T82 l0 x10_3).f0) != 0) = false := bne_eq_false_iff_eq.mpr c17
                            clear c17
                            have H' := Aside0.mk H
                            clear H
                            have p122 : 0 ≤ (x10_3 : Int) := of_decide_eq_true (by first | (with_reducible assumption) | assumption)
                            have q122 : x10_3 < (l0.length : Int) := of_decide_eq_true (by first | (with_reducible assumption) | assumption)
                            obtain ⟨ad122, A122_1, c122_1, A122_2, c122_2, e122, hx122_0, hx122_1, hx122_2, hl122_1, hi122_1, hl122_2, hi122_2⟩ := at_T82 (Kd.V_reads' HO_0.out).2.2 x10_3 p122 q122
                            cases e122
                            obtain ⟨ce122, hce122, hMe122, hcc122⟩ := Kd.V_get HO_0.out z82 x10_3 p122 (by first | exact q122 | exact of_decide_eq_true (by first | (with_reducible assumption) | assumption) | (have e_ := (Kd.V_reads' HO_0.out).1; omega))
                            obtain ⟨ua122_1, uc122_1, ua122_2, uc122_2, rfl, ul122_1, ge122_1, ul122_2, ge122_2⟩ := k82_openF hMe122
                            have hv122_1 := hcc122 1 _ rfl
                            rw [add_field _ _ 1 (by omega)] at hv122_1
                            replace hv122_1 := Option.some.inj (hv122_1.symm.trans hx122_1)
                            injection hv122_1 with hva_ hvn_ hvc_
                            rw [hva_] at ge122_1
                            rw [hvc_] at ul122_1
                            have HL122_1 := Aside0.mk (show Kd.V (Kd.int .i64) 3 _ w.heap.size _ _ ((rd_T82 l0 x10_3).f1) from Kd.V_mk ul122_1 ge122_1)
                            clear hva_ hvn_ hvc_ ge122_1 ul122_1
                            have hv122_2 := hcc122 2 _ rfl
                            rw [add_field _ _ 2 (by omega)] at hv122_2
                            replace hv122_2 := Option.some.inj (hv122_2.symm.trans hx122_2)
                            injection hv122_2 with hva_ hvn_ hvc_
                            rw [hva_] at ge122_2
                            rw [hvc_] at ul122_2
                            have HL122_2 := Aside0.mk (show Kd.V (Kd.int .i64) 3 _ w.heap.size _ _ ((rd_T82 l0 x10_3).f2) from Kd.V_mk ul122_2 ge122_2)
                            clear hva_ hvn_ hvc_ ge122_2 ul122_2
                            clear hcc122 hce122
                            have HR122_1 := Aside0.mk hi122_1
                            have HC122_1 := Aside0.mk hl122_1
                            clear hi122_1 hl122_1
                            have HR122_2 := Aside0.mk hi122_2
                            have HC122_2 := Aside0.mk hl122_2
                            clear hi122_2 hl122_2
                            replace p122 := eq_true p122
                            replace q122 := eq_true q122
                            go_wp2
                            go_roundg k3
                            case measure => have := HJ2.out; have := HK2.out; have := HK3.out; omega
                            case rel => exact ⟨(x10_3), (wrap64 (x10_3 - 1)), (by first | rfl | (simp; done) | (simp [*]; done)), (by first | rfl | (simp; done) | (simp [*]; done)), H', ⟨by have := HJ2.out; have := HK2.out; have := HK3.out; omega⟩, ⟨by (with_reducible repeat (first | apply Kd.V_alloc | apply Kd.V_drewN | apply Kd.V_drew)); exact HO_0.out⟩, ⟨by repeat (first | (with_reducible first | exact HB.out | apply below_alloc | apply pw_below_drewN | apply below_drew1) | exact HB.out)⟩⟩
                          · rw [if_neg c17] at H
                            have c17b0 : (((rd_T82 l0 x10_3).f0) == 0) = false := beq_eq_false_iff_ne.mpr c17
                            have c17b1 : (((rd_T82 l0 x10_3).f0) != 0) = true := bne_iff_ne.mpr c17
                            have H' := Aside0.mk H
                            clear H
                            have p122 : 0 ≤ (x10_3 : Int) := of_decide_eq_true (by first | (with_reducible assumption) | assumption)
                            have q122 : x10_3 < (l0.length : Int) := of_decide_eq_true (by first | (with_reducible assumption) | assumption)
                            obtain ⟨ad122, A122_1, c122_1, A122_2, c122_2, e122, hx122_0, hx122_1, hx122_2, hl122_1, hi122_1, hl122_2, hi122_2⟩ := at_T82 (Kd.V_reads' HO_0.out).2.2 x10_3 p122 q122
                            cases e122
                            obtain ⟨ce122, hce122, hMe122, hcc122⟩ := Kd.V_get HO_0.out z82 x10_3 p122 (by first | exact q122 | exact of_decide_eq_true (by first | (with_reducible assumption) | assumption) | (have e_ := (Kd.V_reads' HO_0.out).1; omega))
                            obtain ⟨ua122_1, uc122_1, ua122_2, uc122_2, rfl, ul122_1, ge122_1, ul122_2, ge122_2⟩ := k82_openF hMe122
                            have hv122_1 := hcc122 1 _ rfl
                            rw [add_field _ _ 1 (by omega)] at hv122_1
                            replace hv122_1 := Option.some.inj (hv122_1.symm.trans hx122_1)
                            injection hv122_1 with hva_ hvn_ hvc_
                            rw [hva_] at ge122_1
                            rw [hvc_] at ul122_1
                            have HL122_1 := Aside0.mk (show Kd.V (Kd.int .i64) 3 _ w.heap.size _ _ ((rd_T82 l0 x10_3).f1) from Kd.V_mk ul122_1 ge122_1)
                            clear hva_ hvn_ hvc_ ge122_1 ul122_1
                            have hv122_2 := hcc122 2 _ rfl
                            rw [add_field _ _ 2 (by omega)] at hv122_2
                            replace hv122_2 := Option.some.inj (hv122_2.symm.trans hx122_2)
                            injection hv122_2 with hva_ hvn_ hvc_
                            rw [hva_] at ge122_2
                            rw [hvc_] at ul122_2
                            have HL122_2 := Aside0.mk (show Kd.V (Kd.int .i64) 3 _ w.heap.size _ _ ((rd_T82 l0 x10_3).f2) from Kd.V_mk ul122_2 ge122_2)
                            clear hva_ hvn_ hvc_ ge122_2 ul122_2
                            clear hcc122 hce122
                            have HR122_1 := Aside0.mk hi122_1
                            have HC122_1 := Aside0.mk hl122_1
                            clear hi122_1 hl122_1
                            have HR122_2 := Aside0.mk hi122_2
                            have HC122_2 := Aside0.mk hl122_2
                            clear hi122_2 hl122_2
                            replace p122 := eq_true p122
                            replace q122 := eq_true q122
                            go_wp2
                            go_roundg k3
                            case measure => have := HJ2.out; have := HK2.out; have := HK3.out; omega
                            case rel => exact ⟨(x8_3), (wrap64 (x10_3 - 1)), (by first | rfl | (simp; done) | (simp [*]; done)), (by first | rfl | (simp; done) | (simp [*]; done)), H', ⟨by have := HJ2.out; have := HK2.out; have := HK3.out; omega⟩, ⟨by (with_reducible repeat (first | apply Kd.V_alloc | apply Kd.V_drewN | apply Kd.V_drew)); exact HO_0.out⟩, ⟨by repeat (first | (with_reducible first | exact HB.out | apply below_alloc | apply pw_below_drewN | apply below_drew1) | exact HB.out)⟩⟩
                        · rw [if_neg c16] at H
                          exact absurd H (by simp)
                      · rw [if_neg c15] at H
                        exact absurd H (by simp)
                    · rw [if_neg c14] at H
                      have c14b0 : decide (0 < x10_3) = false := decide_eq_false c14
                      clear c14
                      by_cases c18 : x8_3 = 0
                      · rw [if_pos c18] at H
                        have c18b0 : (x8_3 == 0) = true := beq_iff_eq.mpr c18
                        have c18b1 : (x8_3 != 0) = false := bne_eq_false_iff_eq.mpr c18
                        clear c18
                        simp only [Option.some.injEq, Prod.mk.injEq] at H
                        obtain ⟨rfl, rfl, rfl⟩ := H
                        go_wp2
                        go_ret3
                        exact ⟨_, by first | rfl | (simp [errW_none, errW_some] <;> rfl) | (simp [*, errW_none, errW_some] <;> rfl), by (with_reducible repeat (first | apply Kd.V_alloc | apply Kd.V_drewN | apply Kd.V_drew)); exact HO_0.out, by repeat (first | (with_reducible first | exact HB.out | apply below_alloc | apply pw_below_drewN | apply below_drew1) | exact HB.out)⟩
                      · rw [if_neg c18] at H
                        have c18b0 : (x8_3 == 0) = false := beq_eq_false_iff_ne.mpr c18
                        have c18b1 : (x8_3 != 0) = true := bne_iff_ne.mpr c18
                        have H' := Aside0.mk H
                        clear H
                        go_wp2_with (first | ((with_reducible refine gate_dst (N := 11) rfl ?_); (try (refine gate_guard (by rfl) ?_; dsimp only)); refine box_event ?hg (N := 11) ?hd (cs := #[.int .i64 0, .slice none 0 0, .slice none 0 0]) (t := 82) ?hr ?_; (case hd => rfl); (case hg => rfl); (case hr => first | (go_simp; done) | (go_simp; rfl)); intro gb123 hg w19 hbox hb; have n0_ := Aside0.mk (Kd.V_below (Kd.V_elderB (by (with_reducible repeat (first | apply Kd.V_alloc | apply Kd.V_drewN | apply Kd.V_drew)); exact HO_0.out) gb123 (Nat.le_of_eq hg.symm)) hb); have n1_ := Aside0.mk (below_step (by repeat (first | (with_reducible first | exact HB.out | apply below_alloc | apply pw_below_drewN | apply below_drew1) | exact HB.out)) hb); have n2_ := Aside0.mk (hbox); have n3_ := Aside0.mk ((by rw [hg]; exact (below_size (by repeat (first | (with_reducible first | exact HB.out | apply below_alloc | apply pw_below_drewN | apply below_drew1) | exact HB.out))) : w.heap.size ≤ gb123)); have n4_ := Aside0.mk ((by rw [hg]; exact (below_size (by repeat (first | (with_reducible first | exact HB.out | apply below_alloc | apply pw_below_drewN | apply below_drew1) | exact HB.out))) : w.heap.size ≤ gb123)); clear HO_0; clear HB; have HO_0 := n0_; have HB := n1_; have BK123 := n2_; have GW123 := n3_; have GE123 := n4_; clear n0_ n1_ n2_ n3_ n4_; clear hb hbox hg; have hcz20_0 : w19.cell? ⟨gb123, 0, none⟩ = some (.int .i64 0) := (blk_cell BK123.out 0).trans rfl; have hcz20_1 : w19.cell? ⟨gb123, 1, none⟩ = some (.slice none 0 0) := (blk_cell BK123.out 1).trans rfl; have hcz20_2 : w19.cell? ⟨gb123, 2, none⟩ = some (.slice none 0 0) := (blk_cell BK123.out 2).trans rfl; have hfz20_0 := blk_frozen BK123.out 0; have hfz20_1 := blk_frozen BK123.out 1; have hfz20_2 := blk_frozen BK123.out 2))
                        go_loopg [12] k3 (fun kq v12 w' => ∃ (x12_4 : Int) (x124001_4 : List Int) (u124001 : Value), v12 = .int .i64 x12_4 ∧ Aside0 (turnbuckleref03_Alloc.l2 kq l0 t119 x8_3 x12_4 t119 x124001_4 = some (r1, r2, r3)) ∧ Aside0 (kq ≤ k3) ∧ Aside0 (Kd.V k82 82 w' w.heap.size (fun k_ => (P0_ k_ ∨ w.heap.size ≤ k_) ∧ some k_ ≠ (u124001 : Value).ownBlock ∧ k_ ≠ gb123) (.slice A0 l0.length c0) l0) ∧ Aside0 (Kd.Q (Kd.int .i64) 3 w' w.heap.size (fun k_ => (w.heap.size ≤ k_)) u124001 x124001_4) ∧ Aside0 (w'.heap[gb123]? = some (.cells #[.int .i64 t119, u124001, (.slice none 0 0)] 82 (0, 0))) ∧ Aside0 (Below w.heap.size w w'))
                        case atStart => exact ⟨(0), (([] : List Int)), (.slice none 0 0), (by first | rfl | (simp; done) | (simp [*]; done)), H', ⟨Nat.le_refl _⟩, ⟨by (with_reducible repeat (first | apply Kd.V_alloc | apply Kd.V_drewN | apply Kd.V_drew)); exact Kd.V_mono (Kd.V_far (p := ⟨gb123, 2, none⟩) (Kd.V_far (p := ⟨gb123, 1, none⟩) (Kd.V_far (p := ⟨gb123, 0, none⟩) (Kd.V_mono HO_0.out (fun k_ hk => (⟨hk, hk.2⟩ : _ ∧ k_ ≠ gb123))) (fun _ hk => hk.2) (.int .i64 t119)) (fun _ hk => hk.2) (.slice none 0 0)) (fun _ hk => hk.2) (.slice none 0 0)) (fun _ hk => ⟨hk.1.1, ⟨(by simp [Value.ownBlock]), hk.1.2⟩⟩)⟩, ⟨Kd.Q_of_R (by first | exact Kd.R_nil _ _ _ _ _ | exact Kd.N_nil _ _ _ _ _ | exact Kd.V_nil _ _ _ _ _ | exact Kd.Q_nil _ _ _ _ _ | exact Kd.S_nil _ _ _ _ _)⟩, ⟨by (with_reducible repeat (first | refine blk_drewN ?_ _ | refine blk_drew ?_ | refine blk_alloc ?_ _)); refine blk_put (cs := #[.int .i64 t119, .slice none 0 0, .slice none 0 0]) ?_ 2 _ rfl; (with_reducible repeat (first | refine blk_drewN ?_ _ | refine blk_drew ?_ | refine blk_alloc ?_ _)); refine blk_put (cs := #[.int .i64 t119, .slice none 0 0, .slice none 0 0]) ?_ 1 _ rfl; (with_reducible repeat (first | refine blk_drewN ?_ _ | refine blk_drew ?_ | refine blk_alloc ?_ _)); refine blk_put (cs := #[.int .i64 0, .slice none 0 0, .slice none 0 0]) ?_ 0 _ rfl; (with_reducible repeat (first | refine blk_drewN ?_ _ | refine blk_drew ?_ | refine blk_alloc ?_ _)); exact BK123.out⟩, ⟨by repeat (first | (with_reducible first | exact HB.out | apply below_alloc | apply pw_below_drewN | apply below_drew1 | refine below_set ?_ GE123.out) | exact HB.out)⟩⟩
                        case round =>
                          clear H'
                          try clear c1
                          try clear p1
                          try clear q1
                          try clear hx1
                          try clear c2
                          try clear p2
                          try clear c4
                          try clear c4b0
                          try clear c5
                          try clear p6
                          try clear c8
                          try clear c8b0
                          try clear c9
                          try clear c9b0
                          try clear c10
                          try clear c10b0
                          try clear c11
                          try clear c11b0
                          try clear c11b1
                          try clear c12
                          try clear c12b0
                          try clear c12b1
                          try clear p12
                          try clear q12
                          try clear hx12
                          try clear c13
                          try clear c13b0
                          try clear c13b1
                          try clear c14
                          try clear c14b0
                          try clear c15
                          try clear c15b0
                          try clear c16
                          try clear c16b0
                          try clear c17
                          try clear c17b0
                          try clear c17b1
                          try clear c18
                          try clear c18b0
                          try clear c18b1
                          try clear hcz20_0
                          try clear hcz20_1
                          try clear hcz20_2
                          try clear hfz20_0
                          try clear hfz20_1
                          try clear hfz20_2
                          try clear hx120_0
                          try clear hx120_1
                          try clear hx120_2
                          try clear hx121_0
                          try clear hx121_1
                          try clear hx121_2
                          try clear hx122_0
                          try clear hx122_1
                          try clear hx122_2
                          try clear p1
                          try clear p12
                          try clear p120
                          try clear p121
                          try clear p122
                          try clear p2
                          try clear p6
                          try clear q1
                          try clear q12
                          try clear q120
                          try clear q121
                          try clear q122
                          obtain ⟨x12_4, x124001_4, u124001, rfl, HA, HK4, HO_0, HO_124001, BK123, HB⟩ := hrel
                          cases gk with
                          | zero => exact absurd HA.out (by simp [turnbuckleref03_Alloc.l2])
                          | succ k4 =>
                            have H := HA.out
                            clear HA
                            simp only [turnbuckleref03_Alloc.l2] at H
                            by_cases c21 : x12_4 < 512
                            · rw [if_pos c21] at H
                              have c21b0 : decide (x12_4 < 512) = true := decide_eq_true c21
                              clear c21
                              by_cases c22 : x124001_4.length < 17592186044416
                              · rw [if_pos c22] at H
                                have LMc22 := Aside0.mk c22
                                clear c22
                                obtain ⟨y124, hy124⟩ : ∃ y_ : List Int, y_ = (x124001_4 ++ [wrap64 ((wrap64 (512 * x8_3)) + x12_4)]) := ⟨_, rfl⟩
                                replace H : (turnbuckleref03_Alloc.l2 k4 l0 t119 x8_3 (wrap64 (x12_4 + t119)) t119 y124) = some (r1, r2, r3) := by first | (rw [hy124]; with_reducible exact H) | (have H2_ := (Option.bind_some _ _).symm.trans H; rw [hy124]; with_reducible exact H2_) | (have H2_ := (Option.bind_some _ _).symm.trans H; with_reducible exact H2_) | with_reducible exact H | (rw [hy124]; exact H) | exact H
                                have Ny124 := Aside0.mk hy124
                                clear hy124
                                have H' := Aside0.mk H
                                clear H
                                have hcz23_0 : wr.cell? ⟨gb123, 0, none⟩ = some (.int .i64 t119) := (blk_cell BK123.out 0).trans rfl
                                have hcz23_1 : wr.cell? ⟨gb123, 1, none⟩ = some (u124001) := (blk_cell BK123.out 1).trans rfl
                                have hcz23_2 : wr.cell? ⟨gb123, 2, none⟩ = some (.slice none 0 0) := (blk_cell BK123.out 2).trans rfl
                                have hfz23_0 := blk_frozen BK123.out 0
                                have hfz23_1 := blk_frozen BK123.out 1
                                have hfz23_2 := blk_frozen BK123.out 2
                                go_wp2_with (first | ((with_reducible refine gate_builtin (b := .append) (xs := #[.tmp 75, .tmp 80]) rfl ?_); (try (refine gate_guard (by rfl) ?_; dsimp only)); at_builtin; refine Kd.Q_append (Kd.int .i64) (w0 := w) w.heap.size rfl (.tmp 75) (.tmp 80) 34 3 (.int .i64 0) 8 rfl Tryd.underlying34 info3 rfl (by decide) (by omega) u124001 x124001_4 (wrap64 ((wrap64 (512 * x8_3)) + x12_4)) [.int .i64 (wrap64 ((wrap64 (512 * x8_3)) + x12_4))] (fun k_ => (w.heap.size ≤ k_)) (fun _ => False) rfl rfl ?aP (fun _ hk => hk.elim) ?aF ?aO ?aB ?aS ?aL ?_; (case aP => exact rfl); (case aB => exact (by repeat (first | (with_reducible first | exact HB.out | apply below_alloc | apply pw_below_drewN | apply below_drew1 | refine below_set ?_ GE123.out) | exact HB.out))); (case aF => exact (fun k_ hk => (Nat.le_trans (below_size (by repeat (first | (with_reducible first | exact HB.out | apply below_alloc | apply pw_below_drewN | apply below_drew1 | refine below_set ?_ GE123.out) | exact HB.out))) hk))); (case aO => exact (by (with_reducible repeat (first | apply Kd.Q_alloc | apply Kd.Q_drewN | apply Kd.Q_drew)); exact HO_124001.out)); (case aS => exact (below_size (by repeat (first | (with_reducible first | exact HB.out | apply below_alloc | apply pw_below_drewN | apply below_drew1 | refine below_set ?_ GE123.out) | exact HB.out)))); (case aL => have := LMc22.out; omega); intro v125 w24 ho hb hg hat; rw [← Ny124.out] at ho; have n0_ := Aside0.mk (Kd.V_afterv (ok := (fun k_ => (P0_ k_ ∨ w.heap.size ≤ k_) ∧ k_ ≠ gb123)) (by (with_reducible repeat (first | apply Kd.V_alloc | apply Kd.V_drewN | apply Kd.V_drew)); exact Kd.V_mono HO_0.out (fun _ hk => ⟨⟨hk.1, hk.2.2⟩, hk.2.1⟩)) hg hat); have n1_ := Aside0.mk (blk_grown (g := gb123) (o := .cells #[.int .i64 t119, u124001, .slice none 0 0] 82 (0, 0)) (by (with_reducible repeat (first | refine blk_drewN ?_ _ | refine blk_drew ?_ | refine blk_alloc ?_ _)); exact BK123.out) hg (Kd.Q_ne HO_124001.out BK123.out (by decide))); have n2_ := Aside0.mk (hb); have n3_ := Aside0.mk (ho); clear HO_0; clear BK123; clear HB; clear HO_124001; have HO_0 := n0_; have BK123 := n1_; have HB := n2_; have HO126 := n3_; clear n0_ n1_ n2_ n3_; clear ho hb hg hat; obtain ⟨Ao25, co25, eo25, _⟩ := Kd.Q_slice HO126.out; subst eo25; have hcz26_0 : w24.cell? ⟨gb123, 0, none⟩ = some (.int .i64 t119) := (blk_cell BK123.out 0).trans rfl; have hcz26_1 : w24.cell? ⟨gb123, 1, none⟩ = some (u124001) := (blk_cell BK123.out 1).trans rfl; have hcz26_2 : w24.cell? ⟨gb123, 2, none⟩ = some (.slice none 0 0) := (blk_cell BK123.out 2).trans rfl; have hfz26_0 := blk_frozen BK123.out 0; have hfz26_1 := blk_frozen BK123.out 1; have hfz26_2 := blk_frozen BK123.out 2))
                                go_roundg k4
                                case measure => have := HJ2.out; have := HK2.out; have := HK3.out; have := HK4.out; omega
                                case rel => exact ⟨(wrap64 (x12_4 + t119)), (y124), (.slice Ao25 y124.length co25), (by first | rfl | (simp; done) | (simp [*]; done)), H', ⟨by have := HJ2.out; have := HK2.out; have := HK3.out; have := HK4.out; omega⟩, ⟨by (with_reducible repeat (first | apply Kd.V_alloc | apply Kd.V_drewN | apply Kd.V_drew)); exact Kd.V_mono (Kd.V_far (p := ⟨gb123, 1, none⟩) (Kd.V_mono HO_0.out (fun k_ hk => (⟨hk, hk.1.2⟩ : _ ∧ k_ ≠ gb123))) (fun _ hk => hk.2) (.slice Ao25 y124.length co25)) (fun _ hk => ⟨hk.1.1.1, ⟨hk.1.2, hk.1.1.2⟩⟩)⟩, ⟨by (with_reducible repeat (first | apply Kd.Q_alloc | apply Kd.Q_drewN | apply Kd.Q_drew)); exact Kd.Q_mono (Kd.Q_far (p := ⟨gb123, 1, none⟩) (Kd.Q_types HO126.out BK123.out (by decide)) (fun _ hk => hk.2) (.slice Ao25 y124.length co25)) (fun _ hk => hk.1)⟩, ⟨by (with_reducible repeat (first | refine blk_drewN ?_ _ | refine blk_drew ?_ | refine blk_alloc ?_ _)); refine blk_put (cs := #[.int .i64 t119, u124001, .slice none 0 0]) ?_ 1 _ rfl; (with_reducible repeat (first | refine blk_drewN ?_ _ | refine blk_drew ?_ | refine blk_alloc ?_ _)); exact BK123.out⟩, ⟨by repeat (first | (with_reducible first | exact HB.out | apply below_alloc | apply pw_below_drewN | apply below_drew1 | refine below_set ?_ GE123.out) | exact HB.out)⟩⟩
                              · rw [if_neg c22] at H
                                exact absurd H (by simp)
                            · rw [if_neg c21] at H
                              have c21b0 : decide (x12_4 < 512) = false := decide_eq_false c21
                              clear c21
                              replace H := Option.bind_eq_some_iff.mp H
                              obtain ⟨t127, A270, H⟩ := H
                              replace H : (if 0 ≤ x8_3 then (if x8_3 < (t127.length : Int) then (if 0 < (((rd_T82 t127 x8_3).f1).length : Int) then (if 1 ≤ (((rd_T82 t127 x8_3).f1).length : Int) then ((some (([] : List Int) : List Int)).bind fun y138 => (if y138.length + ((rd_T82 t127 x8_3).f2).length < 17592186044416 then ((some (y138 ++ ((rd_T82 t127 x8_3).f2) : List Int)).bind fun y141 => (if y141.length < 17592186044416 then ((turnbuckleref03_with.f t127 x8_3 ((rd_T82 t127 x8_3).f0) (((rd_T82 t127 x8_3).f1).drop 1) (y141 ++ [rd ((rd_T82 t127 x8_3).f1) 0])).bind fun t147 => (some (t147, rd ((rd_T82 t127 x8_3).f1) 0, 0))) else (none))) else (none))) else (none)) else (none)) else (none)) else (none)) = some (r1, r2, r3) := H
                              have A27 := Aside0.mk A270
                              clear A270
                              by_cases c28 : 0 ≤ x8_3
                              · rw [if_pos c28] at H
                                have c28b0 : decide (0 ≤ x8_3) = true := decide_eq_true c28
                                clear c28
                                by_cases c29 : x8_3 < (t127.length : Int)
                                · rw [if_pos c29] at H
                                  have c29b0 : decide (x8_3 < (t127.length : Int)) = true := decide_eq_true c29
                                  clear c29
                                  by_cases c30 : 0 < (((rd_T82 t127 x8_3).f1).length : Int)
                                  · rw [if_pos c30] at H
                                    have c30b0 : decide (0 < (((rd_T82 t127 x8_3).f1).length : Int)) = true := decide_eq_true c30
                                    have c30b1 : decide (0 < ((rd_T82 t127 x8_3).f1).length) = true := decide_eq_true (by omega)
                                    clear c30
                                    by_cases c31 : 1 ≤ (((rd_T82 t127 x8_3).f1).length : Int)
                                    · rw [if_pos c31] at H
                                      have c31b0 := eq_true c31
                                      have c31b1 : decide (1 ≤ (((rd_T82 t127 x8_3).f1).length : Int)) = true := decide_eq_true c31
                                      clear c31
                                      obtain ⟨y133, hy133⟩ : ∃ y_ : List Int, y_ = (((rd_T82 t127 x8_3).f1).drop 1) := ⟨_, rfl⟩
                                      replace H : ((some (([] : List Int) : List Int)).bind fun y138 => (if y138.length + ((rd_T82 t127 x8_3).f2).length < 17592186044416 then ((some (y138 ++ ((rd_T82 t127 x8_3).f2) : List Int)).bind fun y141 => (if y141.length < 17592186044416 then ((turnbuckleref03_with.f t127 x8_3 ((rd_T82 t127 x8_3).f0) y133 (y141 ++ [rd ((rd_T82 t127 x8_3).f1) 0])).bind fun t147 => (some (t147, rd ((rd_T82 t127 x8_3).f1) 0, 0))) else (none))) else (none))) = some (r1, r2, r3) := by first | (rw [hy133]; with_reducible exact H) | (have H2_ := (Option.bind_some _ _).symm.trans H; rw [hy133]; with_reducible exact H2_) | (have H2_ := (Option.bind_some _ _).symm.trans H; with_reducible exact H2_) | with_reducible exact H | (rw [hy133]; exact H) | exact H
                                      have Ny133 := Aside0.mk hy133
                                      clear hy133
                                      obtain ⟨y138, hy138⟩ : ∃ y_ : List Int, y_ = (([] : List Int)) := ⟨_, rfl⟩
                                      replace H : (if y138.length + ((rd_T82 t127 x8_3).f2).length < 17592186044416 then ((some (y138 ++ ((rd_T82 t127 x8_3).f2) : List Int)).bind fun y141 => (if y141.length < 17592186044416 then ((turnbuckleref03_with.f t127 x8_3 ((rd_T82 t127 x8_3).f0) y133 (y141 ++ [rd ((rd_T82 t127 x8_3).f1) 0])).bind fun t147 => (some (t147, rd ((rd_T82 t127 x8_3).f1) 0, 0))) else (none))) else (none)) = some (r1, r2, r3) := by first | (rw [hy138]; with_reducible exact H) | (have H2_ := (Option.bind_some _ _).symm.trans H; rw [hy138]; with_reducible exact H2_) | (have H2_ := (Option.bind_some _ _).symm.trans H; with_reducible exact H2_) | with_reducible exact H | (rw [hy138]; exact H) | exact H
                                      have Ny138 := Aside0.mk hy138
                                      clear hy138
                                      by_cases c32 : y138.length + ((rd_T82 t127 x8_3).f2).length < 17592186044416
                                      · rw [if_pos c32] at H
                                        have LMc32 := Aside0.mk c32
                                        clear c32
                                        obtain ⟨y141, hy141⟩ : ∃ y_ : List Int, y_ = (y138 ++ ((rd_T82 t127 x8_3).f2)) := ⟨_, rfl⟩
                                        replace H : (if y141.length < 17592186044416 then ((turnbuckleref03_with.f t127 x8_3 ((rd_T82 t127 x8_3).f0) y133 (y141 ++ [rd ((rd_T82 t127 x8_3).f1) 0])).bind fun t147 => (some (t147, rd ((rd_T82 t127 x8_3).f1) 0, 0))) else (none)) = some (r1, r2, r3) := by first | (rw [hy141]; with_reducible exact H) | (have H2_ := (Option.bind_some _ _).symm.trans H; rw [hy141]; with_reducible exact H2_) | (have H2_ := (Option.bind_some _ _).symm.trans H; with_reducible exact H2_) | with_reducible exact H | (rw [hy141]; exact H) | exact H
                                        have Ny141 := Aside0.mk hy141
                                        clear hy141
                                        by_cases c33 : y141.length < 17592186044416
                                        · rw [if_pos c33] at H
                                          have LMc33 := Aside0.mk c33
                                          clear c33
                                          obtain ⟨y144, hy144⟩ : ∃ y_ : List Int, y_ = (y141 ++ [rd ((rd_T82 t127 x8_3).f1) 0]) := ⟨_, rfl⟩
                                          replace H : ((turnbuckleref03_with.f t127 x8_3 ((rd_T82 t127 x8_3).f0) y133 y144).bind fun t147 => (some (t147, rd ((rd_T82 t127 x8_3).f1) 0, 0))) = some (r1, r2, r3) := by first | (rw [hy144]; with_reducible exact H) | (have H2_ := (Option.bind_some _ _).symm.trans H; rw [hy144]; with_reducible exact H2_) | (have H2_ := (Option.bind_some _ _).symm.trans H; with_reducible exact H2_) | with_reducible exact H | (rw [hy144]; exact H) | exact H
                                          have Ny144 := Aside0.mk hy144
                                          clear hy144
                                          replace H := Option.bind_eq_some_iff.mp H
                                          obtain ⟨t147, A340, H⟩ := H
                                          replace H : (some (t147, rd ((rd_T82 t127 x8_3).f1) 0, 0)) = some (r1, r2, r3) := H
                                          have A34 := Aside0.mk A340
                                          clear A340
                                          simp only [Option.some.injEq, Prod.mk.injEq] at H
                                          obtain ⟨rfl, rfl, rfl⟩ := H
                                          have hcz35_0 : wr.cell? ⟨gb123, 0, none⟩ = some (.int .i64 t119) := (blk_cell BK123.out 0).trans rfl
                                          have hcz35_1 : wr.cell? ⟨gb123, 1, none⟩ = some (u124001) := (blk_cell BK123.out 1).trans rfl
                                          have hcz35_2 : wr.cell? ⟨gb123, 2, none⟩ = some (.slice none 0 0) := (blk_cell BK123.out 2).trans rfl
                                          have hfz35_0 := blk_frozen BK123.out 0
                                          have hfz35_1 := blk_frozen BK123.out 1
                                          have hfz35_2 := blk_frozen BK123.out 2
                                          obtain ⟨Ao36, co36, eo36, _⟩ := Kd.Q_slice HO_124001.out
                                          subst eo36
                                          go_wp2_with (first | ((with_reducible refine gate_callee (f := 38) rfl ?_); refine goesL_ (some 86) rfl rfl Tryd.func38 (by kernel_rfl) rfl #[.slice A0 l0.length c0, .int .i64 x8_3, .agg #[.int .i64 t119, .slice Ao36 x124001_4.length co36, .slice none 0 0]] rfl (by (try simp only [List.map_toArray, List.map_cons, List.map_nil]); first | done | rfl | (simp only [List.length_drop, List.length_take]; rfl)) ?_; (refine (turnbuckleref03_with.calls (fun k_ => ((P0_ k_ ∨ w.heap.size ≤ k_) ∧ (some k_ ≠ (.slice Ao36 x124001_4.length co36 : Value).ownBlock ∧ k_ ≠ gb123))) _ _ l0 x8_3 t119 (fun k_ => some k_ = (.slice Ao36 x124001_4.length co36 : Value).ownBlock) _ _ x124001_4 (fun k_ => False) _ _ ([] : List Int) t127 _ ?side1 ?side2 ?side3 A27.out).mono ?_); (case side1 => exact HO_0.out); (case side2 => exact Kd.Q_V (Kd.Q_tight rfl (Kd.Q_types (HO_124001.out) BK123.out (by decide)))); (case side3 => exact Kd.V_nil _ _ _ _ _); rintro e w37 ⟨v128, rfl, ho0, hb⟩; refine ⟨_, rfl, ?_⟩; have n0_ := Aside0.mk (Kd.V_elder' (by (with_reducible repeat (first | apply Kd.V_alloc | apply Kd.V_drewN | apply Kd.V_drew)); exact HO_0.out) (Kd.N_base ho0) hb); have n1_ := Aside0.mk (Kd.Q_below (by (with_reducible repeat (first | apply Kd.Q_alloc | apply Kd.Q_drewN | apply Kd.Q_drew)); exact HO_124001.out) hb); have n2_ := Aside0.mk (Kd.N_lower (Kd.N_mono (ok' := fun k_ => (P0_ k_ ∨ w.heap.size ≤ k_) ∧ k_ ≠ gb123) ho0 (fun k_ hk_ => ⟨Or.elim hk_ (fun hs_ => Or.elim hs_ (fun hs_ => hs_.1) (fun hs_ => Or.elim hs_ (fun hs_ => (.inr (((Kd.Q_types (HO_124001.out) BK123.out (by decide)).1 k_ hs_.symm).1))) (fun hs_ => (hs_).elim))) (fun hn_ => (.inr (Nat.le_trans (below_size (by repeat (first | (with_reducible first | exact HB.out | apply below_alloc | apply pw_below_drewN | apply below_drew1 | refine below_set ?_ GE123.out) | exact HB.out))) hn_))), Or.elim hk_ (fun hs_ => Or.elim hs_ (fun hs_ => hs_.2.2) (fun hs_ => Or.elim hs_ (fun hs_ => ((Kd.Q_types (HO_124001.out) BK123.out (by decide)).1 k_ hs_.symm).2) (fun hs_ => (hs_).elim))) (fun hn_ => (Kd.freshB (g := gb123) (o := .cells #[.int .i64 t119, .slice Ao36 x124001_4.length co36, .slice none 0 0] 82 (0, 0)) (by (with_reducible repeat (first | refine blk_drewN ?_ _ | refine blk_drew ?_ | refine blk_alloc ?_ _)); exact BK123.out) k_ hn_))⟩)) (below_size (by repeat (first | (with_reducible first | exact HB.out | apply below_alloc | apply pw_below_drewN | apply below_drew1 | refine below_set ?_ GE123.out) | exact HB.out)))); have n3_ := Aside0.mk (blk_below (g := gb123) (o := .cells #[.int .i64 t119, .slice Ao36 x124001_4.length co36, .slice none 0 0] 82 (0, 0)) (by (with_reducible repeat (first | refine blk_drewN ?_ _ | refine blk_drew ?_ | refine blk_alloc ?_ _)); exact BK123.out) hb); have n4_ := Aside0.mk (below_step (by repeat (first | (with_reducible first | exact HB.out | apply below_alloc | apply pw_below_drewN | apply below_drew1 | refine below_set ?_ GE123.out) | exact HB.out)) hb); clear HO_0; clear HO_124001; clear BK123; clear HB; have HO_0 := n0_; have HO_124001 := n1_; have HO129 := n2_; have BK123 := n3_; have HB := n4_; clear n0_ n1_ n2_ n3_ n4_; (try clear hb); (try clear hb2); (try clear hk); (try clear hi); (try clear ho0); obtain ⟨Ao38, co38, eo38⟩ := Kd.N_slice HO129.out; subst eo38; have p130 : 0 ≤ (x8_3 : Int) := of_decide_eq_true (by first | (with_reducible assumption) | assumption); have q130 : x8_3 < (t127.length : Int) := of_decide_eq_true (by first | (with_reducible assumption) | assumption); obtain ⟨ad130, A130_1, c130_1, A130_2, c130_2, e130, hx130_0, hx130_1, hx130_2, hl130_1, hi130_1, hl130_2, hi130_2⟩ := at_T82 (Kd.N_reads' HO129.out).2.2 x8_3 p130 q130; cases e130; obtain ⟨ce130, hce130, hMe130, hcc130⟩ := Kd.N_get HO129.out z82 x8_3 p130 (by first | exact q130 | exact of_decide_eq_true (by first | (with_reducible assumption) | assumption) | (have e_ := (Kd.N_reads' HO129.out).1; omega)); obtain ⟨ua130_1, uc130_1, ua130_2, uc130_2, rfl, ul130_1, ge130_1, ul130_2, ge130_2⟩ := k82_openF hMe130; have hv130_1 := hcc130 1 _ rfl; rw [add_field _ _ 1 (by omega)] at hv130_1; replace hv130_1 := Option.some.inj (hv130_1.symm.trans hx130_1); injection hv130_1 with hva_ hvn_ hvc_; rw [hva_] at ge130_1; rw [hvc_] at ul130_1; have HL130_1 := Aside0.mk (show Kd.V (Kd.int .i64) 3 _ w.heap.size _ _ ((rd_T82 t127 x8_3).f1) from Kd.V_mk ul130_1 ge130_1); clear hva_ hvn_ hvc_ ge130_1 ul130_1; have hv130_2 := hcc130 2 _ rfl; rw [add_field _ _ 2 (by omega)] at hv130_2; replace hv130_2 := Option.some.inj (hv130_2.symm.trans hx130_2); injection hv130_2 with hva_ hvn_ hvc_; rw [hva_] at ge130_2; rw [hvc_] at ul130_2; have HL130_2 := Aside0.mk (show Kd.V (Kd.int .i64) 3 _ w.heap.size _ _ ((rd_T82 t127 x8_3).f2) from Kd.V_mk ul130_2 ge130_2); clear hva_ hvn_ hvc_ ge130_2 ul130_2; clear hcc130 hce130; have HR130_1 := Aside0.mk hi130_1; have HC130_1 := Aside0.mk hl130_1; clear hi130_1 hl130_1; have HR130_2 := Aside0.mk hi130_2; have HC130_2 := Aside0.mk hl130_2; clear hi130_2 hl130_2; replace p130 := eq_true p130; replace q130 := eq_true q130) | ((with_reducible refine gate_dst (N := 13) rfl ?_); (try (refine gate_guard (by rfl) ?_; dsimp only)); refine box_event ?hg (N := 13) ?hd (cs := #[.int .i64 0, .slice none 0 0, .slice none 0 0]) (t := 82) ?hr ?_; (case hd => rfl); (case hg => rfl); (case hr => first | (go_simp; done) | (go_simp; rfl)); intro gb131 hg w39 hbox hb; have n0_ := Aside0.mk (Kd.V_below (Kd.V_elderB (by (with_reducible repeat (first | apply Kd.V_alloc | apply Kd.V_drewN | apply Kd.V_drew)); exact HO_0.out) gb131 (Nat.le_of_eq hg.symm)) hb); have n1_ := Aside0.mk (Kd.Q_below (by (with_reducible repeat (first | apply Kd.Q_alloc | apply Kd.Q_drewN | apply Kd.Q_drew)); exact HO_124001.out) hb); have n2_ := Aside0.mk (Kd.N_below (Kd.N_elderB (by (with_reducible repeat (first | apply Kd.N_alloc | apply Kd.N_drewN | apply Kd.N_drew)); exact HO129.out) gb131 (Nat.le_of_eq hg.symm)) hb); have n3_ := Aside0.mk (Kd.V_below (Kd.V_elderB (by (with_reducible repeat (first | apply Kd.V_alloc | apply Kd.V_drewN | apply Kd.V_drew)); exact HL130_1.out) gb131 (Nat.le_of_eq hg.symm)) hb); have n4_ := Aside0.mk (Kd.V_below (Kd.V_elderB (by (with_reducible repeat (first | apply Kd.V_alloc | apply Kd.V_drewN | apply Kd.V_drew)); exact HL130_2.out) gb131 (Nat.le_of_eq hg.symm)) hb); have n5_ := Aside0.mk (blk_below (g := gb123) (o := .cells #[.int .i64 t119, .slice Ao36 x124001_4.length co36, .slice none 0 0] 82 (0, 0)) (by (with_reducible repeat (first | refine blk_drewN ?_ _ | refine blk_drew ?_ | refine blk_alloc ?_ _)); exact BK123.out) hb); have n6_ := Aside0.mk (Kd.C_below (by repeat (first | (with_reducible exact HR130_1.out) | (with_reducible refine Kd.C_alloc ?_ _) | (with_reducible refine Kd.C_drewN ?_ _) | (with_reducible refine Kd.C_drew ?_) | exact HR130_1.out)) hb); have n7_ := Aside0.mk (Kd.C_below (by repeat (first | (with_reducible exact HR130_2.out) | (with_reducible refine Kd.C_alloc ?_ _) | (with_reducible refine Kd.C_drewN ?_ _) | (with_reducible refine Kd.C_drew ?_) | exact HR130_2.out)) hb); have n8_ := Aside0.mk (below_step (by repeat (first | (with_reducible first | exact HB.out | apply below_alloc | apply pw_below_drewN | apply below_drew1 | refine below_set ?_ GE123.out) | exact HB.out)) hb); have n9_ := Aside0.mk (hbox); have n10_ := Aside0.mk ((by rw [hg]; exact (below_size (by repeat (first | (with_reducible first | exact HB.out | apply below_alloc | apply pw_below_drewN | apply below_drew1 | refine below_set ?_ GE123.out) | exact HB.out))) : w.heap.size ≤ gb131)); have n11_ := Aside0.mk ((by rw [hg]; exact (below_size (by repeat (first | (with_reducible first | exact HB.out | apply below_alloc | apply pw_below_drewN | apply below_drew1 | refine below_set ?_ GE123.out) | exact HB.out))) : w.heap.size ≤ gb131)); have n12_ := Aside0.mk ((by rw [hg]; exact Nat.ne_of_lt (blk_lt (g := gb123) (o := .cells #[.int .i64 t119, .slice Ao36 x124001_4.length co36, .slice none 0 0] 82 (0, 0)) (by (with_reducible repeat (first | refine blk_drewN ?_ _ | refine blk_drew ?_ | refine blk_alloc ?_ _)); exact BK123.out)) : gb123 ≠ gb131)); have n13_ := Aside0.mk ((by rw [hg]; exact Nat.ne_of_gt (blk_lt (g := gb123) (o := .cells #[.int .i64 t119, .slice Ao36 x124001_4.length co36, .slice none 0 0] 82 (0, 0)) (by (with_reducible repeat (first | refine blk_drewN ?_ _ | refine blk_drew ?_ | refine blk_alloc ?_ _)); exact BK123.out)) : gb131 ≠ gb123)); clear HO_0; clear HO_124001; clear HO129; clear HL130_1; clear HL130_2; clear BK123; clear HR130_1; clear HR130_2; clear HB; have HO_0 := n0_; have HO_124001 := n1_; have HO129 := n2_; have HL130_1 := n3_; have HL130_2 := n4_; have BK123 := n5_; have HR130_1 := n6_; have HR130_2 := n7_; have HB := n8_; have BK131 := n9_; have GW131 := n10_; have GE131 := n11_; have NB123_131 := n12_; have NB131_123 := n13_; clear n0_ n1_ n2_ n3_ n4_ n5_ n6_ n7_ n8_ n9_ n10_ n11_ n12_ n13_; clear hb hbox hg; have hnb40 := NB131_123.out; have hnc40 := NB123_131.out; have hcz41_0 : w39.cell? ⟨gb131, 0, none⟩ = some (.int .i64 0) := (blk_cell BK131.out 0).trans rfl; have hcz41_1 : w39.cell? ⟨gb131, 1, none⟩ = some (.slice none 0 0) := (blk_cell BK131.out 1).trans rfl; have hcz41_2 : w39.cell? ⟨gb131, 2, none⟩ = some (.slice none 0 0) := (blk_cell BK131.out 2).trans rfl; have hfz41_0 := blk_frozen BK131.out 0; have hfz41_1 := blk_frozen BK131.out 1; have hfz41_2 := blk_frozen BK131.out 2) | ((with_reducible refine gate_store (t := 82) (p := 13) rfl ?_); refine store_event (t := 82) (p := 13) (v := ?vo_w42) (w1 := (((w39.setCell ⟨gb131, 0, none⟩ (.int .i64 ((rd_T82 t127 x8_3).f0))).setCell ⟨gb131, 1, none⟩ (.slice A130_1 ((rd_T82 t127 x8_3).f1).length c130_1)).setCell ⟨gb131, 2, none⟩ (.slice A130_2 ((rd_T82 t127 x8_3).f2).length c130_2))) ?hg ?ho ?hn ?hr ?_; (case ho => rfl); (case hg => rfl); (case hn => rfl); (case hr => first | (go_simp; done) | (go_simp; rfl)); intro w42 hw; have n0_ : Aside0 (Kd.V k82 82 w42 w.heap.size (fun k_ => (P0_ k_ ∨ w.heap.size ≤ k_) ∧ some k_ ≠ (.slice Ao36 x124001_4.length co36 : Value).ownBlock ∧ some k_ ≠ (.slice (some ad130) t127.length co38 : Value).ownBlock ∧ k_ ≠ gb123 ∧ k_ ≠ gb131) (.slice A0 l0.length c0) l0) := ⟨(by rw [hw]; exact (by (with_reducible repeat (first | apply Kd.V_alloc | apply Kd.V_drewN | apply Kd.V_drew)); exact Kd.V_mono (Kd.V_far (p := ⟨gb131, 2, none⟩) (Kd.V_far (p := ⟨gb131, 1, none⟩) (Kd.V_far (p := ⟨gb131, 0, none⟩) (Kd.V_mono HO_0.out (fun k_ hk => (⟨hk, hk.2⟩ : _ ∧ k_ ≠ gb131))) (fun _ hk => hk.2) (.int .i64 ((rd_T82 t127 x8_3).f0))) (fun _ hk => hk.2) (.slice A130_1 ((rd_T82 t127 x8_3).f1).length c130_1)) (fun _ hk => hk.2) (.slice A130_2 ((rd_T82 t127 x8_3).f2).length c130_2)) (fun _ hk => ⟨hk.1.1.1.1, ⟨hk.1.1.1.2.1, ⟨hk.1.1.2, ⟨hk.1.1.1.2.2, hk.1.2⟩⟩⟩⟩)))⟩; have n1_ : Aside0 (Kd.Q (Kd.int .i64) 3 w42 w.heap.size (fun k_ => (w.heap.size ≤ k_)) (.slice Ao36 x124001_4.length co36) x124001_4) := ⟨(by rw [hw]; exact (by (with_reducible repeat (first | apply Kd.Q_alloc | apply Kd.Q_drewN | apply Kd.Q_drew)); exact Kd.Q_mono (Kd.Q_far (p := ⟨gb131, 2, none⟩) (Kd.Q_far (p := ⟨gb131, 1, none⟩) (Kd.Q_far (p := ⟨gb131, 0, none⟩) (Kd.Q_types HO_124001.out BK131.out (by decide)) (fun _ hk => hk.2) (.int .i64 ((rd_T82 t127 x8_3).f0))) (fun _ hk => hk.2) (.slice A130_1 ((rd_T82 t127 x8_3).f1).length c130_1)) (fun _ hk => hk.2) (.slice A130_2 ((rd_T82 t127 x8_3).f2).length c130_2)) (fun _ hk => hk.1)))⟩; have n2_ : Aside0 (Kd.N k82 82 w42 w.heap.size (fun k_ => (P0_ k_ ∨ w.heap.size ≤ k_) ∧ k_ ≠ gb123 ∧ k_ ≠ gb131) (.slice (some ad130) t127.length co38) t127) := ⟨(by rw [hw]; exact (by (with_reducible repeat (first | apply Kd.N_alloc | apply Kd.N_drewN | apply Kd.N_drew)); exact Kd.N_mono (Kd.N_far (p := ⟨gb131, 2, none⟩) (Kd.N_far (p := ⟨gb131, 1, none⟩) (Kd.N_far (p := ⟨gb131, 0, none⟩) (Kd.N_mono HO129.out (fun k_ hk => (⟨hk, hk.2⟩ : _ ∧ k_ ≠ gb131))) (fun _ hk => hk.2) (.int .i64 ((rd_T82 t127 x8_3).f0))) (fun _ hk => hk.2) (.slice A130_1 ((rd_T82 t127 x8_3).f1).length c130_1)) (fun _ hk => hk.2) (.slice A130_2 ((rd_T82 t127 x8_3).f2).length c130_2)) (fun _ hk => ⟨hk.1.1.1, ⟨hk.1.1.2, hk.1.2⟩⟩)))⟩; have n3_ : Aside0 (Kd.V (Kd.int .i64) 3 w42 w.heap.size (fun k_ => (P0_ k_ ∨ w.heap.size ≤ k_) ∧ some k_ ≠ (.slice (some ad130) t127.length co38 : Value).ownBlock ∧ k_ ≠ gb123 ∧ k_ ≠ gb131) (.slice A130_1 ((rd_T82 t127 x8_3).f1).length c130_1) ((rd_T82 t127 x8_3).f1)) := ⟨(by rw [hw]; exact (by (with_reducible repeat (first | apply Kd.V_alloc | apply Kd.V_drewN | apply Kd.V_drew)); exact Kd.V_mono (Kd.V_far (p := ⟨gb131, 2, none⟩) (Kd.V_far (p := ⟨gb131, 1, none⟩) (Kd.V_far (p := ⟨gb131, 0, none⟩) (Kd.V_mono HL130_1.out (fun k_ hk => (⟨hk, hk.2⟩ : _ ∧ k_ ≠ gb131))) (fun _ hk => hk.2) (.int .i64 ((rd_T82 t127 x8_3).f0))) (fun _ hk => hk.2) (.slice A130_1 ((rd_T82 t127 x8_3).f1).length c130_1)) (fun _ hk => hk.2) (.slice A130_2 ((rd_T82 t127 x8_3).f2).length c130_2)) (fun _ hk => ⟨hk.1.1.1.1, ⟨hk.1.1.2, ⟨hk.1.1.1.2, hk.1.2⟩⟩⟩)))⟩; have n4_ : Aside0 (Kd.V (Kd.int .i64) 3 w42 w.heap.size (fun k_ => (P0_ k_ ∨ w.heap.size ≤ k_) ∧ some k_ ≠ (.slice (some ad130) t127.length co38 : Value).ownBlock ∧ k_ ≠ gb123 ∧ k_ ≠ gb131) (.slice A130_2 ((rd_T82 t127 x8_3).f2).length c130_2) ((rd_T82 t127 x8_3).f2)) := ⟨(by rw [hw]; exact (by (with_reducible repeat (first | apply Kd.V_alloc | apply Kd.V_drewN | apply Kd.V_drew)); exact Kd.V_mono (Kd.V_far (p := ⟨gb131, 2, none⟩) (Kd.V_far (p := ⟨gb131, 1, none⟩) (Kd.V_far (p := ⟨gb131, 0, none⟩) (Kd.V_mono HL130_2.out (fun k_ hk => (⟨hk, hk.2⟩ : _ ∧ k_ ≠ gb131))) (fun _ hk => hk.2) (.int .i64 ((rd_T82 t127 x8_3).f0))) (fun _ hk => hk.2) (.slice A130_1 ((rd_T82 t127 x8_3).f1).length c130_1)) (fun _ hk => hk.2) (.slice A130_2 ((rd_T82 t127 x8_3).f2).length c130_2)) (fun _ hk => ⟨hk.1.1.1.1, ⟨hk.1.1.2, ⟨hk.1.1.1.2, hk.1.2⟩⟩⟩)))⟩; have n5_ : Aside0 (w42.heap[gb123]? = some (.cells #[.int .i64 t119, .slice Ao36 x124001_4.length co36, .slice none 0 0] 82 (0, 0))) := ⟨(by rw [hw]; exact (by (with_reducible repeat (first | refine blk_drewN ?_ _ | refine blk_drew ?_ | refine blk_alloc ?_ _)); refine blk_far ?_ NB123_131.out _; (with_reducible repeat (first | refine blk_drewN ?_ _ | refine blk_drew ?_ | refine blk_alloc ?_ _)); refine blk_far ?_ NB123_131.out _; (with_reducible repeat (first | refine blk_drewN ?_ _ | refine blk_drew ?_ | refine blk_alloc ?_ _)); refine blk_far ?_ NB123_131.out _; (with_reducible repeat (first | refine blk_drewN ?_ _ | refine blk_drew ?_ | refine blk_alloc ?_ _)); exact BK123.out))⟩; have n6_ : Aside0 (w42.heap[gb131]? = some (.cells #[.int .i64 ((rd_T82 t127 x8_3).f0), .slice A130_1 ((rd_T82 t127 x8_3).f1).length c130_1, .slice A130_2 ((rd_T82 t127 x8_3).f2).length c130_2] 82 (0, 0))) := ⟨(by rw [hw]; exact (by (with_reducible repeat (first | refine blk_drewN ?_ _ | refine blk_drew ?_ | refine blk_alloc ?_ _)); refine blk_put (cs := #[.int .i64 ((rd_T82 t127 x8_3).f0), .slice A130_1 ((rd_T82 t127 x8_3).f1).length c130_1, .slice none 0 0]) ?_ 2 _ rfl; (with_reducible repeat (first | refine blk_drewN ?_ _ | refine blk_drew ?_ | refine blk_alloc ?_ _)); refine blk_put (cs := #[.int .i64 ((rd_T82 t127 x8_3).f0), .slice none 0 0, .slice none 0 0]) ?_ 1 _ rfl; (with_reducible repeat (first | refine blk_drewN ?_ _ | refine blk_drew ?_ | refine blk_alloc ?_ _)); refine blk_put (cs := #[.int .i64 0, .slice none 0 0, .slice none 0 0]) ?_ 0 _ rfl; (with_reducible repeat (first | refine blk_drewN ?_ _ | refine blk_drew ?_ | refine blk_alloc ?_ _)); exact BK131.out))⟩; have n7_ : Aside0 (Below w.heap.size w w42) := ⟨(by rw [hw]; exact (by repeat (first | (with_reducible first | exact HB.out | apply below_alloc | apply pw_below_drewN | apply below_drew1 | refine below_set ?_ GE123.out | refine below_set ?_ GE131.out) | exact HB.out)))⟩; clear hw; clear HO_0; clear HO_124001; clear HO129; clear HL130_1; clear HL130_2; clear BK123; clear BK131; clear HB; have HO_0 := n0_; have HO_124001 := n1_; have HO129 := n2_; have HL130_1 := n3_; have HL130_2 := n4_; have BK123 := n5_; have BK131 := n6_; have HB := n7_; clear n0_ n1_ n2_ n3_ n4_ n5_ n6_ n7_; have hcz43_0 : w42.cell? ⟨gb131, 0, none⟩ = some (.int .i64 ((rd_T82 t127 x8_3).f0)) := (blk_cell BK131.out 0).trans rfl; have hcz43_1 : w42.cell? ⟨gb131, 1, none⟩ = some (.slice A130_1 ((rd_T82 t127 x8_3).f1).length c130_1) := (blk_cell BK131.out 1).trans rfl; have hcz43_2 : w42.cell? ⟨gb131, 2, none⟩ = some (.slice A130_2 ((rd_T82 t127 x8_3).f2).length c130_2) := (blk_cell BK131.out 2).trans rfl; have hfz43_0 := blk_frozen BK131.out 0; have hfz43_1 := blk_frozen BK131.out 1; have hfz43_2 := blk_frozen BK131.out 2; have p132 : 0 ≤ (0 : Int) := (by omega); have q132 : 0 < (((rd_T82 t127 x8_3).f1).length : Int) := of_decide_eq_true (by first | (with_reducible assumption) | assumption); obtain ⟨ad132, e132, hx132_0⟩ := Kd.at_int (Kd.V_reads' HL130_1.out).2.2 0 p132 q132; cases e132; have qi132 : (0 < ((rd_T82 t127 x8_3).f1).length) = True := eq_true (by omega); (try rw [show ((0 : Int)).toNat = 0 from rfl] at hx132_0); (try rw [Addr.add_zero'] at hx132_0); replace p132 := eq_true p132; replace q132 := eq_true q132; have q44 : (1 : Int) ≤ ((((rd_T82 t127 x8_3).f1).length : Int) : Int) := of_decide_eq_true (by first | (with_reducible assumption) | assumption); obtain ⟨i044, hi044, _, hsz44, _⟩ := info_parts info3; have hroom44 : ((rd_T82 t127 x8_3).f1).length ≤ c130_1 := HC130_1.out; have hC44 : Kd.F (Kd.int .i64) _ _ (some ad132) ((rd_T82 t127 x8_3).f1).length ((rd_T82 t127 x8_3).f1) := (Kd.V_at (base := w.heap.size) HL130_1.out).2.2; have hcut44 := cut_from (P := Tryd.prog) 34 3 .i64 Tryd.underlying34 hi044 1 hsz44 (some ad132) ((rd_T82 t127 x8_3).f1).length c130_1 1 (by omega) q44; have hr44 := Kd.F_cut (m := (1 : Int).toNat) (c := c130_1) hC44 (by omega) hroom44; obtain ⟨A44, hA44⟩ : ∃ A1, A1 = (if c130_1 = (1 : Int).toNat then (some ad132) else ((some ad132) : Option Addr).map (·.add ((1 : Int).toNat * 1))) := ⟨_, rfl⟩; obtain ⟨c44, hc44⟩ : ∃ c1, c1 = c130_1 - (1 : Int).toNat := ⟨_, rfl⟩; have hy44 : y133.length = ((rd_T82 t127 x8_3).f1).length - (1 : Int).toNat := (by rw [Ny133.out, List.length_drop] <;> omega); rw [show ((rd_T82 t127 x8_3).f1).drop (1 : Int).toNat = y133 from Ny133.out.symm] at hr44; replace hr44 : Kd.F (Kd.int .i64) _ _ A44 y133.length y133 := (by rw [hA44]; exact hr44); rw [← hy44, ← hA44, ← hc44] at hcut44; have HO137 := Aside0.mk (show Kd.V (Kd.int .i64) 3 _ w.heap.size _ (.slice A44 y133.length c44) y133 from Kd.V_mk (by rw [hy44, hc44]; exact Nat.sub_le_sub_right hroom44 _) hr44); have HC137 := Aside0.mk (show y133.length ≤ c44 from by rw [hy44, hc44]; exact Nat.sub_le_sub_right hroom44 _); clear hr44 hC44 hroom44 hi044 hsz44 hc44; have KY44 := Aside0.mk hy44; have KA44 := Aside0.mk hA44; clear hy44 hA44; replace q44 := eq_true q44) | ((with_reducible refine gate_dst (N := 99) rfl ?_); (try (refine gate_guard (by rfl) ?_; dsimp only)); refine Kd.R_lit (Kd.int .i64) _ 3 ?hg (N := 99) ?hd (xs := ([] : List Int)) (inner := []) (ok := fun _ => True) (okp := fun _ => True) ?hr ?hp (fun _ hk => hk) trivial (Below.refl _ _) (Nat.le_refl _) (by simp) ?_; (case hd => rfl); (case hg => rfl); (case hr => first | (go_simp; done) | (go_simp; rfl)); (case hp => exact (Reps.none _ _)); intro v139 w45 ho46 hb hg_ hnew_; clear hg_ hnew_; (first | rw [← Ny138.out] at ho46 | (simp only [Int.reduceToNat] at ho46; rw [← Ny138.out] at ho46)); have n0_ := Aside0.mk (Kd.V_elder' (by (with_reducible repeat (first | apply Kd.V_alloc | apply Kd.V_drewN | apply Kd.V_drew)); exact (Kd.V_mono (Kd.V_far (p := ⟨gb131, 1, none⟩) (Kd.V_mono HO_0.out (fun k_ hk => (⟨hk, hk.2.2.2.2⟩ : _ ∧ k_ ≠ gb131))) (fun _ hk => hk.2) (.slice A44 y133.length c44)) (fun _ h_ => h_.1))) (Kd.R_base ho46) hb); have n1_ := Aside0.mk (Kd.Q_elder' (by (with_reducible repeat (first | apply Kd.Q_alloc | apply Kd.Q_drewN | apply Kd.Q_drew)); exact (Kd.Q_mono (Kd.Q_far (p := ⟨gb131, 1, none⟩) (Kd.Q_types HO_124001.out BK131.out (by decide)) (fun _ hk => hk.2) (.slice A44 y133.length c44)) (fun _ h_ => h_.1))) (Kd.R_base ho46) hb); have n2_ := Aside0.mk (Kd.N_elder' (by (with_reducible repeat (first | apply Kd.N_alloc | apply Kd.N_drewN | apply Kd.N_drew)); exact (Kd.N_mono (Kd.N_far (p := ⟨gb131, 1, none⟩) (Kd.N_mono HO129.out (fun k_ hk => (⟨hk, hk.2.2⟩ : _ ∧ k_ ≠ gb131))) (fun _ hk => hk.2) (.slice A44 y133.length c44)) (fun _ h_ => h_.1))) (Kd.R_base ho46) hb); have n3_ := Aside0.mk (Kd.V_elder' (by (with_reducible repeat (first | apply Kd.V_alloc | apply Kd.V_drewN | apply Kd.V_drew)); exact (Kd.V_mono (Kd.V_far (p := ⟨gb131, 1, none⟩) (Kd.V_mono HL130_1.out (fun k_ hk => (⟨hk, hk.2.2.2⟩ : _ ∧ k_ ≠ gb131))) (fun _ hk => hk.2) (.slice A44 y133.length c44)) (fun _ h_ => h_.1))) (Kd.R_base ho46) hb); have n4_ := Aside0.mk (Kd.V_elder' (by (with_reducible repeat (first | apply Kd.V_alloc | apply Kd.V_drewN | apply Kd.V_drew)); exact (Kd.V_mono (Kd.V_far (p := ⟨gb131, 1, none⟩) (Kd.V_mono HL130_2.out (fun k_ hk => (⟨hk, hk.2.2.2⟩ : _ ∧ k_ ≠ gb131))) (fun _ hk => hk.2) (.slice A44 y133.length c44)) (fun _ h_ => h_.1))) (Kd.R_base ho46) hb); have n5_ := Aside0.mk (Kd.V_elder' (by (with_reducible repeat (first | apply Kd.V_alloc | apply Kd.V_drewN | apply Kd.V_drew)); exact (Kd.V_mono (Kd.V_far (p := ⟨gb131, 1, none⟩) (Kd.V_mono HO137.out (fun k_ hk => (⟨hk, hk.2.2.2⟩ : _ ∧ k_ ≠ gb131))) (fun _ hk => hk.2) (.slice A44 y133.length c44)) (fun _ h_ => h_.1))) (Kd.R_base ho46) hb); have n6_ := Aside0.mk (Kd.R_lower (Kd.R_new' (Kd.R_newM (M := fun k_ => (w.heap.size ≤ k_)) ho46 (below_size (by repeat (first | (with_reducible first | exact HB.out | apply below_alloc | apply pw_below_drewN | apply below_drew1 | refine below_set ?_ GE123.out | refine below_set ?_ GE131.out) | exact HB.out))) (fun k_ h_ => h_)) (Kd.Q_lt (by (with_reducible repeat (first | apply Kd.Q_alloc | apply Kd.Q_drewN | apply Kd.Q_drew)); exact (Kd.Q_mono (Kd.Q_far (p := ⟨gb131, 1, none⟩) (Kd.Q_types HO_124001.out BK131.out (by decide)) (fun _ hk => hk.2) (.slice A44 y133.length c44)) (fun _ h_ => h_.1))))) (below_size (by repeat (first | (with_reducible first | exact HB.out | apply below_alloc | apply pw_below_drewN | apply below_drew1 | refine below_set ?_ GE123.out | refine below_set ?_ GE131.out) | exact HB.out)))); have n7_ := Aside0.mk (blk_below (g := gb123) (o := .cells #[.int .i64 t119, .slice Ao36 x124001_4.length co36, .slice none 0 0] 82 (0, 0)) (by (with_reducible repeat (first | refine blk_drewN ?_ _ | refine blk_drew ?_ | refine blk_alloc ?_ _)); refine blk_far ?_ NB123_131.out _; (with_reducible repeat (first | refine blk_drewN ?_ _ | refine blk_drew ?_ | refine blk_alloc ?_ _)); exact BK123.out) hb); have n8_ := Aside0.mk (Kd.C_below ((Kd.V_reads' (by (with_reducible repeat (first | apply Kd.V_alloc | apply Kd.V_drewN | apply Kd.V_drew)); exact (Kd.V_mono (Kd.V_far (p := ⟨gb131, 1, none⟩) (Kd.V_mono HL130_1.out (fun k_ hk => (⟨hk, hk.2.2.2⟩ : _ ∧ k_ ≠ gb131))) (fun _ hk => hk.2) (.slice A44 y133.length c44)) (fun _ h_ => h_.1)))).2.2) hb); have n9_ := Aside0.mk (Kd.C_below ((Kd.V_reads' (by (with_reducible repeat (first | apply Kd.V_alloc | apply Kd.V_drewN | apply Kd.V_drew)); exact (Kd.V_mono (Kd.V_far (p := ⟨gb131, 1, none⟩) (Kd.V_mono HL130_2.out (fun k_ hk => (⟨hk, hk.2.2.2⟩ : _ ∧ k_ ≠ gb131))) (fun _ hk => hk.2) (.slice A44 y133.length c44)) (fun _ h_ => h_.1)))).2.2) hb); have n10_ := Aside0.mk (blk_below (g := gb131) (o := .cells #[.int .i64 ((rd_T82 t127 x8_3).f0), .slice A44 y133.length c44, .slice A130_2 ((rd_T82 t127 x8_3).f2).length c130_2] 82 (0, 0)) (by (with_reducible repeat (first | refine blk_drewN ?_ _ | refine blk_drew ?_ | refine blk_alloc ?_ _)); refine blk_put (cs := #[.int .i64 ((rd_T82 t127 x8_3).f0), .slice (some ad132) ((rd_T82 t127 x8_3).f1).length c130_1, .slice A130_2 ((rd_T82 t127 x8_3).f2).length c130_2]) ?_ 1 _ rfl; (with_reducible repeat (first | refine blk_drewN ?_ _ | refine blk_drew ?_ | refine blk_alloc ?_ _)); exact BK131.out) hb); have n11_ := Aside0.mk (below_step (by repeat (first | (with_reducible first | exact HB.out | apply below_alloc | apply pw_below_drewN | apply below_drew1 | refine below_set ?_ GE123.out | refine below_set ?_ GE131.out) | exact HB.out)) hb); clear HO_0; clear HO_124001; clear HO129; clear HL130_1; clear HL130_2; clear HO137; clear BK123; clear HR130_1; clear HR130_2; clear BK131; clear HB; have HO_0 := n0_; have HO_124001 := n1_; have HO129 := n2_; have HL130_1 := n3_; have HL130_2 := n4_; have HO137 := n5_; have HO140 := n6_; have BK123 := n7_; have HR130_1 := n8_; have HR130_2 := n9_; have BK131 := n10_; have HB := n11_; clear n0_ n1_ n2_ n3_ n4_ n5_ n6_ n7_ n8_ n9_ n10_ n11_; clear hb ho46; have hcz47_0 : w45.cell? ⟨gb131, 0, none⟩ = some (.int .i64 ((rd_T82 t127 x8_3).f0)) := (blk_cell BK131.out 0).trans rfl; have hcz47_1 : w45.cell? ⟨gb131, 1, none⟩ = some (.slice A44 y133.length c44) := (blk_cell BK131.out 1).trans rfl; have hcz47_2 : w45.cell? ⟨gb131, 2, none⟩ = some (.slice A130_2 ((rd_T82 t127 x8_3).f2).length c130_2) := (blk_cell BK131.out 2).trans rfl; have hfz47_0 := blk_frozen BK131.out 0; have hfz47_1 := blk_frozen BK131.out 1; have hfz47_2 := blk_frozen BK131.out 2) | ((with_reducible refine gate_builtin (b := .append) (xs := #[.tmp 99, .tmp 101]) rfl ?_); (try (refine gate_guard (by rfl) ?_; dsimp only)); at_builtin; refine Kd.R_append_rows (Kd.int .i64) (w0 := w) w.heap.size rfl (.tmp 99) (.tmp 101) 34 3 (.int .i64 0) 8 rfl Tryd.underlying34 info3 rfl (by decide) (by omega) v139 y138 ((rd_T82 t127 x8_3).f2) _ _ _ (fun k_ => (w.heap.size ≤ k_) ∧ some k_ ≠ (.slice Ao36 x124001_4.length co36 : Value).ownBlock) (fun _ => False) rfl rfl ?aO ?aR (fun _ _ h => h) (fun _ h => h.elim) ?aF ?aB ?aS ?aL ?_; (case aR => repeat (first | exact (by repeat (first | (with_reducible exact HR130_2.out) | (with_reducible refine Kd.C_alloc ?_ _) | (with_reducible refine Kd.C_drewN ?_ _) | (with_reducible refine Kd.C_drew ?_) | exact HR130_2.out)) | (with_reducible refine Kd.C_alloc ?_ _) | (with_reducible refine Kd.C_drewN ?_ _) | (with_reducible refine Kd.C_drew ?_))); (case aB => exact (by repeat (first | (with_reducible first | exact HB.out | apply below_alloc | apply pw_below_drewN | apply below_drew1 | refine below_set ?_ GE123.out | refine below_set ?_ GE131.out) | exact HB.out))); (case aF => exact (fun k_ hk => ⟨(Nat.le_trans (below_size (by repeat (first | (with_reducible first | exact HB.out | apply below_alloc | apply pw_below_drewN | apply below_drew1 | refine below_set ?_ GE123.out | refine below_set ?_ GE131.out) | exact HB.out))) hk), Kd.fresh' (Kd.Q_lt (by (with_reducible repeat (first | apply Kd.Q_alloc | apply Kd.Q_drewN | apply Kd.Q_drew)); exact HO_124001.out)) k_ hk⟩)); (case aO => exact (by (with_reducible repeat (first | apply Kd.R_alloc | apply Kd.R_drewN | apply Kd.R_drew)); exact Kd.R_mono HO140.out (fun _ hk => ⟨hk.1.1, hk.2⟩))); (case aS => exact (below_size (by repeat (first | (with_reducible first | exact HB.out | apply below_alloc | apply pw_below_drewN | apply below_drew1 | refine below_set ?_ GE123.out | refine below_set ?_ GE131.out) | exact HB.out)))); (case aL => have := LMc32.out; omega); intro v142 w48 ho hb hg hat; rw [← Ny141.out] at ho; have n0_ := Aside0.mk (Kd.V_afterv (ok := (fun k_ => (P0_ k_ ∨ w.heap.size ≤ k_) ∧ some k_ ≠ (.slice Ao36 x124001_4.length co36 : Value).ownBlock ∧ some k_ ≠ (.slice (some ad130) t127.length co38 : Value).ownBlock ∧ k_ ≠ gb123 ∧ k_ ≠ gb131)) (by (with_reducible repeat (first | apply Kd.V_alloc | apply Kd.V_drewN | apply Kd.V_drew)); exact HO_0.out) hg hat); have n1_ := Aside0.mk (Kd.Q_after (ok := (fun k_ => (w.heap.size ≤ k_))) (by (with_reducible repeat (first | apply Kd.Q_alloc | apply Kd.Q_drewN | apply Kd.Q_drew)); exact HO_124001.out) hg hat); have n2_ := Aside0.mk (blk_grown (g := gb123) (o := .cells #[.int .i64 t119, .slice Ao36 x124001_4.length co36, .slice none 0 0] 82 (0, 0)) (by (with_reducible repeat (first | refine blk_drewN ?_ _ | refine blk_drew ?_ | refine blk_alloc ?_ _)); exact BK123.out) hg (Kd.R_ne HO140.out BK123.out (by decide))); have n3_ := Aside0.mk (Kd.N_afterv (ok := (fun k_ => (P0_ k_ ∨ w.heap.size ≤ k_) ∧ k_ ≠ gb123 ∧ k_ ≠ gb131)) (by (with_reducible repeat (first | apply Kd.N_alloc | apply Kd.N_drewN | apply Kd.N_drew)); exact HO129.out) hg hat); have n4_ := Aside0.mk (Kd.V_afterv (ok := (fun k_ => (P0_ k_ ∨ w.heap.size ≤ k_) ∧ some k_ ≠ (.slice (some ad130) t127.length co38 : Value).ownBlock ∧ k_ ≠ gb123 ∧ k_ ≠ gb131)) (by (with_reducible repeat (first | apply Kd.V_alloc | apply Kd.V_drewN | apply Kd.V_drew)); exact HL130_1.out) hg hat); have n5_ := Aside0.mk (Kd.V_afterv (ok := (fun k_ => (P0_ k_ ∨ w.heap.size ≤ k_) ∧ some k_ ≠ (.slice (some ad130) t127.length co38 : Value).ownBlock ∧ k_ ≠ gb123 ∧ k_ ≠ gb131)) (by (with_reducible repeat (first | apply Kd.V_alloc | apply Kd.V_drewN | apply Kd.V_drew)); exact HL130_2.out) hg hat); have n6_ := Aside0.mk (blk_grown (g := gb131) (o := .cells #[.int .i64 ((rd_T82 t127 x8_3).f0), .slice A44 y133.length c44, .slice A130_2 ((rd_T82 t127 x8_3).f2).length c130_2] 82 (0, 0)) (by (with_reducible repeat (first | refine blk_drewN ?_ _ | refine blk_drew ?_ | refine blk_alloc ?_ _)); exact BK131.out) hg (Kd.R_ne HO140.out BK131.out (by decide))); have n7_ := Aside0.mk (Kd.V_afterv (ok := (fun k_ => (P0_ k_ ∨ w.heap.size ≤ k_) ∧ some k_ ≠ (.slice (some ad130) t127.length co38 : Value).ownBlock ∧ k_ ≠ gb123 ∧ k_ ≠ gb131)) (by (with_reducible repeat (first | apply Kd.V_alloc | apply Kd.V_drewN | apply Kd.V_drew)); exact HO137.out) hg hat); have n8_ := Aside0.mk (hb); have n9_ := Aside0.mk (ho); clear HO_0; clear HO_124001; clear BK123; clear HO129; clear HL130_1; clear HL130_2; clear BK131; clear HO137; clear HB; clear HO140; have HO_0 := n0_; have HO_124001 := n1_; have BK123 := n2_; have HO129 := n3_; have HL130_1 := n4_; have HL130_2 := n5_; have BK131 := n6_; have HO137 := n7_; have HB := n8_; have HO143 := n9_; clear n0_ n1_ n2_ n3_ n4_ n5_ n6_ n7_ n8_ n9_; clear ho hb hg hat) | ((with_reducible refine gate_builtin (b := .append) (xs := #[.tmp 102, .tmp 104]) rfl ?_); (try (refine gate_guard (by rfl) ?_; dsimp only)); at_builtin; refine Kd.R_append (Kd.int .i64) (w0 := w) w.heap.size rfl (.tmp 102) (.tmp 104) 34 3 (.int .i64 0) 8 rfl Tryd.underlying34 info3 rfl (by decide) (by omega) v142 y141 (rd ((rd_T82 t127 x8_3).f1) 0) [.int .i64 (rd ((rd_T82 t127 x8_3).f1) 0)] (fun k_ => (w.heap.size ≤ k_) ∧ some k_ ≠ (.slice Ao36 x124001_4.length co36 : Value).ownBlock) (fun _ => False) rfl rfl ?aP (fun _ hk => hk.elim) ?aF ?aO ?aB ?aS ?aL ?_; (case aP => exact rfl); (case aB => exact (by repeat (first | (with_reducible first | exact HB.out | apply below_alloc | apply pw_below_drewN | apply below_drew1 | refine below_set ?_ GE123.out | refine below_set ?_ GE131.out) | exact HB.out))); (case aF => exact (fun k_ hk => ⟨(Nat.le_trans (below_size (by repeat (first | (with_reducible first | exact HB.out | apply below_alloc | apply pw_below_drewN | apply below_drew1 | refine below_set ?_ GE123.out | refine below_set ?_ GE131.out) | exact HB.out))) hk), Kd.fresh' (Kd.Q_lt (by (with_reducible repeat (first | apply Kd.Q_alloc | apply Kd.Q_drewN | apply Kd.Q_drew)); exact HO_124001.out)) k_ hk⟩)); (case aO => exact (by (with_reducible repeat (first | apply Kd.R_alloc | apply Kd.R_drewN | apply Kd.R_drew)); exact HO143.out)); (case aS => exact (below_size (by repeat (first | (with_reducible first | exact HB.out | apply below_alloc | apply pw_below_drewN | apply below_drew1 | refine below_set ?_ GE123.out | refine below_set ?_ GE131.out) | exact HB.out)))); (case aL => have := LMc33.out; omega); intro v145 w49 ho hb hg hat; rw [← Ny144.out] at ho; have n0_ := Aside0.mk (Kd.V_afterv (ok := (fun k_ => (P0_ k_ ∨ w.heap.size ≤ k_) ∧ some k_ ≠ (.slice Ao36 x124001_4.length co36 : Value).ownBlock ∧ some k_ ≠ (.slice (some ad130) t127.length co38 : Value).ownBlock ∧ k_ ≠ gb123 ∧ k_ ≠ gb131)) (by (with_reducible repeat (first | apply Kd.V_alloc | apply Kd.V_drewN | apply Kd.V_drew)); exact HO_0.out) hg hat); have n1_ := Aside0.mk (Kd.Q_after (ok := (fun k_ => (w.heap.size ≤ k_))) (by (with_reducible repeat (first | apply Kd.Q_alloc | apply Kd.Q_drewN | apply Kd.Q_drew)); exact HO_124001.out) hg hat); have n2_ := Aside0.mk (blk_grown (g := gb123) (o := .cells #[.int .i64 t119, .slice Ao36 x124001_4.length co36, .slice none 0 0] 82 (0, 0)) (by (with_reducible repeat (first | refine blk_drewN ?_ _ | refine blk_drew ?_ | refine blk_alloc ?_ _)); exact BK123.out) hg (Kd.R_ne HO143.out BK123.out (by decide))); have n3_ := Aside0.mk (Kd.N_afterv (ok := (fun k_ => (P0_ k_ ∨ w.heap.size ≤ k_) ∧ k_ ≠ gb123 ∧ k_ ≠ gb131)) (by (with_reducible repeat (first | apply Kd.N_alloc | apply Kd.N_drewN | apply Kd.N_drew)); exact HO129.out) hg hat); have n4_ := Aside0.mk (Kd.V_afterv (ok := (fun k_ => (P0_ k_ ∨ w.heap.size ≤ k_) ∧ some k_ ≠ (.slice (some ad130) t127.length co38 : Value).ownBlock ∧ k_ ≠ gb123 ∧ k_ ≠ gb131)) (by (with_reducible repeat (first | apply Kd.V_alloc | apply Kd.V_drewN | apply Kd.V_drew)); exact HL130_1.out) hg hat); have n5_ := Aside0.mk (Kd.V_afterv (ok := (fun k_ => (P0_ k_ ∨ w.heap.size ≤ k_) ∧ some k_ ≠ (.slice (some ad130) t127.length co38 : Value).ownBlock ∧ k_ ≠ gb123 ∧ k_ ≠ gb131)) (by (with_reducible repeat (first | apply Kd.V_alloc | apply Kd.V_drewN | apply Kd.V_drew)); exact HL130_2.out) hg hat); have n6_ := Aside0.mk (blk_grown (g := gb131) (o := .cells #[.int .i64 ((rd_T82 t127 x8_3).f0), .slice A44 y133.length c44, .slice A130_2 ((rd_T82 t127 x8_3).f2).length c130_2] 82 (0, 0)) (by (with_reducible repeat (first | refine blk_drewN ?_ _ | refine blk_drew ?_ | refine blk_alloc ?_ _)); exact BK131.out) hg (Kd.R_ne HO143.out BK131.out (by decide))); have n7_ := Aside0.mk (Kd.V_afterv (ok := (fun k_ => (P0_ k_ ∨ w.heap.size ≤ k_) ∧ some k_ ≠ (.slice (some ad130) t127.length co38 : Value).ownBlock ∧ k_ ≠ gb123 ∧ k_ ≠ gb131)) (by (with_reducible repeat (first | apply Kd.V_alloc | apply Kd.V_drewN | apply Kd.V_drew)); exact HO137.out) hg hat); have n8_ := Aside0.mk (hb); have n9_ := Aside0.mk (ho); clear HO_0; clear HO_124001; clear BK123; clear HO129; clear HL130_1; clear HL130_2; clear BK131; clear HO137; clear HB; clear HO143; have HO_0 := n0_; have HO_124001 := n1_; have BK123 := n2_; have HO129 := n3_; have HL130_1 := n4_; have HL130_2 := n5_; have BK131 := n6_; have HO137 := n7_; have HB := n8_; have HO146 := n9_; clear n0_ n1_ n2_ n3_ n4_ n5_ n6_ n7_ n8_ n9_; clear ho hb hg hat; obtain ⟨Ao50, co50, eo50⟩ := Kd.R_slice HO146.out; subst eo50; have hcz51_0 : w49.cell? ⟨gb131, 0, none⟩ = some (.int .i64 ((rd_T82 t127 x8_3).f0)) := (blk_cell BK131.out 0).trans rfl; have hcz51_1 : w49.cell? ⟨gb131, 1, none⟩ = some (.slice A44 y133.length c44) := (blk_cell BK131.out 1).trans rfl; have hcz51_2 : w49.cell? ⟨gb131, 2, none⟩ = some (.slice A130_2 ((rd_T82 t127 x8_3).f2).length c130_2) := (blk_cell BK131.out 2).trans rfl; have hfz51_0 := blk_frozen BK131.out 0; have hfz51_1 := blk_frozen BK131.out 1; have hfz51_2 := blk_frozen BK131.out 2) | ((with_reducible refine gate_store (t := 34) (p := 106) rfl ?_); refine store_event (t := 34) (p := 106) (v := ?vo_w52) (w1 := (w49.setCell ⟨gb131, 2, none⟩ (.slice Ao50 y144.length co50))) ?hg ?ho ?hn ?hr ?_; (case ho => rfl); (case hg => rfl); (case hn => rfl); (case hr => first | (go_simp; done) | (go_simp; rfl)); intro w52 hw; have n0_ : Aside0 (Kd.V k82 82 w52 w.heap.size (fun k_ => (P0_ k_ ∨ w.heap.size ≤ k_) ∧ some k_ ≠ (.slice Ao36 x124001_4.length co36 : Value).ownBlock ∧ some k_ ≠ (.slice (some ad130) t127.length co38 : Value).ownBlock ∧ some k_ ≠ (.slice Ao50 y144.length co50 : Value).ownBlock ∧ k_ ≠ gb123 ∧ k_ ≠ gb131) (.slice A0 l0.length c0) l0) := ⟨(by rw [hw]; exact (by (with_reducible repeat (first | apply Kd.V_alloc | apply Kd.V_drewN | apply Kd.V_drew)); exact Kd.V_mono (Kd.V_far (p := ⟨gb131, 2, none⟩) (Kd.V_mono HO_0.out (fun k_ hk => (⟨hk, hk.1.2.2.2.2⟩ : _ ∧ k_ ≠ gb131))) (fun _ hk => hk.2) (.slice Ao50 y144.length co50)) (fun _ hk => ⟨hk.1.1.1, ⟨hk.1.1.2.1, ⟨hk.1.1.2.2.1, ⟨hk.1.2, ⟨hk.1.1.2.2.2.1, hk.1.1.2.2.2.2⟩⟩⟩⟩⟩)))⟩; have n1_ : Aside0 (Kd.Q (Kd.int .i64) 3 w52 w.heap.size (fun k_ => (w.heap.size ≤ k_) ∧ some k_ ≠ (.slice Ao50 y144.length co50 : Value).ownBlock) (.slice Ao36 x124001_4.length co36) x124001_4) := ⟨(by rw [hw]; exact (by (with_reducible repeat (first | apply Kd.Q_alloc | apply Kd.Q_drewN | apply Kd.Q_drew)); exact Kd.Q_mono (Kd.Q_far (p := ⟨gb131, 2, none⟩) (Kd.Q_types HO_124001.out BK131.out (by decide)) (fun _ hk => hk.2) (.slice Ao50 y144.length co50)) (fun _ hk => ⟨hk.1.1, hk.1.2⟩)))⟩; have n2_ : Aside0 (Kd.N k82 82 w52 w.heap.size (fun k_ => (P0_ k_ ∨ w.heap.size ≤ k_) ∧ some k_ ≠ (.slice Ao50 y144.length co50 : Value).ownBlock ∧ k_ ≠ gb123 ∧ k_ ≠ gb131) (.slice (some ad130) t127.length co38) t127) := ⟨(by rw [hw]; exact (by (with_reducible repeat (first | apply Kd.N_alloc | apply Kd.N_drewN | apply Kd.N_drew)); exact Kd.N_mono (Kd.N_far (p := ⟨gb131, 2, none⟩) (Kd.N_mono HO129.out (fun k_ hk => (⟨hk, hk.1.2.2⟩ : _ ∧ k_ ≠ gb131))) (fun _ hk => hk.2) (.slice Ao50 y144.length co50)) (fun _ hk => ⟨hk.1.1.1, ⟨hk.1.2, ⟨hk.1.1.2.1, hk.1.1.2.2⟩⟩⟩)))⟩; have n3_ : Aside0 (Kd.V (Kd.int .i64) 3 w52 w.heap.size (fun k_ => (P0_ k_ ∨ w.heap.size ≤ k_) ∧ some k_ ≠ (.slice (some ad130) t127.length co38 : Value).ownBlock ∧ some k_ ≠ (.slice Ao50 y144.length co50 : Value).ownBlock ∧ k_ ≠ gb123 ∧ k_ ≠ gb131) (.slice (some ad132) ((rd_T82 t127 x8_3).f1).length c130_1) ((rd_T82 t127 x8_3).f1)) := ⟨(by rw [hw]; exact (by (with_reducible repeat (first | apply Kd.V_alloc | apply Kd.V_drewN | apply Kd.V_drew)); exact Kd.V_mono (Kd.V_far (p := ⟨gb131, 2, none⟩) (Kd.V_mono HL130_1.out (fun k_ hk => (⟨hk, hk.1.2.2.2⟩ : _ ∧ k_ ≠ gb131))) (fun _ hk => hk.2) (.slice Ao50 y144.length co50)) (fun _ hk => ⟨hk.1.1.1, ⟨hk.1.1.2.1, ⟨hk.1.2, ⟨hk.1.1.2.2.1, hk.1.1.2.2.2⟩⟩⟩⟩)))⟩; have n4_ : Aside0 (Kd.V (Kd.int .i64) 3 w52 w.heap.size (fun k_ => (P0_ k_ ∨ w.heap.size ≤ k_) ∧ some k_ ≠ (.slice (some ad130) t127.length co38 : Value).ownBlock ∧ some k_ ≠ (.slice Ao50 y144.length co50 : Value).ownBlock ∧ k_ ≠ gb123 ∧ k_ ≠ gb131) (.slice A130_2 ((rd_T82 t127 x8_3).f2).length c130_2) ((rd_T82 t127 x8_3).f2)) := ⟨(by rw [hw]; exact (by (with_reducible repeat (first | apply Kd.V_alloc | apply Kd.V_drewN | apply Kd.V_drew)); exact Kd.V_mono (Kd.V_far (p := ⟨gb131, 2, none⟩) (Kd.V_mono HL130_2.out (fun k_ hk => (⟨hk, hk.1.2.2.2⟩ : _ ∧ k_ ≠ gb131))) (fun _ hk => hk.2) (.slice Ao50 y144.length co50)) (fun _ hk => ⟨hk.1.1.1, ⟨hk.1.1.2.1, ⟨hk.1.2, ⟨hk.1.1.2.2.1, hk.1.1.2.2.2⟩⟩⟩⟩)))⟩; have n5_ : Aside0 (Kd.V (Kd.int .i64) 3 w52 w.heap.size (fun k_ => (P0_ k_ ∨ w.heap.size ≤ k_) ∧ some k_ ≠ (.slice (some ad130) t127.length co38 : Value).ownBlock ∧ some k_ ≠ (.slice Ao50 y144.length co50 : Value).ownBlock ∧ k_ ≠ gb123 ∧ k_ ≠ gb131) (.slice A44 y133.length c44) y133) := ⟨(by rw [hw]; exact (by (with_reducible repeat (first | apply Kd.V_alloc | apply Kd.V_drewN | apply Kd.V_drew)); exact Kd.V_mono (Kd.V_far (p := ⟨gb131, 2, none⟩) (Kd.V_mono HO137.out (fun k_ hk => (⟨hk, hk.1.2.2.2⟩ : _ ∧ k_ ≠ gb131))) (fun _ hk => hk.2) (.slice Ao50 y144.length co50)) (fun _ hk => ⟨hk.1.1.1, ⟨hk.1.1.2.1, ⟨hk.1.2, ⟨hk.1.1.2.2.1, hk.1.1.2.2.2⟩⟩⟩⟩)))⟩; have n6_ : Aside0 (Kd.R (Kd.int .i64) 3 w52 w.heap.size (fun k_ => (w.heap.size ≤ k_) ∧ some k_ ≠ (.slice Ao36 x124001_4.length co36 : Value).ownBlock) (.slice Ao50 y144.length co50) y144) := ⟨(by rw [hw]; exact (by (with_reducible repeat (first | apply Kd.R_alloc | apply Kd.R_drewN | apply Kd.R_drew)); exact Kd.R_mono (Kd.R_far (p := ⟨gb131, 2, none⟩) (Kd.R_types HO146.out BK131.out (by decide)) (fun _ hk => hk.2) (.slice Ao50 y144.length co50)) (fun _ hk => ⟨hk.1.1, hk.1.2⟩)))⟩; have n7_ : Aside0 (w52.heap[gb123]? = some (.cells #[.int .i64 t119, .slice Ao36 x124001_4.length co36, .slice none 0 0] 82 (0, 0))) := ⟨(by rw [hw]; exact (by (with_reducible repeat (first | refine blk_drewN ?_ _ | refine blk_drew ?_ | refine blk_alloc ?_ _)); refine blk_far ?_ NB123_131.out _; (with_reducible repeat (first | refine blk_drewN ?_ _ | refine blk_drew ?_ | refine blk_alloc ?_ _)); exact BK123.out))⟩; have n8_ : Aside0 (w52.heap[gb131]? = some (.cells #[.int .i64 ((rd_T82 t127 x8_3).f0), .slice A44 y133.length c44, .slice Ao50 y144.length co50] 82 (0, 0))) := ⟨(by rw [hw]; exact (by (with_reducible repeat (first | refine blk_drewN ?_ _ | refine blk_drew ?_ | refine blk_alloc ?_ _)); refine blk_put (cs := #[.int .i64 ((rd_T82 t127 x8_3).f0), .slice A44 y133.length c44, .slice A130_2 ((rd_T82 t127 x8_3).f2).length c130_2]) ?_ 2 _ rfl; (with_reducible repeat (first | refine blk_drewN ?_ _ | refine blk_drew ?_ | refine blk_alloc ?_ _)); exact BK131.out))⟩; have n9_ : Aside0 (Below w.heap.size w w52) := ⟨(by rw [hw]; exact (by repeat (first | (with_reducible first | exact HB.out | apply below_alloc | apply pw_below_drewN | apply below_drew1 | refine below_set ?_ GE123.out | refine below_set ?_ GE131.out) | exact HB.out)))⟩; clear hw; clear HO_0; clear HO_124001; clear HO129; clear HL130_1; clear HL130_2; clear HO137; clear HO146; clear BK123; clear BK131; clear HB; have HO_0 := n0_; have HO_124001 := n1_; have HO129 := n2_; have HL130_1 := n3_; have HL130_2 := n4_; have HO137 := n5_; have HO146 := n6_; have BK123 := n7_; have BK131 := n8_; have HB := n9_; clear n0_ n1_ n2_ n3_ n4_ n5_ n6_ n7_ n8_ n9_; have hcz53_0 : w52.cell? ⟨gb131, 0, none⟩ = some (.int .i64 ((rd_T82 t127 x8_3).f0)) := (blk_cell BK131.out 0).trans rfl; have hcz53_1 : w52.cell? ⟨gb131, 1, none⟩ = some (.slice A44 y133.length c44) := (blk_cell BK131.out 1).trans rfl; have hcz53_2 : w52.cell? ⟨gb131, 2, none⟩ = some (.slice Ao50 y144.length co50) := (blk_cell BK131.out 2).trans rfl; have hfz53_0 := blk_frozen BK131.out 0; have hfz53_1 := blk_frozen BK131.out 1; have hfz53_2 := blk_frozen BK131.out 2) | ((with_reducible refine gate_callee (f := 38) rfl ?_); refine goesL_ (some 110) rfl rfl Tryd.func38 (by kernel_rfl) rfl #[.slice (some ad130) t127.length co38, .int .i64 x8_3, .agg #[.int .i64 ((rd_T82 t127 x8_3).f0), .slice A44 y133.length c44, .slice Ao50 y144.length co50]] rfl (by (try simp only [List.map_toArray, List.map_cons, List.map_nil]); first | done | rfl | (simp only [List.length_drop, List.length_take]; rfl)) ?_; (with_reducible refine (turnbuckleref03_with.calls (fun k_ => ((P0_ k_ ∨ w.heap.size ≤ k_) ∧ (some k_ ≠ (.slice Ao50 y144.length co50 : Value).ownBlock ∧ (k_ ≠ gb123 ∧ k_ ≠ gb131)))) _ _ t127 x8_3 ((rd_T82 t127 x8_3).f0) (fun k_ => ((P0_ k_ ∨ w.heap.size ≤ k_) ∧ (some k_ ≠ (.slice (some ad130) t127.length co38 : Value).ownBlock ∧ (some k_ ≠ (.slice Ao50 y144.length co50 : Value).ownBlock ∧ (k_ ≠ gb123 ∧ k_ ≠ gb131))))) _ _ y133 (fun k_ => some k_ = (.slice Ao50 y144.length co50 : Value).ownBlock) _ _ y144 t147 _ ?side1 ?side2 ?side3 A34.out).mono ?_); (case side1 => exact Kd.N_V (HO129.out)); (case side2 => exact HO137.out); (case side3 => exact Kd.R_V (Kd.R_tight rfl (Kd.R_types (Kd.R_types (Kd.R_apart' (HO146.out) (Kd.N_typed HO129.out) (by decide)) BK123.out (by decide)) BK131.out (by decide)))); rintro e w54 ⟨v148, rfl, ho0, hb⟩; refine ⟨_, rfl, ?_⟩; have n0_ := Aside0.mk (Kd.V_elder' (by (with_reducible repeat (first | apply Kd.V_alloc | apply Kd.V_drewN | apply Kd.V_drew)); exact HO_0.out) (Kd.N_base ho0) hb); have n1_ := Aside0.mk (Kd.Q_below (by (with_reducible repeat (first | apply Kd.Q_alloc | apply Kd.Q_drewN | apply Kd.Q_drew)); exact HO_124001.out) hb); have n2_ := Aside0.mk (Kd.N_elder' (by (with_reducible repeat (first | apply Kd.N_alloc | apply Kd.N_drewN | apply Kd.N_drew)); exact HO129.out) (Kd.N_base ho0) hb); have n3_ := Aside0.mk (Kd.V_elder' (by (with_reducible repeat (first | apply Kd.V_alloc | apply Kd.V_drewN | apply Kd.V_drew)); exact HL130_1.out) (Kd.N_base ho0) hb); have n4_ := Aside0.mk (Kd.V_elder' (by (with_reducible repeat (first | apply Kd.V_alloc | apply Kd.V_drewN | apply Kd.V_drew)); exact HL130_2.out) (Kd.N_base ho0) hb); have n5_ := Aside0.mk (Kd.V_elder' (by (with_reducible repeat (first | apply Kd.V_alloc | apply Kd.V_drewN | apply Kd.V_drew)); exact HO137.out) (Kd.N_base ho0) hb); have n6_ := Aside0.mk (Kd.R_below (by (with_reducible repeat (first | apply Kd.R_alloc | apply Kd.R_drewN | apply Kd.R_drew)); exact HO146.out) hb); have n7_ := Aside0.mk (Kd.N_lower (Kd.N_mono (ok' := fun k_ => (P0_ k_ ∨ w.heap.size ≤ k_) ∧ k_ ≠ gb123 ∧ k_ ≠ gb131) ho0 (fun k_ hk_ => ⟨Or.elim hk_ (fun hs_ => Or.elim hs_ (fun hs_ => hs_.1) (fun hs_ => Or.elim hs_ (fun hs_ => hs_.1) (fun hs_ => (.inr (((Kd.R_types (Kd.R_types (Kd.R_apart' (HO146.out) (Kd.N_typed HO129.out) (by decide)) BK123.out (by decide)) BK131.out (by decide)).1 k_ hs_.symm).1.1.1.1))))) (fun hn_ => (.inr (Nat.le_trans (below_size (by repeat (first | (with_reducible first | exact HB.out | apply below_alloc | apply pw_below_drewN | apply below_drew1 | refine below_set ?_ GE123.out | refine below_set ?_ GE131.out) | exact HB.out))) hn_))), Or.elim hk_ (fun hs_ => Or.elim hs_ (fun hs_ => hs_.2.2.1) (fun hs_ => Or.elim hs_ (fun hs_ => hs_.2.2.2.1) (fun hs_ => ((Kd.R_types (Kd.R_types (Kd.R_apart' (HO146.out) (Kd.N_typed HO129.out) (by decide)) BK123.out (by decide)) BK131.out (by decide)).1 k_ hs_.symm).1.2))) (fun hn_ => (Kd.freshB (g := gb123) (o := .cells #[.int .i64 t119, .slice Ao36 x124001_4.length co36, .slice none 0 0] 82 (0, 0)) (by (with_reducible repeat (first | refine blk_drewN ?_ _ | refine blk_drew ?_ | refine blk_alloc ?_ _)); exact BK123.out) k_ hn_)), Or.elim hk_ (fun hs_ => Or.elim hs_ (fun hs_ => hs_.2.2.2) (fun hs_ => Or.elim hs_ (fun hs_ => hs_.2.2.2.2) (fun hs_ => ((Kd.R_types (Kd.R_types (Kd.R_apart' (HO146.out) (Kd.N_typed HO129.out) (by decide)) BK123.out (by decide)) BK131.out (by decide)).1 k_ hs_.symm).2))) (fun hn_ => (Kd.freshB (g := gb131) (o := .cells #[.int .i64 ((rd_T82 t127 x8_3).f0), .slice A44 y133.length c44, .slice Ao50 y144.length co50] 82 (0, 0)) (by (with_reducible repeat (first | refine blk_drewN ?_ _ | refine blk_drew ?_ | refine blk_alloc ?_ _)); exact BK131.out) k_ hn_))⟩)) (below_size (by repeat (first | (with_reducible first | exact HB.out | apply below_alloc | apply pw_below_drewN | apply below_drew1 | refine below_set ?_ GE123.out | refine below_set ?_ GE131.out) | exact HB.out)))); have n8_ := Aside0.mk (blk_below (g := gb123) (o := .cells #[.int .i64 t119, .slice Ao36 x124001_4.length co36, .slice none 0 0] 82 (0, 0)) (by (with_reducible repeat (first | refine blk_drewN ?_ _ | refine blk_drew ?_ | refine blk_alloc ?_ _)); exact BK123.out) hb); have n9_ := Aside0.mk (blk_below (g := gb131) (o := .cells #[.int .i64 ((rd_T82 t127 x8_3).f0), .slice A44 y133.length c44, .slice Ao50 y144.length co50] 82 (0, 0)) (by (with_reducible repeat (first | refine blk_drewN ?_ _ | refine blk_drew ?_ | refine blk_alloc ?_ _)); exact BK131.out) hb); have n10_ := Aside0.mk (below_step (by repeat (first | (with_reducible first | exact HB.out | apply below_alloc | apply pw_below_drewN | apply below_drew1 | refine below_set ?_ GE123.out | refine below_set ?_ GE131.out) | exact HB.out)) hb); clear HO_0; clear HO_124001; clear HO129; clear HL130_1; clear HL130_2; clear HO137; clear HO146; clear BK123; clear BK131; clear HB; have HO_0 := n0_; have HO_124001 := n1_; have HO129 := n2_; have HL130_1 := n3_; have HL130_2 := n4_; have HO137 := n5_; have HO146 := n6_; have HO149 := n7_; have BK123 := n8_; have BK131 := n9_; have HB := n10_; clear n0_ n1_ n2_ n3_ n4_ n5_ n6_ n7_ n8_ n9_ n10_; (try clear hb); (try clear hb2); (try clear hk); (try clear hi); (try clear ho0)))
                                          go_ret3
                                          exact ⟨_, by first | rfl | (simp [errW_none, errW_some] <;> rfl) | (simp [*, errW_none, errW_some] <;> rfl), Kd.N_V (by (with_reducible repeat (first | apply Kd.N_alloc | apply Kd.N_drewN | apply Kd.N_drew)); exact Kd.N_mono HO149.out (fun _ hk => hk.1)), by repeat (first | (with_reducible first | exact HB.out | apply below_alloc | apply pw_below_drewN | apply below_drew1 | refine below_set ?_ GE123.out | refine below_set ?_ GE131.out) | exact HB.out)⟩
                                        · rw [if_neg c33] at H
                                          exact absurd H (by simp)
                                      · rw [if_neg c32] at H
                                        exact absurd H (by simp)
                                    · rw [if_neg c31] at H
                                      exact absurd H (by simp)
                                  · rw [if_neg c30] at H
                                    exact absurd H (by simp)
                                · rw [if_neg c29] at H
                                  exact absurd H (by simp)
                              · rw [if_neg c28] at H
                                exact absurd H (by simp)
              · rw [if_neg c13] at H
                have c13b0 : (x8_2 == 0) = false := beq_eq_false_iff_ne.mpr c13
                have c13b1 : (x8_2 != 0) = true := bne_iff_ne.mpr c13
                by_cases c55 : 0 ≤ x8_2
                · rw [if_pos c55] at H
                  have c55b0 : decide (0 ≤ x8_2) = true := decide_eq_true c55
                  clear c55
                  by_cases c56 : x8_2 < (l0.length : Int)
                  · rw [if_pos c56] at H
                    have c56b0 : decide (x8_2 < (l0.length : Int)) = true := decide_eq_true c56
                    clear c56
                    by_cases c57 : 0 < (((rd_T82 l0 x8_2).f1).length : Int)
                    · rw [if_pos c57] at H
                      have c57b0 : decide (0 < (((rd_T82 l0 x8_2).f1).length : Int)) = true := decide_eq_true c57
                      have c57b1 : decide (0 < ((rd_T82 l0 x8_2).f1).length) = true := decide_eq_true (by omega)
                      clear c57
                      by_cases c58 : 1 ≤ (((rd_T82 l0 x8_2).f1).length : Int)
                      · rw [if_pos c58] at H
                        have c58b0 := eq_true c58
                        have c58b1 : decide (1 ≤ (((rd_T82 l0 x8_2).f1).length : Int)) = true := decide_eq_true c58
                        clear c58
                        obtain ⟨y153, hy153⟩ : ∃ y_ : List Int, y_ = (((rd_T82 l0 x8_2).f1).drop 1) := ⟨_, rfl⟩
                        replace H : ((some (([] : List Int) : List Int)).bind fun y158 => (if y158.length + ((rd_T82 l0 x8_2).f2).length < 17592186044416 then ((some (y158 ++ ((rd_T82 l0 x8_2).f2) : List Int)).bind fun y161 => (if y161.length < 17592186044416 then ((turnbuckleref03_with.f l0 x8_2 ((rd_T82 l0 x8_2).f0) y153 (y161 ++ [rd ((rd_T82 l0 x8_2).f1) 0])).bind fun t167 => (some (t167, rd ((rd_T82 l0 x8_2).f1) 0, 0))) else (none))) else (none))) = some (r1, r2, r3) := by first | (rw [hy153]; with_reducible exact H) | (have H2_ := (Option.bind_some _ _).symm.trans H; rw [hy153]; with_reducible exact H2_) | (have H2_ := (Option.bind_some _ _).symm.trans H; with_reducible exact H2_) | with_reducible exact H | (rw [hy153]; exact H) | exact H
                        have Ny153 := Aside0.mk hy153
                        clear hy153
                        obtain ⟨y158, hy158⟩ : ∃ y_ : List Int, y_ = (([] : List Int)) := ⟨_, rfl⟩
                        replace H : (if y158.length + ((rd_T82 l0 x8_2).f2).length < 17592186044416 then ((some (y158 ++ ((rd_T82 l0 x8_2).f2) : List Int)).bind fun y161 => (if y161.length < 17592186044416 then ((turnbuckleref03_with.f l0 x8_2 ((rd_T82 l0 x8_2).f0) y153 (y161 ++ [rd ((rd_T82 l0 x8_2).f1) 0])).bind fun t167 => (some (t167, rd ((rd_T82 l0 x8_2).f1) 0, 0))) else (none))) else (none)) = some (r1, r2, r3) := by first | (rw [hy158]; with_reducible exact H) | (have H2_ := (Option.bind_some _ _).symm.trans H; rw [hy158]; with_reducible exact H2_) | (have H2_ := (Option.bind_some _ _).symm.trans H; with_reducible exact H2_) | with_reducible exact H | (rw [hy158]; exact H) | exact H
                        have Ny158 := Aside0.mk hy158
                        clear hy158
                        by_cases c59 : y158.length + ((rd_T82 l0 x8_2).f2).length < 17592186044416
                        · rw [if_pos c59] at H
                          have LMc59 := Aside0.mk c59
                          clear c59
                          obtain ⟨y161, hy161⟩ : ∃ y_ : List Int, y_ = (y158 ++ ((rd_T82 l0 x8_2).f2)) := ⟨_, rfl⟩
                          replace H : (if y161.length < 17592186044416 then ((turnbuckleref03_with.f l0 x8_2 ((rd_T82 l0 x8_2).f0) y153 (y161 ++ [rd ((rd_T82 l0 x8_2).f1) 0])).bind fun t167 => (some (t167, rd ((rd_T82 l0 x8_2).f1) 0, 0))) else (none)) = some (r1, r2, r3) := by first | (rw [hy161]; with_reducible exact H) | (have H2_ := (Option.bind_some _ _).symm.trans H; rw [hy161]; with_reducible exact H2_) | (have H2_ := (Option.bind_some _ _).symm.trans H; with_reducible exact H2_) | with_reducible exact H | (rw [hy161]; exact H) | exact H
                          have Ny161 := Aside0.mk hy161
                          clear hy161
                          by_cases c60 : y161.length < 17592186044416
                          · rw [if_pos c60] at H
                            have LMc60 := Aside0.mk c60
                            clear c60
                            obtain ⟨y164, hy164⟩ : ∃ y_ : List Int, y_ = (y161 ++ [rd ((rd_T82 l0 x8_2).f1) 0]) := ⟨_, rfl⟩
                            replace H : ((turnbuckleref03_with.f l0 x8_2 ((rd_T82 l0 x8_2).f0) y153 y164).bind fun t167 => (some (t167, rd ((rd_T82 l0 x8_2).f1) 0, 0))) = some (r1, r2, r3) := by first | (rw [hy164]; with_reducible exact H) | (have H2_ := (Option.bind_some _ _).symm.trans H; rw [hy164]; with_reducible exact H2_) | (have H2_ := (Option.bind_some _ _).symm.trans H; with_reducible exact H2_) | with_reducible exact H | (rw [hy164]; exact H) | exact H
                            have Ny164 := Aside0.mk hy164
                            clear hy164
                            replace H := Option.bind_eq_some_iff.mp H
                            obtain ⟨t167, A610, H⟩ := H
                            replace H : (some (t167, rd ((rd_T82 l0 x8_2).f1) 0, 0)) = some (r1, r2, r3) := H
                            have A61 := Aside0.mk A610
                            clear A610
                            simp only [Option.some.injEq, Prod.mk.injEq] at H
                            obtain ⟨rfl, rfl, rfl⟩ := H
                            have p150 : 0 ≤ (x8_2 : Int) := of_decide_eq_true (by first | (with_reducible assumption) | assumption)
                            have q150 : x8_2 < (l0.length : Int) := of_decide_eq_true (by first | (with_reducible assumption) | assumption)
                            obtain ⟨ad150, A150_1, c150_1, A150_2, c150_2, e150, hx150_0, hx150_1, hx150_2, hl150_1, hi150_1, hl150_2, hi150_2⟩ := at_T82 (Kd.V_reads' HO_0.out).2.2 x8_2 p150 q150
                            cases e150
                            obtain ⟨ce150, hce150, hMe150, hcc150⟩ := Kd.V_get HO_0.out z82 x8_2 p150 (by first | exact q150 | exact of_decide_eq_true (by first | (with_reducible assumption) | assumption) | (have e_ := (Kd.V_reads' HO_0.out).1; omega))
                            obtain ⟨ua150_1, uc150_1, ua150_2, uc150_2, rfl, ul150_1, ge150_1, ul150_2, ge150_2⟩ := k82_openF hMe150
                            have hv150_1 := hcc150 1 _ rfl
                            rw [add_field _ _ 1 (by omega)] at hv150_1
                            replace hv150_1 := Option.some.inj (hv150_1.symm.trans hx150_1)
                            injection hv150_1 with hva_ hvn_ hvc_
                            rw [hva_] at ge150_1
                            rw [hvc_] at ul150_1
                            have HL150_1 := Aside0.mk (show Kd.V (Kd.int .i64) 3 _ w.heap.size _ _ ((rd_T82 l0 x8_2).f1) from Kd.V_mk ul150_1 ge150_1)
                            clear hva_ hvn_ hvc_ ge150_1 ul150_1
                            have hv150_2 := hcc150 2 _ rfl
                            rw [add_field _ _ 2 (by omega)] at hv150_2
                            replace hv150_2 := Option.some.inj (hv150_2.symm.trans hx150_2)
                            injection hv150_2 with hva_ hvn_ hvc_
                            rw [hva_] at ge150_2
                            rw [hvc_] at ul150_2
                            have HL150_2 := Aside0.mk (show Kd.V (Kd.int .i64) 3 _ w.heap.size _ _ ((rd_T82 l0 x8_2).f2) from Kd.V_mk ul150_2 ge150_2)
                            clear hva_ hvn_ hvc_ ge150_2 ul150_2
                            clear hcc150 hce150
                            have HR150_1 := Aside0.mk hi150_1
                            have HC150_1 := Aside0.mk hl150_1
                            clear hi150_1 hl150_1
                            have HR150_2 := Aside0.mk hi150_2
                            have HC150_2 := Aside0.mk hl150_2
                            clear hi150_2 hl150_2
                            replace p150 := eq_true p150
                            replace q150 := eq_true q150
                            go_wp2_with (first | ((with_reducible refine gate_dst (N := 13) rfl ?_); (try (refine gate_guard (by rfl) ?_; dsimp only)); refine box_event ?hg (N := 13) ?hd (cs := #[.int .i64 0, .slice none 0 0, .slice none 0 0]) (t := 82) ?hr ?_; (case hd => rfl); (case hg => rfl); (case hr => first | (go_simp; done) | (go_simp; rfl)); intro gb151 hg w62 hbox hb; have n0_ := Aside0.mk (Kd.V_below (Kd.V_elderB (by (with_reducible repeat (first | apply Kd.V_alloc | apply Kd.V_drewN | apply Kd.V_drew)); exact HO_0.out) gb151 (Nat.le_of_eq hg.symm)) hb); have n1_ := Aside0.mk (Kd.V_below (Kd.V_elderB (by (with_reducible repeat (first | apply Kd.V_alloc | apply Kd.V_drewN | apply Kd.V_drew)); exact HL150_1.out) gb151 (Nat.le_of_eq hg.symm)) hb); have n2_ := Aside0.mk (Kd.V_below (Kd.V_elderB (by (with_reducible repeat (first | apply Kd.V_alloc | apply Kd.V_drewN | apply Kd.V_drew)); exact HL150_2.out) gb151 (Nat.le_of_eq hg.symm)) hb); have n3_ := Aside0.mk (Kd.C_below (by repeat (first | (with_reducible exact HR150_1.out) | (with_reducible refine Kd.C_alloc ?_ _) | (with_reducible refine Kd.C_drewN ?_ _) | (with_reducible refine Kd.C_drew ?_) | exact HR150_1.out)) hb); have n4_ := Aside0.mk (Kd.C_below (by repeat (first | (with_reducible exact HR150_2.out) | (with_reducible refine Kd.C_alloc ?_ _) | (with_reducible refine Kd.C_drewN ?_ _) | (with_reducible refine Kd.C_drew ?_) | exact HR150_2.out)) hb); have n5_ := Aside0.mk (below_step (by repeat (first | (with_reducible first | exact HB.out | apply below_alloc | apply pw_below_drewN | apply below_drew1) | exact HB.out)) hb); have n6_ := Aside0.mk (hbox); have n7_ := Aside0.mk ((by rw [hg]; exact (below_size (by repeat (first | (with_reducible first | exact HB.out | apply below_alloc | apply pw_below_drewN | apply below_drew1) | exact HB.out))) : w.heap.size ≤ gb151)); have n8_ := Aside0.mk ((by rw [hg]; exact (below_size (by repeat (first | (with_reducible first | exact HB.out | apply below_alloc | apply pw_below_drewN | apply below_drew1) | exact HB.out))) : w.heap.size ≤ gb151)); clear HO_0; clear HL150_1; clear HL150_2; clear HR150_1; clear HR150_2; clear HB; have HO_0 := n0_; have HL150_1 := n1_; have HL150_2 := n2_; have HR150_1 := n3_; have HR150_2 := n4_; have HB := n5_; have BK151 := n6_; have GW151 := n7_; have GE151 := n8_; clear n0_ n1_ n2_ n3_ n4_ n5_ n6_ n7_ n8_; clear hb hbox hg; have hcz63_0 : w62.cell? ⟨gb151, 0, none⟩ = some (.int .i64 0) := (blk_cell BK151.out 0).trans rfl; have hcz63_1 : w62.cell? ⟨gb151, 1, none⟩ = some (.slice none 0 0) := (blk_cell BK151.out 1).trans rfl; have hcz63_2 : w62.cell? ⟨gb151, 2, none⟩ = some (.slice none 0 0) := (blk_cell BK151.out 2).trans rfl; have hfz63_0 := blk_frozen BK151.out 0; have hfz63_1 := blk_frozen BK151.out 1; have hfz63_2 := blk_frozen BK151.out 2) | ((with_reducible refine gate_store (t := 82) (p := 13) rfl ?_); refine store_event (t := 82) (p := 13) (v := ?vo_w64) (w1 := (((w62.setCell ⟨gb151, 0, none⟩ (.int .i64 ((rd_T82 l0 x8_2).f0))).setCell ⟨gb151, 1, none⟩ (.slice A150_1 ((rd_T82 l0 x8_2).f1).length c150_1)).setCell ⟨gb151, 2, none⟩ (.slice A150_2 ((rd_T82 l0 x8_2).f2).length c150_2))) ?hg ?ho ?hn ?hr ?_; (case ho => rfl); (case hg => rfl); (case hn => rfl); (case hr => first | (go_simp; done) | (go_simp; rfl)); intro w64 hw; have n0_ : Aside0 (Kd.V k82 82 w64 w.heap.size (fun k_ => (P0_ k_ ∨ w.heap.size ≤ k_) ∧ k_ ≠ gb151) (.slice (some ad150) l0.length c0) l0) := ⟨(by rw [hw]; exact (by (with_reducible repeat (first | apply Kd.V_alloc | apply Kd.V_drewN | apply Kd.V_drew)); exact Kd.V_mono (Kd.V_far (p := ⟨gb151, 2, none⟩) (Kd.V_far (p := ⟨gb151, 1, none⟩) (Kd.V_far (p := ⟨gb151, 0, none⟩) (Kd.V_mono HO_0.out (fun k_ hk => (⟨hk, hk.2⟩ : _ ∧ k_ ≠ gb151))) (fun _ hk => hk.2) (.int .i64 ((rd_T82 l0 x8_2).f0))) (fun _ hk => hk.2) (.slice A150_1 ((rd_T82 l0 x8_2).f1).length c150_1)) (fun _ hk => hk.2) (.slice A150_2 ((rd_T82 l0 x8_2).f2).length c150_2)) (fun _ hk => ⟨hk.1.1, hk.1.2⟩)))⟩; have n1_ : Aside0 (Kd.V (Kd.int .i64) 3 w64 w.heap.size (fun k_ => (P0_ k_ ∨ w.heap.size ≤ k_) ∧ k_ ≠ gb151) (.slice A150_1 ((rd_T82 l0 x8_2).f1).length c150_1) ((rd_T82 l0 x8_2).f1)) := ⟨(by rw [hw]; exact (by (with_reducible repeat (first | apply Kd.V_alloc | apply Kd.V_drewN | apply Kd.V_drew)); exact Kd.V_mono (Kd.V_far (p := ⟨gb151, 2, none⟩) (Kd.V_far (p := ⟨gb151, 1, none⟩) (Kd.V_far (p := ⟨gb151, 0, none⟩) (Kd.V_mono HL150_1.out (fun k_ hk => (⟨hk, hk.2⟩ : _ ∧ k_ ≠ gb151))) (fun _ hk => hk.2) (.int .i64 ((rd_T82 l0 x8_2).f0))) (fun _ hk => hk.2) (.slice A150_1 ((rd_T82 l0 x8_2).f1).length c150_1)) (fun _ hk => hk.2) (.slice A150_2 ((rd_T82 l0 x8_2).f2).length c150_2)) (fun _ hk => ⟨hk.1.1, hk.1.2⟩)))⟩; have n2_ : Aside0 (Kd.V (Kd.int .i64) 3 w64 w.heap.size (fun k_ => (P0_ k_ ∨ w.heap.size ≤ k_) ∧ k_ ≠ gb151) (.slice A150_2 ((rd_T82 l0 x8_2).f2).length c150_2) ((rd_T82 l0 x8_2).f2)) := ⟨(by rw [hw]; exact (by (with_reducible repeat (first | apply Kd.V_alloc | apply Kd.V_drewN | apply Kd.V_drew)); exact Kd.V_mono (Kd.V_far (p := ⟨gb151, 2, none⟩) (Kd.V_far (p := ⟨gb151, 1, none⟩) (Kd.V_far (p := ⟨gb151, 0, none⟩) (Kd.V_mono HL150_2.out (fun k_ hk => (⟨hk, hk.2⟩ : _ ∧ k_ ≠ gb151))) (fun _ hk => hk.2) (.int .i64 ((rd_T82 l0 x8_2).f0))) (fun _ hk => hk.2) (.slice A150_1 ((rd_T82 l0 x8_2).f1).length c150_1)) (fun _ hk => hk.2) (.slice A150_2 ((rd_T82 l0 x8_2).f2).length c150_2)) (fun _ hk => ⟨hk.1.1, hk.1.2⟩)))⟩; have n3_ : Aside0 (w64.heap[gb151]? = some (.cells #[.int .i64 ((rd_T82 l0 x8_2).f0), .slice A150_1 ((rd_T82 l0 x8_2).f1).length c150_1, .slice A150_2 ((rd_T82 l0 x8_2).f2).length c150_2] 82 (0, 0))) := ⟨(by rw [hw]; exact (by (with_reducible repeat (first | refine blk_drewN ?_ _ | refine blk_drew ?_ | refine blk_alloc ?_ _)); refine blk_put (cs := #[.int .i64 ((rd_T82 l0 x8_2).f0), .slice A150_1 ((rd_T82 l0 x8_2).f1).length c150_1, .slice none 0 0]) ?_ 2 _ rfl; (with_reducible repeat (first | refine blk_drewN ?_ _ | refine blk_drew ?_ | refine blk_alloc ?_ _)); refine blk_put (cs := #[.int .i64 ((rd_T82 l0 x8_2).f0), .slice none 0 0, .slice none 0 0]) ?_ 1 _ rfl; (with_reducible repeat (first | refine blk_drewN ?_ _ | refine blk_drew ?_ | refine blk_alloc ?_ _)); refine blk_put (cs := #[.int .i64 0, .slice none 0 0, .slice none 0 0]) ?_ 0 _ rfl; (with_reducible repeat (first | refine blk_drewN ?_ _ | refine blk_drew ?_ | refine blk_alloc ?_ _)); exact BK151.out))⟩; have n4_ : Aside0 (Below w.heap.size w w64) := ⟨(by rw [hw]; exact (by repeat (first | (with_reducible first | exact HB.out | apply below_alloc | apply pw_below_drewN | apply below_drew1 | refine below_set ?_ GE151.out) | exact HB.out)))⟩; clear hw; clear HO_0; clear HL150_1; clear HL150_2; clear BK151; clear HB; have HO_0 := n0_; have HL150_1 := n1_; have HL150_2 := n2_; have BK151 := n3_; have HB := n4_; clear n0_ n1_ n2_ n3_ n4_; have hcz65_0 : w64.cell? ⟨gb151, 0, none⟩ = some (.int .i64 ((rd_T82 l0 x8_2).f0)) := (blk_cell BK151.out 0).trans rfl; have hcz65_1 : w64.cell? ⟨gb151, 1, none⟩ = some (.slice A150_1 ((rd_T82 l0 x8_2).f1).length c150_1) := (blk_cell BK151.out 1).trans rfl; have hcz65_2 : w64.cell? ⟨gb151, 2, none⟩ = some (.slice A150_2 ((rd_T82 l0 x8_2).f2).length c150_2) := (blk_cell BK151.out 2).trans rfl; have hfz65_0 := blk_frozen BK151.out 0; have hfz65_1 := blk_frozen BK151.out 1; have hfz65_2 := blk_frozen BK151.out 2; have p152 : 0 ≤ (0 : Int) := (by omega); have q152 : 0 < (((rd_T82 l0 x8_2).f1).length : Int) := of_decide_eq_true (by first | (with_reducible assumption) | assumption); obtain ⟨ad152, e152, hx152_0⟩ := Kd.at_int (Kd.V_reads' HL150_1.out).2.2 0 p152 q152; cases e152; have qi152 : (0 < ((rd_T82 l0 x8_2).f1).length) = True := eq_true (by omega); (try rw [show ((0 : Int)).toNat = 0 from rfl] at hx152_0); (try rw [Addr.add_zero'] at hx152_0); replace p152 := eq_true p152; replace q152 := eq_true q152; have q66 : (1 : Int) ≤ ((((rd_T82 l0 x8_2).f1).length : Int) : Int) := of_decide_eq_true (by first | (with_reducible assumption) | assumption); obtain ⟨i066, hi066, _, hsz66, _⟩ := info_parts info3; have hroom66 : ((rd_T82 l0 x8_2).f1).length ≤ c150_1 := HC150_1.out; have hC66 : Kd.F (Kd.int .i64) _ _ (some ad152) ((rd_T82 l0 x8_2).f1).length ((rd_T82 l0 x8_2).f1) := (Kd.V_at (base := w.heap.size) HL150_1.out).2.2; have hcut66 := cut_from (P := Tryd.prog) 34 3 .i64 Tryd.underlying34 hi066 1 hsz66 (some ad152) ((rd_T82 l0 x8_2).f1).length c150_1 1 (by omega) q66; have hr66 := Kd.F_cut (m := (1 : Int).toNat) (c := c150_1) hC66 (by omega) hroom66; obtain ⟨A66, hA66⟩ : ∃ A1, A1 = (if c150_1 = (1 : Int).toNat then (some ad152) else ((some ad152) : Option Addr).map (·.add ((1 : Int).toNat * 1))) := ⟨_, rfl⟩; obtain ⟨c66, hc66⟩ : ∃ c1, c1 = c150_1 - (1 : Int).toNat := ⟨_, rfl⟩; have hy66 : y153.length = ((rd_T82 l0 x8_2).f1).length - (1 : Int).toNat := (by rw [Ny153.out, List.length_drop] <;> omega); rw [show ((rd_T82 l0 x8_2).f1).drop (1 : Int).toNat = y153 from Ny153.out.symm] at hr66; replace hr66 : Kd.F (Kd.int .i64) _ _ A66 y153.length y153 := (by rw [hA66]; exact hr66); rw [← hy66, ← hA66, ← hc66] at hcut66; have HO157 := Aside0.mk (show Kd.V (Kd.int .i64) 3 _ w.heap.size _ (.slice A66 y153.length c66) y153 from Kd.V_mk (by rw [hy66, hc66]; exact Nat.sub_le_sub_right hroom66 _) hr66); have HC157 := Aside0.mk (show y153.length ≤ c66 from by rw [hy66, hc66]; exact Nat.sub_le_sub_right hroom66 _); clear hr66 hC66 hroom66 hi066 hsz66 hc66; have KY66 := Aside0.mk hy66; have KA66 := Aside0.mk hA66; clear hy66 hA66; replace q66 := eq_true q66) | ((with_reducible refine gate_dst (N := 99) rfl ?_); (try (refine gate_guard (by rfl) ?_; dsimp only)); refine Kd.R_lit (Kd.int .i64) _ 3 ?hg (N := 99) ?hd (xs := ([] : List Int)) (inner := []) (ok := fun _ => True) (okp := fun _ => True) ?hr ?hp (fun _ hk => hk) trivial (Below.refl _ _) (Nat.le_refl _) (by simp) ?_; (case hd => rfl); (case hg => rfl); (case hr => first | (go_simp; done) | (go_simp; rfl)); (case hp => exact (Reps.none _ _)); intro v159 w67 ho68 hb hg_ hnew_; clear hg_ hnew_; (first | rw [← Ny158.out] at ho68 | (simp only [Int.reduceToNat] at ho68; rw [← Ny158.out] at ho68)); have n0_ := Aside0.mk (Kd.V_elder' (by (with_reducible repeat (first | apply Kd.V_alloc | apply Kd.V_drewN | apply Kd.V_drew)); exact (Kd.V_mono (Kd.V_far (p := ⟨gb151, 1, none⟩) (Kd.V_mono HO_0.out (fun k_ hk => (⟨hk, hk.2⟩ : _ ∧ k_ ≠ gb151))) (fun _ hk => hk.2) (.slice A66 y153.length c66)) (fun _ h_ => h_.1))) (Kd.R_base ho68) hb); have n1_ := Aside0.mk (Kd.V_elder' (by (with_reducible repeat (first | apply Kd.V_alloc | apply Kd.V_drewN | apply Kd.V_drew)); exact (Kd.V_mono (Kd.V_far (p := ⟨gb151, 1, none⟩) (Kd.V_mono HL150_1.out (fun k_ hk => (⟨hk, hk.2⟩ : _ ∧ k_ ≠ gb151))) (fun _ hk => hk.2) (.slice A66 y153.length c66)) (fun _ h_ => h_.1))) (Kd.R_base ho68) hb); have n2_ := Aside0.mk (Kd.V_elder' (by (with_reducible repeat (first | apply Kd.V_alloc | apply Kd.V_drewN | apply Kd.V_drew)); exact (Kd.V_mono (Kd.V_far (p := ⟨gb151, 1, none⟩) (Kd.V_mono HL150_2.out (fun k_ hk => (⟨hk, hk.2⟩ : _ ∧ k_ ≠ gb151))) (fun _ hk => hk.2) (.slice A66 y153.length c66)) (fun _ h_ => h_.1))) (Kd.R_base ho68) hb); have n3_ := Aside0.mk (Kd.V_elder' (by (with_reducible repeat (first | apply Kd.V_alloc | apply Kd.V_drewN | apply Kd.V_drew)); exact (Kd.V_mono (Kd.V_far (p := ⟨gb151, 1, none⟩) (Kd.V_mono HO157.out (fun k_ hk => (⟨hk, hk.2⟩ : _ ∧ k_ ≠ gb151))) (fun _ hk => hk.2) (.slice A66 y153.length c66)) (fun _ h_ => h_.1))) (Kd.R_base ho68) hb); have n4_ := Aside0.mk (Kd.R_lower (Kd.R_newM (M := fun k_ => (w.heap.size ≤ k_)) ho68 (below_size (by repeat (first | (with_reducible first | exact HB.out | apply below_alloc | apply pw_below_drewN | apply below_drew1 | refine below_set ?_ GE151.out) | exact HB.out))) (fun k_ h_ => h_)) (below_size (by repeat (first | (with_reducible first | exact HB.out | apply below_alloc | apply pw_below_drewN | apply below_drew1 | refine below_set ?_ GE151.out) | exact HB.out)))); have n5_ := Aside0.mk (Kd.C_below ((Kd.V_reads' (by (with_reducible repeat (first | apply Kd.V_alloc | apply Kd.V_drewN | apply Kd.V_drew)); exact (Kd.V_mono (Kd.V_far (p := ⟨gb151, 1, none⟩) (Kd.V_mono HL150_1.out (fun k_ hk => (⟨hk, hk.2⟩ : _ ∧ k_ ≠ gb151))) (fun _ hk => hk.2) (.slice A66 y153.length c66)) (fun _ h_ => h_.1)))).2.2) hb); have n6_ := Aside0.mk (Kd.C_below ((Kd.V_reads' (by (with_reducible repeat (first | apply Kd.V_alloc | apply Kd.V_drewN | apply Kd.V_drew)); exact (Kd.V_mono (Kd.V_far (p := ⟨gb151, 1, none⟩) (Kd.V_mono HL150_2.out (fun k_ hk => (⟨hk, hk.2⟩ : _ ∧ k_ ≠ gb151))) (fun _ hk => hk.2) (.slice A66 y153.length c66)) (fun _ h_ => h_.1)))).2.2) hb); have n7_ := Aside0.mk (blk_below (g := gb151) (o := .cells #[.int .i64 ((rd_T82 l0 x8_2).f0), .slice A66 y153.length c66, .slice A150_2 ((rd_T82 l0 x8_2).f2).length c150_2] 82 (0, 0)) (by (with_reducible repeat (first | refine blk_drewN ?_ _ | refine blk_drew ?_ | refine blk_alloc ?_ _)); refine blk_put (cs := #[.int .i64 ((rd_T82 l0 x8_2).f0), .slice (some ad152) ((rd_T82 l0 x8_2).f1).length c150_1, .slice A150_2 ((rd_T82 l0 x8_2).f2).length c150_2]) ?_ 1 _ rfl; (with_reducible repeat (first | refine blk_drewN ?_ _ | refine blk_drew ?_ | refine blk_alloc ?_ _)); exact BK151.out) hb); have n8_ := Aside0.mk (below_step (by repeat (first | (with_reducible first | exact HB.out | apply below_alloc | apply pw_below_drewN | apply below_drew1 | refine below_set ?_ GE151.out) | exact HB.out)) hb); clear HO_0; clear HL150_1; clear HL150_2; clear HO157; clear HR150_1; clear HR150_2; clear BK151; clear HB; have HO_0 := n0_; have HL150_1 := n1_; have HL150_2 := n2_; have HO157 := n3_; have HO160 := n4_; have HR150_1 := n5_; have HR150_2 := n6_; have BK151 := n7_; have HB := n8_; clear n0_ n1_ n2_ n3_ n4_ n5_ n6_ n7_ n8_; clear hb ho68; have hcz69_0 : w67.cell? ⟨gb151, 0, none⟩ = some (.int .i64 ((rd_T82 l0 x8_2).f0)) := (blk_cell BK151.out 0).trans rfl; have hcz69_1 : w67.cell? ⟨gb151, 1, none⟩ = some (.slice A66 y153.length c66) := (blk_cell BK151.out 1).trans rfl; have hcz69_2 : w67.cell? ⟨gb151, 2, none⟩ = some (.slice A150_2 ((rd_T82 l0 x8_2).f2).length c150_2) := (blk_cell BK151.out 2).trans rfl; have hfz69_0 := blk_frozen BK151.out 0; have hfz69_1 := blk_frozen BK151.out 1; have hfz69_2 := blk_frozen BK151.out 2) | ((with_reducible refine gate_builtin (b := .append) (xs := #[.tmp 99, .tmp 101]) rfl ?_); (try (refine gate_guard (by rfl) ?_; dsimp only)); at_builtin; refine Kd.R_append_rows (Kd.int .i64) (w0 := w) w.heap.size rfl (.tmp 99) (.tmp 101) 34 3 (.int .i64 0) 8 rfl Tryd.underlying34 info3 rfl (by decide) (by omega) v159 y158 ((rd_T82 l0 x8_2).f2) _ _ _ (fun k_ => (w.heap.size ≤ k_)) (fun _ => False) rfl rfl ?aO ?aR (fun _ _ h => h) (fun _ h => h.elim) ?aF ?aB ?aS ?aL ?_; (case aR => repeat (first | exact (by repeat (first | (with_reducible exact HR150_2.out) | (with_reducible refine Kd.C_alloc ?_ _) | (with_reducible refine Kd.C_drewN ?_ _) | (with_reducible refine Kd.C_drew ?_) | exact HR150_2.out)) | (with_reducible refine Kd.C_alloc ?_ _) | (with_reducible refine Kd.C_drewN ?_ _) | (with_reducible refine Kd.C_drew ?_))); (case aB => exact (by repeat (first | (with_reducible first | exact HB.out | apply below_alloc | apply pw_below_drewN | apply below_drew1 | refine below_set ?_ GE151.out) | exact HB.out))); (case aF => exact (fun k_ hk => (Nat.le_trans (below_size (by repeat (first | (with_reducible first | exact HB.out | apply below_alloc | apply pw_below_drewN | apply below_drew1 | refine below_set ?_ GE151.out) | exact HB.out))) hk))); (case aO => exact (by (with_reducible repeat (first | apply Kd.R_alloc | apply Kd.R_drewN | apply Kd.R_drew)); exact Kd.R_mono HO160.out (fun _ hk => hk.1))); (case aS => exact (below_size (by repeat (first | (with_reducible first | exact HB.out | apply below_alloc | apply pw_below_drewN | apply below_drew1 | refine below_set ?_ GE151.out) | exact HB.out)))); (case aL => have := LMc59.out; omega); intro v162 w70 ho hb hg hat; rw [← Ny161.out] at ho; have n0_ := Aside0.mk (Kd.V_afterv (ok := (fun k_ => (P0_ k_ ∨ w.heap.size ≤ k_) ∧ k_ ≠ gb151)) (by (with_reducible repeat (first | apply Kd.V_alloc | apply Kd.V_drewN | apply Kd.V_drew)); exact HO_0.out) hg hat); have n1_ := Aside0.mk (Kd.V_afterv (ok := (fun k_ => (P0_ k_ ∨ w.heap.size ≤ k_) ∧ k_ ≠ gb151)) (by (with_reducible repeat (first | apply Kd.V_alloc | apply Kd.V_drewN | apply Kd.V_drew)); exact HL150_1.out) hg hat); have n2_ := Aside0.mk (Kd.V_afterv (ok := (fun k_ => (P0_ k_ ∨ w.heap.size ≤ k_) ∧ k_ ≠ gb151)) (by (with_reducible repeat (first | apply Kd.V_alloc | apply Kd.V_drewN | apply Kd.V_drew)); exact HL150_2.out) hg hat); have n3_ := Aside0.mk (blk_grown (g := gb151) (o := .cells #[.int .i64 ((rd_T82 l0 x8_2).f0), .slice A66 y153.length c66, .slice A150_2 ((rd_T82 l0 x8_2).f2).length c150_2] 82 (0, 0)) (by (with_reducible repeat (first | refine blk_drewN ?_ _ | refine blk_drew ?_ | refine blk_alloc ?_ _)); exact BK151.out) hg (Kd.R_ne HO160.out BK151.out (by decide))); have n4_ := Aside0.mk (Kd.V_afterv (ok := (fun k_ => (P0_ k_ ∨ w.heap.size ≤ k_) ∧ k_ ≠ gb151)) (by (with_reducible repeat (first | apply Kd.V_alloc | apply Kd.V_drewN | apply Kd.V_drew)); exact HO157.out) hg hat); have n5_ := Aside0.mk (hb); have n6_ := Aside0.mk (ho); clear HO_0; clear HL150_1; clear HL150_2; clear BK151; clear HO157; clear HB; clear HO160; have HO_0 := n0_; have HL150_1 := n1_; have HL150_2 := n2_; have BK151 := n3_; have HO157 := n4_; have HB := n5_; have HO163 := n6_; clear n0_ n1_ n2_ n3_ n4_ n5_ n6_; clear ho hb hg hat) | ((with_reducible refine gate_builtin (b := .append) (xs := #[.tmp 102, .tmp 104]) rfl ?_); (try (refine gate_guard (by rfl) ?_; dsimp only)); at_builtin; refine Kd.R_append (Kd.int .i64) (w0 := w) w.heap.size rfl (.tmp 102) (.tmp 104) 34 3 (.int .i64 0) 8 rfl Tryd.underlying34 info3 rfl (by decide) (by omega) v162 y161 (rd ((rd_T82 l0 x8_2).f1) 0) [.int .i64 (rd ((rd_T82 l0 x8_2).f1) 0)] (fun k_ => (w.heap.size ≤ k_)) (fun _ => False) rfl rfl ?aP (fun _ hk => hk.elim) ?aF ?aO ?aB ?aS ?aL ?_; (case aP => exact rfl); (case aB => exact (by repeat (first | (with_reducible first | exact HB.out | apply below_alloc | apply pw_below_drewN | apply below_drew1 | refine below_set ?_ GE151.out) | exact HB.out))); (case aF => exact (fun k_ hk => (Nat.le_trans (below_size (by repeat (first | (with_reducible first | exact HB.out | apply below_alloc | apply pw_below_drewN | apply below_drew1 | refine below_set ?_ GE151.out) | exact HB.out))) hk))); (case aO => exact (by (with_reducible repeat (first | apply Kd.R_alloc | apply Kd.R_drewN | apply Kd.R_drew)); exact HO163.out)); (case aS => exact (below_size (by repeat (first | (with_reducible first | exact HB.out | apply below_alloc | apply pw_below_drewN | apply below_drew1 | refine below_set ?_ GE151.out) | exact HB.out)))); (case aL => have := LMc60.out; omega); intro v165 w71 ho hb hg hat; rw [← Ny164.out] at ho; have n0_ := Aside0.mk (Kd.V_afterv (ok := (fun k_ => (P0_ k_ ∨ w.heap.size ≤ k_) ∧ k_ ≠ gb151)) (by (with_reducible repeat (first | apply Kd.V_alloc | apply Kd.V_drewN | apply Kd.V_drew)); exact HO_0.out) hg hat); have n1_ := Aside0.mk (Kd.V_afterv (ok := (fun k_ => (P0_ k_ ∨ w.heap.size ≤ k_) ∧ k_ ≠ gb151)) (by (with_reducible repeat (first | apply Kd.V_alloc | apply Kd.V_drewN | apply Kd.V_drew)); exact HL150_1.out) hg hat); have n2_ := Aside0.mk (Kd.V_afterv (ok := (fun k_ => (P0_ k_ ∨ w.heap.size ≤ k_) ∧ k_ ≠ gb151)) (by (with_reducible repeat (first | apply Kd.V_alloc | apply Kd.V_drewN | apply Kd.V_drew)); exact HL150_2.out) hg hat); have n3_ := Aside0.mk (blk_grown (g := gb151) (o := .cells #[.int .i64 ((rd_T82 l0 x8_2).f0), .slice A66 y153.length c66, .slice A150_2 ((rd_T82 l0 x8_2).f2).length c150_2] 82 (0, 0)) (by (with_reducible repeat (first | refine blk_drewN ?_ _ | refine blk_drew ?_ | refine blk_alloc ?_ _)); exact BK151.out) hg (Kd.R_ne HO163.out BK151.out (by decide))); have n4_ := Aside0.mk (Kd.V_afterv (ok := (fun k_ => (P0_ k_ ∨ w.heap.size ≤ k_) ∧ k_ ≠ gb151)) (by (with_reducible repeat (first | apply Kd.V_alloc | apply Kd.V_drewN | apply Kd.V_drew)); exact HO157.out) hg hat); have n5_ := Aside0.mk (hb); have n6_ := Aside0.mk (ho); clear HO_0; clear HL150_1; clear HL150_2; clear BK151; clear HO157; clear HB; clear HO163; have HO_0 := n0_; have HL150_1 := n1_; have HL150_2 := n2_; have BK151 := n3_; have HO157 := n4_; have HB := n5_; have HO166 := n6_; clear n0_ n1_ n2_ n3_ n4_ n5_ n6_; clear ho hb hg hat; obtain ⟨Ao72, co72, eo72⟩ := Kd.R_slice HO166.out; subst eo72; have hcz73_0 : w71.cell? ⟨gb151, 0, none⟩ = some (.int .i64 ((rd_T82 l0 x8_2).f0)) := (blk_cell BK151.out 0).trans rfl; have hcz73_1 : w71.cell? ⟨gb151, 1, none⟩ = some (.slice A66 y153.length c66) := (blk_cell BK151.out 1).trans rfl; have hcz73_2 : w71.cell? ⟨gb151, 2, none⟩ = some (.slice A150_2 ((rd_T82 l0 x8_2).f2).length c150_2) := (blk_cell BK151.out 2).trans rfl; have hfz73_0 := blk_frozen BK151.out 0; have hfz73_1 := blk_frozen BK151.out 1; have hfz73_2 := blk_frozen BK151.out 2) | ((with_reducible refine gate_store (t := 34) (p := 106) rfl ?_); refine store_event (t := 34) (p := 106) (v := ?vo_w74) (w1 := (w71.setCell ⟨gb151, 2, none⟩ (.slice Ao72 y164.length co72))) ?hg ?ho ?hn ?hr ?_; (case ho => rfl); (case hg => rfl); (case hn => rfl); (case hr => first | (go_simp; done) | (go_simp; rfl)); intro w74 hw; have n0_ : Aside0 (Kd.V k82 82 w74 w.heap.size (fun k_ => (P0_ k_ ∨ w.heap.size ≤ k_) ∧ some k_ ≠ (.slice Ao72 y164.length co72 : Value).ownBlock ∧ k_ ≠ gb151) (.slice (some ad150) l0.length c0) l0) := ⟨(by rw [hw]; exact (by (with_reducible repeat (first | apply Kd.V_alloc | apply Kd.V_drewN | apply Kd.V_drew)); exact Kd.V_mono (Kd.V_far (p := ⟨gb151, 2, none⟩) (Kd.V_mono HO_0.out (fun k_ hk => (⟨hk, hk.1.2⟩ : _ ∧ k_ ≠ gb151))) (fun _ hk => hk.2) (.slice Ao72 y164.length co72)) (fun _ hk => ⟨hk.1.1.1, ⟨hk.1.2, hk.1.1.2⟩⟩)))⟩; have n1_ : Aside0 (Kd.V (Kd.int .i64) 3 w74 w.heap.size (fun k_ => (P0_ k_ ∨ w.heap.size ≤ k_) ∧ some k_ ≠ (.slice Ao72 y164.length co72 : Value).ownBlock ∧ k_ ≠ gb151) (.slice (some ad152) ((rd_T82 l0 x8_2).f1).length c150_1) ((rd_T82 l0 x8_2).f1)) := ⟨(by rw [hw]; exact (by (with_reducible repeat (first | apply Kd.V_alloc | apply Kd.V_drewN | apply Kd.V_drew)); exact Kd.V_mono (Kd.V_far (p := ⟨gb151, 2, none⟩) (Kd.V_mono HL150_1.out (fun k_ hk => (⟨hk, hk.1.2⟩ : _ ∧ k_ ≠ gb151))) (fun _ hk => hk.2) (.slice Ao72 y164.length co72)) (fun _ hk => ⟨hk.1.1.1, ⟨hk.1.2, hk.1.1.2⟩⟩)))⟩; have n2_ : Aside0 (Kd.V (Kd.int .i64) 3 w74 w.heap.size (fun k_ => (P0_ k_ ∨ w.heap.size ≤ k_) ∧ some k_ ≠ (.slice Ao72 y164.length co72 : Value).ownBlock ∧ k_ ≠ gb151) (.slice A150_2 ((rd_T82 l0 x8_2).f2).length c150_2) ((rd_T82 l0 x8_2).f2)) := ⟨(by rw [hw]; exact (by (with_reducible repeat (first | apply Kd.V_alloc | apply Kd.V_drewN | apply Kd.V_drew)); exact Kd.V_mono (Kd.V_far (p := ⟨gb151, 2, none⟩) (Kd.V_mono HL150_2.out (fun k_ hk => (⟨hk, hk.1.2⟩ : _ ∧ k_ ≠ gb151))) (fun _ hk => hk.2) (.slice Ao72 y164.length co72)) (fun _ hk => ⟨hk.1.1.1, ⟨hk.1.2, hk.1.1.2⟩⟩)))⟩; have n3_ : Aside0 (Kd.V (Kd.int .i64) 3 w74 w.heap.size (fun k_ => (P0_ k_ ∨ w.heap.size ≤ k_) ∧ some k_ ≠ (.slice Ao72 y164.length co72 : Value).ownBlock ∧ k_ ≠ gb151) (.slice A66 y153.length c66) y153) := ⟨(by rw [hw]; exact (by (with_reducible repeat (first | apply Kd.V_alloc | apply Kd.V_drewN | apply Kd.V_drew)); exact Kd.V_mono (Kd.V_far (p := ⟨gb151, 2, none⟩) (Kd.V_mono HO157.out (fun k_ hk => (⟨hk, hk.1.2⟩ : _ ∧ k_ ≠ gb151))) (fun _ hk => hk.2) (.slice Ao72 y164.length co72)) (fun _ hk => ⟨hk.1.1.1, ⟨hk.1.2, hk.1.1.2⟩⟩)))⟩; have n4_ : Aside0 (Kd.R (Kd.int .i64) 3 w74 w.heap.size (fun k_ => (w.heap.size ≤ k_)) (.slice Ao72 y164.length co72) y164) := ⟨(by rw [hw]; exact (by (with_reducible repeat (first | apply Kd.R_alloc | apply Kd.R_drewN | apply Kd.R_drew)); exact Kd.R_mono (Kd.R_far (p := ⟨gb151, 2, none⟩) (Kd.R_types HO166.out BK151.out (by decide)) (fun _ hk => hk.2) (.slice Ao72 y164.length co72)) (fun _ hk => hk.1)))⟩; have n5_ : Aside0 (w74.heap[gb151]? = some (.cells #[.int .i64 ((rd_T82 l0 x8_2).f0), .slice A66 y153.length c66, .slice Ao72 y164.length co72] 82 (0, 0))) := ⟨(by rw [hw]; exact (by (with_reducible repeat (first | refine blk_drewN ?_ _ | refine blk_drew ?_ | refine blk_alloc ?_ _)); refine blk_put (cs := #[.int .i64 ((rd_T82 l0 x8_2).f0), .slice A66 y153.length c66, .slice A150_2 ((rd_T82 l0 x8_2).f2).length c150_2]) ?_ 2 _ rfl; (with_reducible repeat (first | refine blk_drewN ?_ _ | refine blk_drew ?_ | refine blk_alloc ?_ _)); exact BK151.out))⟩; have n6_ : Aside0 (Below w.heap.size w w74) := ⟨(by rw [hw]; exact (by repeat (first | (with_reducible first | exact HB.out | apply below_alloc | apply pw_below_drewN | apply below_drew1 | refine below_set ?_ GE151.out) | exact HB.out)))⟩; clear hw; clear HO_0; clear HL150_1; clear HL150_2; clear HO157; clear HO166; clear BK151; clear HB; have HO_0 := n0_; have HL150_1 := n1_; have HL150_2 := n2_; have HO157 := n3_; have HO166 := n4_; have BK151 := n5_; have HB := n6_; clear n0_ n1_ n2_ n3_ n4_ n5_ n6_; have hcz75_0 : w74.cell? ⟨gb151, 0, none⟩ = some (.int .i64 ((rd_T82 l0 x8_2).f0)) := (blk_cell BK151.out 0).trans rfl; have hcz75_1 : w74.cell? ⟨gb151, 1, none⟩ = some (.slice A66 y153.length c66) := (blk_cell BK151.out 1).trans rfl; have hcz75_2 : w74.cell? ⟨gb151, 2, none⟩ = some (.slice Ao72 y164.length co72) := (blk_cell BK151.out 2).trans rfl; have hfz75_0 := blk_frozen BK151.out 0; have hfz75_1 := blk_frozen BK151.out 1; have hfz75_2 := blk_frozen BK151.out 2) | ((with_reducible refine gate_callee (f := 38) rfl ?_); refine goesL_ (some 110) rfl rfl Tryd.func38 (by kernel_rfl) rfl #[.slice (some ad150) l0.length c0, .int .i64 x8_2, .agg #[.int .i64 ((rd_T82 l0 x8_2).f0), .slice A66 y153.length c66, .slice Ao72 y164.length co72]] rfl (by (try simp only [List.map_toArray, List.map_cons, List.map_nil]); first | done | rfl | (simp only [List.length_drop, List.length_take]; rfl)) ?_; (with_reducible refine (turnbuckleref03_with.calls (fun k_ => ((P0_ k_ ∨ w.heap.size ≤ k_) ∧ (some k_ ≠ (.slice Ao72 y164.length co72 : Value).ownBlock ∧ k_ ≠ gb151))) _ _ l0 x8_2 ((rd_T82 l0 x8_2).f0) (fun k_ => ((P0_ k_ ∨ w.heap.size ≤ k_) ∧ (some k_ ≠ (.slice Ao72 y164.length co72 : Value).ownBlock ∧ k_ ≠ gb151))) _ _ y153 (fun k_ => some k_ = (.slice Ao72 y164.length co72 : Value).ownBlock) _ _ y164 t167 _ ?side1 ?side2 ?side3 A61.out).mono ?_); (case side1 => exact HO_0.out); (case side2 => exact HO157.out); (case side3 => exact Kd.R_V (Kd.R_tight rfl (Kd.R_types (HO166.out) BK151.out (by decide)))); rintro e w76 ⟨v168, rfl, ho0, hb⟩; refine ⟨_, rfl, ?_⟩; have n0_ := Aside0.mk (Kd.V_elder' (by (with_reducible repeat (first | apply Kd.V_alloc | apply Kd.V_drewN | apply Kd.V_drew)); exact HO_0.out) (Kd.N_base ho0) hb); have n1_ := Aside0.mk (Kd.V_elder' (by (with_reducible repeat (first | apply Kd.V_alloc | apply Kd.V_drewN | apply Kd.V_drew)); exact HL150_1.out) (Kd.N_base ho0) hb); have n2_ := Aside0.mk (Kd.V_elder' (by (with_reducible repeat (first | apply Kd.V_alloc | apply Kd.V_drewN | apply Kd.V_drew)); exact HL150_2.out) (Kd.N_base ho0) hb); have n3_ := Aside0.mk (Kd.V_elder' (by (with_reducible repeat (first | apply Kd.V_alloc | apply Kd.V_drewN | apply Kd.V_drew)); exact HO157.out) (Kd.N_base ho0) hb); have n4_ := Aside0.mk (Kd.R_below (by (with_reducible repeat (first | apply Kd.R_alloc | apply Kd.R_drewN | apply Kd.R_drew)); exact HO166.out) hb); have n5_ := Aside0.mk (Kd.N_lower (Kd.N_mono (ok' := fun k_ => (P0_ k_ ∨ w.heap.size ≤ k_) ∧ k_ ≠ gb151) ho0 (fun k_ hk_ => ⟨Or.elim hk_ (fun hs_ => Or.elim hs_ (fun hs_ => hs_.1) (fun hs_ => Or.elim hs_ (fun hs_ => hs_.1) (fun hs_ => (.inr (((Kd.R_types (HO166.out) BK151.out (by decide)).1 k_ hs_.symm).1))))) (fun hn_ => (.inr (Nat.le_trans (below_size (by repeat (first | (with_reducible first | exact HB.out | apply below_alloc | apply pw_below_drewN | apply below_drew1 | refine below_set ?_ GE151.out) | exact HB.out))) hn_))), Or.elim hk_ (fun hs_ => Or.elim hs_ (fun hs_ => hs_.2.2) (fun hs_ => Or.elim hs_ (fun hs_ => hs_.2.2) (fun hs_ => ((Kd.R_types (HO166.out) BK151.out (by decide)).1 k_ hs_.symm).2))) (fun hn_ => (Kd.freshB (g := gb151) (o := .cells #[.int .i64 ((rd_T82 l0 x8_2).f0), .slice A66 y153.length c66, .slice Ao72 y164.length co72] 82 (0, 0)) (by (with_reducible repeat (first | refine blk_drewN ?_ _ | refine blk_drew ?_ | refine blk_alloc ?_ _)); exact BK151.out) k_ hn_))⟩)) (below_size (by repeat (first | (with_reducible first | exact HB.out | apply below_alloc | apply pw_below_drewN | apply below_drew1 | refine below_set ?_ GE151.out) | exact HB.out)))); have n6_ := Aside0.mk (blk_below (g := gb151) (o := .cells #[.int .i64 ((rd_T82 l0 x8_2).f0), .slice A66 y153.length c66, .slice Ao72 y164.length co72] 82 (0, 0)) (by (with_reducible repeat (first | refine blk_drewN ?_ _ | refine blk_drew ?_ | refine blk_alloc ?_ _)); exact BK151.out) hb); have n7_ := Aside0.mk (below_step (by repeat (first | (with_reducible first | exact HB.out | apply below_alloc | apply pw_below_drewN | apply below_drew1 | refine below_set ?_ GE151.out) | exact HB.out)) hb); clear HO_0; clear HL150_1; clear HL150_2; clear HO157; clear HO166; clear BK151; clear HB; have HO_0 := n0_; have HL150_1 := n1_; have HL150_2 := n2_; have HO157 := n3_; have HO166 := n4_; have HO169 := n5_; have BK151 := n6_; have HB := n7_; clear n0_ n1_ n2_ n3_ n4_ n5_ n6_ n7_; (try clear hb); (try clear hb2); (try clear hk); (try clear hi); (try clear ho0)))
                            go_ret3
                            exact ⟨_, by first | rfl | (simp [errW_none, errW_some] <;> rfl) | (simp [*, errW_none, errW_some] <;> rfl), Kd.N_V (by (with_reducible repeat (first | apply Kd.N_alloc | apply Kd.N_drewN | apply Kd.N_drew)); exact Kd.N_mono HO169.out (fun _ hk => hk.1)), by repeat (first | (with_reducible first | exact HB.out | apply below_alloc | apply pw_below_drewN | apply below_drew1 | refine below_set ?_ GE151.out) | exact HB.out)⟩
                          · rw [if_neg c60] at H
                            exact absurd H (by simp)
                        · rw [if_neg c59] at H
                          exact absurd H (by simp)
                      · rw [if_neg c58] at H
                        exact absurd H (by simp)
                    · rw [if_neg c57] at H
                      exact absurd H (by simp)
                  · rw [if_neg c56] at H
                    exact absurd H (by simp)
                · rw [if_neg c55] at H
                  exact absurd H (by simp)

end Go.Proofs.YtbngmkopgoelbaaDoor.PSlabPlays
