/- The reference of layer 3: Block, Free, Used, Pages (turned from a text that the printer wrote, some reads of which fall). -/
import Derived.Test.YtbngmkopgoelbaaDoorPSlabPlaysx0
import Derived.Test.YtbngmkopgoelbaaDoorPSlabPlaysx1
namespace Go.Proofs.YtbngmkopgoelbaaDoor.PSlabPlays
open Go.RowKit Go.Proofs.YtbngmkopgoelbaaDoorW.PrintWords Go.Proofs.YtbngmkopgoelbaaDoorW.PrintLast Go.Proofs.YtbngmkopgoelbaaDoorW.PrintMore
attribute [local go_sem] max2_int min2_int max_two min_two max_three min_three max_four min_four   -- for this text's walks alone
set_option linter.unusedVariables false
set_option linter.unusedSimpArgs false

/-! ### turnbuckleref03_Block: function 26 -/
mutual
def turnbuckleref03_Block.l0 : Nat → List (S82) → Int → Int → Option (Int × Bool)
  | 0, _, _, _ => none
  | k + 1, x0, x1, x6 => if x6 < (x0.length : Int) then (turnbuckleref03_Block.l1 k x0 x1 x6 0) else (some (0, false))
def turnbuckleref03_Block.l1 : Nat → List (S82) → Int → Int → Int → Option (Int × Bool)
  | 0, _, _, _, _ => none
  | k + 1, x0, x1, x6, x7 => if 0 ≤ x6 then (if x6 < (x0.length : Int) then (if x7 < (((rd_T82 x0 x6).f2).length : Int) then (if 0 ≤ x7 then (if (rd ((rd_T82 x0 x6).f2) x7) = x1 then (some ((rd_T82 x0 x6).f0, true)) else (turnbuckleref03_Block.l1 k x0 x1 x6 (wrap64 (x7 + 1)))) else (none)) else (turnbuckleref03_Block.l0 k x0 x1 (wrap64 (x6 + 1)))) else (none)) else (none)
end
def turnbuckleref03_Block.f (k : Nat) (l0 : List (S82)) (a1 : Int) : Option (Int × Bool) := turnbuckleref03_Block.l0 k l0 a1 0
theorem turnbuckleref03_Block.mono_l : ∀ k, (∀ y0 y1 y2, LeO (turnbuckleref03_Block.l0 k y0 y1 y2) (turnbuckleref03_Block.l0 (k + 1) y0 y1 y2)) ∧ (∀ y0 y1 y2 y3, LeO (turnbuckleref03_Block.l1 k y0 y1 y2 y3) (turnbuckleref03_Block.l1 (k + 1) y0 y1 y2 y3))
  | 0 => ⟨fun _ _ _ r h => by simp [turnbuckleref03_Block.l0] at h, fun _ _ _ _ r h => by simp [turnbuckleref03_Block.l1] at h⟩
  | k + 1 => by
    obtain ⟨ih0, ih1⟩ := turnbuckleref03_Block.mono_l k
    refine ⟨?_, ?_⟩
    · intro y0 y1 y2
      unfold turnbuckleref03_Block.l0
      repeat' first
      | (with_reducible exact ih0 _ _ _)
      | (with_reducible exact ih1 _ _ _ _)
      | (with_reducible exact LeO.refl _)
      | (with_reducible exact LeO.none _)
      | (with_reducible refine LeO.ite ?_ ?_)
      | (with_reducible refine LeO.bind ?_ (fun _ => ?_))
      | exact ih0 _ _ _
      | exact ih1 _ _ _ _
      | exact LeO.none _
      | refine LeO.ite ?_ ?_
      | refine LeO.bind ?_ (fun _ => ?_)
    · intro y0 y1 y2 y3
      unfold turnbuckleref03_Block.l1
      repeat' first
      | (with_reducible exact ih0 _ _ _)
      | (with_reducible exact ih1 _ _ _ _)
      | (with_reducible exact LeO.refl _)
      | (with_reducible exact LeO.none _)
      | (with_reducible refine LeO.ite ?_ ?_)
      | (with_reducible refine LeO.bind ?_ (fun _ => ?_))
      | exact ih0 _ _ _
      | exact ih1 _ _ _ _
      | exact LeO.none _
      | refine LeO.ite ?_ ?_
      | refine LeO.bind ?_ (fun _ => ?_)
theorem turnbuckleref03_Block.mono : ∀ a0 a1 k, LeO (turnbuckleref03_Block.f k a0 a1) (turnbuckleref03_Block.f (k + 1) a0 a1) := by
  intro a0 a1 k
  obtain ⟨ih0, ih1⟩ := turnbuckleref03_Block.mono_l k
  unfold turnbuckleref03_Block.f
  repeat' first
      | (with_reducible exact ih0 _ _ _)
      | (with_reducible exact ih1 _ _ _ _)
      | (with_reducible exact LeO.refl _)
      | (with_reducible exact LeO.none _)
      | (with_reducible refine LeO.ite ?_ ?_)
      | (with_reducible refine LeO.bind ?_ (fun _ => ?_))
      | exact ih0 _ _ _
      | exact ih1 _ _ _ _
      | exact LeO.none _
      | refine LeO.ite ?_ ?_
      | refine LeO.bind ?_ (fun _ => ?_)
set_option maxHeartbeats 8000000 in
set_option maxRecDepth 100000 in
theorem turnbuckleref03_Block.calls (k : Nat) (A0 : Option Addr) (c0 : Nat) (l0 : List (S82)) (a1 : Int) (r1 : Int) (r2 : Bool) (w : World) (hr0 : Kd.C k82 w A0 l0.length l0) (hc0 : l0.length ≤ c0) (h : turnbuckleref03_Block.f k l0 a1 = some (r1, r2)) :
    Calls Tryd.prog 26 #[.slice A0 l0.length c0, .int .i64 a1] w fun e w' => e = .returned (.tuple #[.int .i64 r1, .bool r2]) ∧ Drawn0 w w' := by
  have HR0 := Aside0.mk hr0
  have HC0 := Aside0.mk hc0
  clear hr0 hc0
  have H : (turnbuckleref03_Block.l0 k l0 a1 0) = some (r1, r2) := h
  clear h
  have H' := Aside0.mk H
  clear H
  go_enter Tryd.func26, Tryd.ntmps26
  go_wp2
  go_loopg [6] k (fun kq v6 w' => ∃ (x6_1 : Int), v6 = .int .i64 x6_1 ∧ Aside0 (turnbuckleref03_Block.l0 kq l0 a1 x6_1 = some (r1, r2)) ∧ Aside0 (kq ≤ k) ∧ Drawn0 w w')
  case atStart => exact ⟨(0), (by first | rfl | (simp; done) | (simp [*]; done)), H', ⟨Nat.le_refl _⟩, by repeat (first | exact Drawn0.refl _ | apply Drawn0.step)⟩
  case round =>
    clear H'
    try clear c2
    try clear p2
    obtain ⟨x6_1, rfl, HA, HK1, ⟨m1, rfl⟩⟩ := hrel
    cases gk with
    | zero => exact absurd HA.out (by simp [turnbuckleref03_Block.l0])
    | succ k1 =>
      have H := HA.out
      clear HA
      simp only [turnbuckleref03_Block.l0] at H
      by_cases c3 : x6_1 < (l0.length : Int)
      · rw [if_pos c3] at H
        have c3b0 : decide (x6_1 < (l0.length : Int)) = true := decide_eq_true c3
        clear c3
        have H' := Aside0.mk H
        clear H
        go_wp2
        go_loopg [7] k1 (fun kq v7 w' => ∃ (x7_2 : Int), v7 = .int .i64 x7_2 ∧ Aside0 (turnbuckleref03_Block.l1 kq l0 a1 x6_1 x7_2 = some (r1, r2)) ∧ Aside0 (kq ≤ k1) ∧ Drawn0 w w')
        case atStart => exact ⟨(0), (by first | rfl | (simp; done) | (simp [*]; done)), H', ⟨Nat.le_refl _⟩, by repeat (first | exact Drawn0.refl _ | apply Drawn0.step)⟩
        case round =>
          clear H'
          try clear c2
          try clear p2
          try clear c3
          try clear c3b0
          try clear p2
          obtain ⟨x7_2, rfl, HA, HK2, ⟨m2, rfl⟩⟩ := hrel
          cases gk with
          | zero => exact absurd HA.out (by simp [turnbuckleref03_Block.l1])
          | succ k2 =>
            have H := HA.out
            clear HA
            simp only [turnbuckleref03_Block.l1] at H
            by_cases c4 : 0 ≤ x6_1
            · rw [if_pos c4] at H
              have c4b0 : decide (0 ≤ x6_1) = true := decide_eq_true c4
              clear c4
              by_cases c5 : x6_1 < (l0.length : Int)
              · rw [if_pos c5] at H
                have c5b0 : decide (x6_1 < (l0.length : Int)) = true := decide_eq_true c5
                clear c5
                by_cases c6 : x7_2 < (((rd_T82 l0 x6_1).f2).length : Int)
                · rw [if_pos c6] at H
                  have c6b0 : decide (x7_2 < (((rd_T82 l0 x6_1).f2).length : Int)) = true := decide_eq_true c6
                  clear c6
                  by_cases c7 : 0 ≤ x7_2
                  · rw [if_pos c7] at H
                    have c7b0 : decide (0 ≤ x7_2) = true := decide_eq_true c7
                    clear c7
                    by_cases c8 : (rd ((rd_T82 l0 x6_1).f2) x7_2) = a1
                    · rw [if_pos c8] at H
                      have c8b0 : ((rd ((rd_T82 l0 x6_1).f2) x7_2) == a1) = true := beq_iff_eq.mpr c8
                      have c8b1 : ((rd ((rd_T82 l0 x6_1).f2) x7_2) != a1) = false := bne_eq_false_iff_eq.mpr c8
                      clear c8
                      simp only [Option.some.injEq, Prod.mk.injEq] at H
                      obtain ⟨rfl, rfl⟩ := H
                      have p170 : 0 ≤ (x6_1 : Int) := of_decide_eq_true (by first | (with_reducible assumption) | assumption)
                      have q170 : x6_1 < (l0.length : Int) := of_decide_eq_true (by first | (with_reducible assumption) | assumption)
                      obtain ⟨ad170, A170_1, c170_1, A170_2, c170_2, e170, hx170_0, hx170_1, hx170_2, hl170_1, hi170_1, hl170_2, hi170_2⟩ := at_T82 HR0.out x6_1 p170 q170
                      cases e170
                      have HR170_1 := Aside0.mk hi170_1
                      have HC170_1 := Aside0.mk hl170_1
                      clear hi170_1 hl170_1
                      have HR170_2 := Aside0.mk hi170_2
                      have HC170_2 := Aside0.mk hl170_2
                      clear hi170_2 hl170_2
                      replace p170 := eq_true p170
                      replace q170 := eq_true q170
                      have p171 : 0 ≤ (x6_1 : Int) := of_decide_eq_true (by first | (with_reducible assumption) | assumption)
                      have q171 : x6_1 < (l0.length : Int) := of_decide_eq_true (by first | (with_reducible assumption) | assumption)
                      obtain ⟨ad171, A171_1, c171_1, A171_2, c171_2, e171, hx171_0, hx171_1, hx171_2, hl171_1, hi171_1, hl171_2, hi171_2⟩ := at_T82 HR0.out x6_1 p171 q171
                      obtain rfl : ad170 = ad171 := (by injection e171)
                      have HR171_1 := Aside0.mk hi171_1
                      have HC171_1 := Aside0.mk hl171_1
                      clear hi171_1 hl171_1
                      have HR171_2 := Aside0.mk hi171_2
                      have HC171_2 := Aside0.mk hl171_2
                      clear hi171_2 hl171_2
                      replace p171 := eq_true p171
                      replace q171 := eq_true q171
                      have ea_ := Option.some.inj (hx170_1.symm.trans hx171_1)
                      injection ea_ with ea_ en_ ec_
                      subst ea_
                      subst ec_
                      clear en_
                      have ea_ := Option.some.inj (hx170_2.symm.trans hx171_2)
                      injection ea_ with ea_ en_ ec_
                      subst ea_
                      subst ec_
                      clear en_
                      have p172 : 0 ≤ (x7_2 : Int) := of_decide_eq_true (by first | (with_reducible assumption) | assumption)
                      have q172 : x7_2 < (((rd_T82 l0 x6_1).f2).length : Int) := of_decide_eq_true (by first | (with_reducible assumption) | assumption)
                      obtain ⟨ad172, e172, hx172_0⟩ := Kd.at_int HR171_2.out x7_2 p172 q172
                      cases e172
                      replace p172 := eq_true p172
                      replace q172 := eq_true q172
                      have p173 : 0 ≤ (x6_1 : Int) := of_decide_eq_true (by first | (with_reducible assumption) | assumption)
                      have q173 : x6_1 < (l0.length : Int) := of_decide_eq_true (by first | (with_reducible assumption) | assumption)
                      obtain ⟨ad173, A173_1, c173_1, A173_2, c173_2, e173, hx173_0, hx173_1, hx173_2, hl173_1, hi173_1, hl173_2, hi173_2⟩ := at_T82 HR0.out x6_1 p173 q173
                      obtain rfl : ad170 = ad173 := (by injection e173)
                      have HR173_1 := Aside0.mk hi173_1
                      have HC173_1 := Aside0.mk hl173_1
                      clear hi173_1 hl173_1
                      have HR173_2 := Aside0.mk hi173_2
                      have HC173_2 := Aside0.mk hl173_2
                      clear hi173_2 hl173_2
                      replace p173 := eq_true p173
                      replace q173 := eq_true q173
                      have ea_ := Option.some.inj (hx170_1.symm.trans hx173_1)
                      injection ea_ with ea_ en_ ec_
                      subst ea_
                      subst ec_
                      clear en_
                      have ea_ := Option.some.inj (hx170_2.symm.trans hx173_2)
                      injection ea_ with ea_ en_ ec_
                      subst ea_
                      subst ec_
                      clear en_
                      go_wp2
                      go_ret2
                      exact ⟨by first | rfl | (simp; done) | (simp [*]; done), by repeat (first | exact Drawn0.refl _ | apply Drawn0.step)⟩
                    · rw [if_neg c8] at H
                      have c8b0 : ((rd ((rd_T82 l0 x6_1).f2) x7_2) == a1) = false := beq_eq_false_iff_ne.mpr c8
                      have c8b1 : ((rd ((rd_T82 l0 x6_1).f2) x7_2) != a1) = true := bne_iff_ne.mpr c8
                      have H' := Aside0.mk H
                      clear H
                      have p170 : 0 ≤ (x6_1 : Int) := of_decide_eq_true (by first | (with_reducible assumption) | assumption)
                      have q170 : x6_1 < (l0.length : Int) := of_decide_eq_true (by first | (with_reducible assumption) | assumption)
                      obtain ⟨ad170, A170_1, c170_1, A170_2, c170_2, e170, hx170_0, hx170_1, hx170_2, hl170_1, hi170_1, hl170_2, hi170_2⟩ := at_T82 HR0.out x6_1 p170 q170
                      cases e170
                      have HR170_1 := Aside0.mk hi170_1
                      have HC170_1 := Aside0.mk hl170_1
                      clear hi170_1 hl170_1
                      have HR170_2 := Aside0.mk hi170_2
                      have HC170_2 := Aside0.mk hl170_2
                      clear hi170_2 hl170_2
                      replace p170 := eq_true p170
                      replace q170 := eq_true q170
                      have p171 : 0 ≤ (x6_1 : Int) := of_decide_eq_true (by first | (with_reducible assumption) | assumption)
                      have q171 : x6_1 < (l0.length : Int) := of_decide_eq_true (by first | (with_reducible assumption) | assumption)
                      obtain ⟨ad171, A171_1, c171_1, A171_2, c171_2, e171, hx171_0, hx171_1, hx171_2, hl171_1, hi171_1, hl171_2, hi171_2⟩ := at_T82 HR0.out x6_1 p171 q171
                      obtain rfl : ad170 = ad171 := (by injection e171)
                      have HR171_1 := Aside0.mk hi171_1
                      have HC171_1 := Aside0.mk hl171_1
                      clear hi171_1 hl171_1
                      have HR171_2 := Aside0.mk hi171_2
                      have HC171_2 := Aside0.mk hl171_2
                      clear hi171_2 hl171_2
                      replace p171 := eq_true p171
                      replace q171 := eq_true q171
                      have ea_ := Option.some.inj (hx170_1.symm.trans hx171_1)
                      injection ea_ with ea_ en_ ec_
                      subst ea_
                      subst ec_
                      clear en_
                      have ea_ := Option.some.inj (hx170_2.symm.trans hx171_2)
                      injection ea_ with ea_ en_ ec_
                      subst ea_
                      subst ec_
                      clear en_
                      have p172 : 0 ≤ (x7_2 : Int) := of_decide_eq_true (by first | (with_reducible assumption) | assumption)
                      have q172 : x7_2 < (((rd_T82 l0 x6_1).f2).length : Int) := of_decide_eq_true (by first | (with_reducible assumption) | assumption)
                      obtain ⟨ad172, e172, hx172_0⟩ := Kd.at_int HR171_2.out x7_2 p172 q172
                      cases e172
                      replace p172 := eq_true p172
                      replace q172 := eq_true q172
                      go_wp2
                      go_roundg k2
                      case measure => have := HK1.out; have := HK2.out; omega
                      case rel => exact ⟨(wrap64 (x7_2 + 1)), (by first | rfl | (simp; done) | (simp [*]; done)), H', ⟨by have := HK1.out; have := HK2.out; omega⟩, by repeat (first | exact Drawn0.refl _ | apply Drawn0.step)⟩
                  · rw [if_neg c7] at H
                    exact absurd H (by simp)
                · rw [if_neg c6] at H
                  have c6b0 : decide (x7_2 < (((rd_T82 l0 x6_1).f2).length : Int)) = false := decide_eq_false c6
                  clear c6
                  have H' := Aside0.mk H
                  clear H
                  have p170 : 0 ≤ (x6_1 : Int) := of_decide_eq_true (by first | (with_reducible assumption) | assumption)
                  have q170 : x6_1 < (l0.length : Int) := of_decide_eq_true (by first | (with_reducible assumption) | assumption)
                  obtain ⟨ad170, A170_1, c170_1, A170_2, c170_2, e170, hx170_0, hx170_1, hx170_2, hl170_1, hi170_1, hl170_2, hi170_2⟩ := at_T82 HR0.out x6_1 p170 q170
                  cases e170
                  have HR170_1 := Aside0.mk hi170_1
                  have HC170_1 := Aside0.mk hl170_1
                  clear hi170_1 hl170_1
                  have HR170_2 := Aside0.mk hi170_2
                  have HC170_2 := Aside0.mk hl170_2
                  clear hi170_2 hl170_2
                  replace p170 := eq_true p170
                  replace q170 := eq_true q170
                  go_wp2
                  go_roundg k2
                  case measure => have := HK1.out; have := HK2.out; omega
                  case rel => exact ⟨(wrap64 (x6_1 + 1)), (by first | rfl | (simp; done) | (simp [*]; done)), H', ⟨by have := HK1.out; have := HK2.out; omega⟩, by repeat (first | exact Drawn0.refl _ | apply Drawn0.step)⟩
              · rw [if_neg c5] at H
                exact absurd H (by simp)
            · rw [if_neg c4] at H
              exact absurd H (by simp)
      · rw [if_neg c3] at H
        have c3b0 : decide (x6_1 < (l0.length : Int)) = false := decide_eq_false c3
        clear c3
        simp only [Option.some.injEq, Prod.mk.injEq] at H
        obtain ⟨rfl, rfl⟩ := H
        go_wp2
        go_ret2
        exact ⟨by first | rfl | (simp; done) | (simp [*]; done), by repeat (first | exact Drawn0.refl _ | apply Drawn0.step)⟩

/-! ### turnbuckleref03_Free: function 23 -/
def turnbuckleref03_Free.l0 : Nat → List (S82) → Int → List Int → Int → Int → List Int → List Int → Option ((List (S82)) × Int)
  | 0, _, _, _, _, _, _, _ => none
  | k + 1, x0, x1, x9, x10, x178000, x178001, x178002 => if x10 < (x178002.length : Int) then (if 0 ≤ x10 then (if (rd x178002 x10) = x1 then (turnbuckleref03_Free.l0 k x0 x1 x9 (wrap64 (x10 + 1)) x178000 x178001 x178002) else (if x9.length < 17592186044416 then (turnbuckleref03_Free.l0 k x0 x1 (x9 ++ [rd x178002 x10]) (wrap64 (x10 + 1)) x178000 x178001 x178002) else (none))) else (none)) else (if (x9.length : Int) = 0 then ((turnbuckleref03_with.f x0 (wrap64 (Int.tdiv x1 512)) 0 ([] : List Int) ([] : List Int)).bind fun t183 => (some (t183, 0))) else ((some (([x1] : List Int) : List Int)).bind fun y186 => (if y186.length + x178001.length < 17592186044416 then ((turnbuckleref03_with.f x0 (wrap64 (Int.tdiv x1 512)) x178000 (y186 ++ x178001) x9).bind fun t192 => (some (t192, 0))) else (none))))
def turnbuckleref03_Free.f (k : Nat) (l0 : List (S82)) (a1 : Int) : Option ((List (S82)) × Int) := (turnbuckleref03_Block.f k l0 a1).bind fun bt174 => (if bt174.2 = true then (if 0 ≤ (wrap64 (Int.tdiv a1 512)) then (if (wrap64 (Int.tdiv a1 512)) < (l0.length : Int) then (turnbuckleref03_Free.l0 k l0 a1 ([] : List Int) 0 ((rd_T82 l0 (wrap64 (Int.tdiv a1 512))).f0) ((rd_T82 l0 (wrap64 (Int.tdiv a1 512))).f1) ((rd_T82 l0 (wrap64 (Int.tdiv a1 512))).f2)) else (none)) else (none)) else (some (l0, 1)))
theorem turnbuckleref03_Free.mono_l : ∀ k, (∀ y0 y1 y2 y3 y4 y5 y6, LeO (turnbuckleref03_Free.l0 k y0 y1 y2 y3 y4 y5 y6) (turnbuckleref03_Free.l0 (k + 1) y0 y1 y2 y3 y4 y5 y6))
  | 0 => fun _ _ _ _ _ _ _ r h => by simp [turnbuckleref03_Free.l0] at h
  | k + 1 => by
    have ih0 := turnbuckleref03_Free.mono_l k
    · intro y0 y1 y2 y3 y4 y5 y6
      unfold turnbuckleref03_Free.l0
      repeat' first
      | (with_reducible exact ih0 _ _ _ _ _ _ _)
      | (with_reducible exact turnbuckleref03_Block.mono _ _ _)
      | (with_reducible exact LeO.refl _)
      | (with_reducible exact LeO.none _)
      | (with_reducible refine LeO.ite ?_ ?_)
      | (with_reducible refine LeO.bind ?_ (fun _ => ?_))
      | exact ih0 _ _ _ _ _ _ _
      | exact turnbuckleref03_Block.mono _ _ _
      | exact LeO.none _
      | refine LeO.ite ?_ ?_
      | refine LeO.bind ?_ (fun _ => ?_)
theorem turnbuckleref03_Free.mono : ∀ a0 a1 k, LeO (turnbuckleref03_Free.f k a0 a1) (turnbuckleref03_Free.f (k + 1) a0 a1) := by
  intro a0 a1 k
  have ih0 := turnbuckleref03_Free.mono_l k
  unfold turnbuckleref03_Free.f
  repeat' first
      | (with_reducible exact ih0 _ _ _ _ _ _ _)
      | (with_reducible exact turnbuckleref03_Block.mono _ _ _)
      | (with_reducible exact LeO.refl _)
      | (with_reducible exact LeO.none _)
      | (with_reducible refine LeO.ite ?_ ?_)
      | (with_reducible refine LeO.bind ?_ (fun _ => ?_))
      | exact ih0 _ _ _ _ _ _ _
      | exact turnbuckleref03_Block.mono _ _ _
      | exact LeO.none _
      | refine LeO.ite ?_ ?_
      | refine LeO.bind ?_ (fun _ => ?_)
set_option maxHeartbeats 8000000 in
set_option maxRecDepth 100000 in
theorem turnbuckleref03_Free.calls (k : Nat) (P0_ : Nat → Prop) (A0 : Option Addr) (c0 : Nat) (l0 : List (S82)) (a1 : Int) (r1 : List (S82)) (r2 : Int) (w : World) (hs0 : Kd.V k82 82 w w.heap.size (fun k_ => P0_ k_) (.slice A0 l0.length c0) l0) (h : turnbuckleref03_Free.f k l0 a1 = some (r1, r2)) :
    Calls Tryd.prog 23 #[.slice A0 l0.length c0, .int .i64 a1] w fun e w' => ∃ v0_ : Value, e = .returned (.tuple #[v0_, .int .i64 r2]) ∧ Kd.V k82 82 w' w.heap.size (fun k_ => (P0_ k_ ∨ w.heap.size ≤ k_)) v0_ r1 ∧ Below w.heap.size w w' := by
  have hu82 := Tryd.underlying82
  have HO0 := Aside0.mk (show Kd.V k82 82 w w.heap.size (fun k_ => (P0_ k_ ∨ w.heap.size ≤ k_)) (.slice A0 l0.length c0) l0 from Kd.V_mono hs0 (fun k_ hk => .inl hk))
  have HB := Aside0.mk (Below.refl w.heap.size w)
  have H : ((turnbuckleref03_Block.f k l0 a1).bind fun bt174 => (if bt174.2 = true then (if 0 ≤ (wrap64 (Int.tdiv a1 512)) then (if (wrap64 (Int.tdiv a1 512)) < (l0.length : Int) then (turnbuckleref03_Free.l0 k l0 a1 ([] : List Int) 0 ((rd_T82 l0 (wrap64 (Int.tdiv a1 512))).f0) ((rd_T82 l0 (wrap64 (Int.tdiv a1 512))).f1) ((rd_T82 l0 (wrap64 (Int.tdiv a1 512))).f2)) else (none)) else (none)) else (some (l0, 1)))) = some (r1, r2) := h
  clear h
  replace H := Option.bind_eq_some_iff.mp H
  obtain ⟨⟨t174, t175⟩, A30, H⟩ := H
  replace H : (if t175 = true then (if 0 ≤ (wrap64 (Int.tdiv a1 512)) then (if (wrap64 (Int.tdiv a1 512)) < (l0.length : Int) then (turnbuckleref03_Free.l0 k l0 a1 ([] : List Int) 0 ((rd_T82 l0 (wrap64 (Int.tdiv a1 512))).f0) ((rd_T82 l0 (wrap64 (Int.tdiv a1 512))).f1) ((rd_T82 l0 (wrap64 (Int.tdiv a1 512))).f2)) else (none)) else (none)) else (some (l0, 1))) = some (r1, r2) := H
  have A3 := Aside0.mk A30
  clear A30
  by_cases c4 : t175 = true
  · subst c4
    have H1 : (if 0 ≤ (wrap64 (Int.tdiv a1 512)) then (if (wrap64 (Int.tdiv a1 512)) < (l0.length : Int) then (turnbuckleref03_Free.l0 k l0 a1 ([] : List Int) 0 ((rd_T82 l0 (wrap64 (Int.tdiv a1 512))).f0) ((rd_T82 l0 (wrap64 (Int.tdiv a1 512))).f1) ((rd_T82 l0 (wrap64 (Int.tdiv a1 512))).f2)) else (none)) else (none)) = some (r1, r2) := by rw [if_pos rfl] at H; exact H
    clear H
    have H := H1
    clear H1
    obtain ⟨ji5, hji5⟩ : ∃ j_ : Int, (wrap64 (Int.tdiv a1 512)) = j_ := ⟨_, rfl⟩
    replace H : (if 0 ≤ (ji5) then (if (ji5) < (l0.length : Int) then (turnbuckleref03_Free.l0 k l0 a1 ([] : List Int) 0 ((rd_T82 l0 (ji5)).f0) ((rd_T82 l0 (ji5)).f1) ((rd_T82 l0 (ji5)).f2)) else (none)) else (none)) = some (r1, r2) := by first | (rw [hji5] at H; exact H) | (simp only [hji5] at H ⊢; exact H)
    (try rw [hji5] at A3)
    have hji5w : (IntKind.i64.wrap (Int.tdiv a1 512)) = ji5 := (i64_w _).trans hji5
    by_cases c6 : 0 ≤ (ji5)
    · rw [if_pos c6] at H
      have c6b0 : decide (0 ≤ (ji5)) = true := decide_eq_true c6
      clear c6
      by_cases c7 : (ji5) < (l0.length : Int)
      · rw [if_pos c7] at H
        have c7b0 : decide ((ji5) < (l0.length : Int)) = true := decide_eq_true c7
        clear c7
        have H' := Aside0.mk H
        clear H
        go_enter Tryd.func23, Tryd.ntmps23
        go_wp2_with (first | ((with_reducible refine gate_callee (f := 26) rfl ?_); refine goesL_ (some 14) rfl rfl Tryd.func26 (by kernel_rfl) rfl #[.slice A0 l0.length c0, .int .i64 a1] rfl (by (try simp only [List.map_toArray, List.map_cons, List.map_nil]); first | done | rfl | (simp only [List.length_drop, List.length_take]; rfl)) ?_; (with_reducible refine (turnbuckleref03_Block.calls k _ _ l0 a1 t174 true _ ?side1 ?side2 A3.out).mono ?_); (case side1 => repeat (first | exact (Kd.V_reads' HO0.out).2.2 | (with_reducible refine Kd.C_alloc ?_ _) | (with_reducible refine Kd.C_drewN ?_ _) | (with_reducible refine Kd.C_drew ?_))); (case side2 => exact (Kd.V_reads' HO0.out).2.1); rintro e w' ⟨rfl, ⟨nd, rfl⟩⟩; refine ⟨_, rfl, ?_⟩; have p176 : 0 ≤ ((ji5) : Int) := of_decide_eq_true (by first | (with_reducible assumption) | assumption); have q176 : (ji5) < (l0.length : Int) := of_decide_eq_true (by first | (with_reducible assumption) | assumption); obtain ⟨ad176, A176_1, c176_1, A176_2, c176_2, e176, hx176_0, hx176_1, hx176_2, hl176_1, hi176_1, hl176_2, hi176_2⟩ := at_T82 (Kd.V_reads' HO0.out).2.2 (ji5) p176 q176; cases e176; obtain ⟨ce176, hce176, hMe176, hcc176⟩ := Kd.V_get HO0.out z82 (ji5) p176 (by first | exact q176 | exact of_decide_eq_true (by first | (with_reducible assumption) | assumption) | (have e_ := (Kd.V_reads' HO0.out).1; omega)); obtain ⟨ua176_1, uc176_1, ua176_2, uc176_2, rfl, ul176_1, ge176_1, ul176_2, ge176_2⟩ := k82_openF hMe176; have hv176_1 := hcc176 1 _ rfl; rw [add_field _ _ 1 (by omega)] at hv176_1; replace hv176_1 := Option.some.inj (hv176_1.symm.trans hx176_1); injection hv176_1 with hva_ hvn_ hvc_; rw [hva_] at ge176_1; rw [hvc_] at ul176_1; have HL176_1 := Aside0.mk (show Kd.V (Kd.int .i64) 3 _ w.heap.size _ _ ((rd_T82 l0 (ji5)).f1) from Kd.V_mk ul176_1 ge176_1); clear hva_ hvn_ hvc_ ge176_1 ul176_1; have hv176_2 := hcc176 2 _ rfl; rw [add_field _ _ 2 (by omega)] at hv176_2; replace hv176_2 := Option.some.inj (hv176_2.symm.trans hx176_2); injection hv176_2 with hva_ hvn_ hvc_; rw [hva_] at ge176_2; rw [hvc_] at ul176_2; have HL176_2 := Aside0.mk (show Kd.V (Kd.int .i64) 3 _ w.heap.size _ _ ((rd_T82 l0 (ji5)).f2) from Kd.V_mk ul176_2 ge176_2); clear hva_ hvn_ hvc_ ge176_2 ul176_2; clear hcc176 hce176; have HR176_1 := Aside0.mk hi176_1; have HRo176_1 := Aside0.mk hi176_1; have HC176_1 := Aside0.mk hl176_1; clear hi176_1 hl176_1; have HR176_2 := Aside0.mk hi176_2; have HRo176_2 := Aside0.mk hi176_2; have HC176_2 := Aside0.mk hl176_2; clear hi176_2 hl176_2; replace p176 := eq_true p176; replace q176 := eq_true q176) | ((with_reducible refine gate_dst (N := 8) rfl ?_); refine box_event ?hg (N := 8) ?hd (cs := #[.int .i64 0, .slice none 0 0, .slice none 0 0]) (t := 82) ?hr ?_; (case hd => rfl); (case hg => rfl); (case hr => first | (go_simp; done) | (go_simp; rfl)); intro gb177 hg w8 hbox hb; have n0_ := Aside0.mk (Kd.V_below (Kd.V_elderB (by (with_reducible repeat (first | apply Kd.V_alloc | apply Kd.V_drewN | apply Kd.V_drew)); exact HO0.out) gb177 (Nat.le_of_eq hg.symm)) hb); have n1_ := Aside0.mk (Kd.V_below (Kd.V_elderB (by (with_reducible repeat (first | apply Kd.V_alloc | apply Kd.V_drewN | apply Kd.V_drew)); exact HL176_1.out) gb177 (Nat.le_of_eq hg.symm)) hb); have n2_ := Aside0.mk (Kd.V_below (Kd.V_elderB (by (with_reducible repeat (first | apply Kd.V_alloc | apply Kd.V_drewN | apply Kd.V_drew)); exact HL176_2.out) gb177 (Nat.le_of_eq hg.symm)) hb); have n3_ := Aside0.mk (Kd.C_below (by repeat (first | (with_reducible exact HR176_1.out) | (with_reducible refine Kd.C_alloc ?_ _) | (with_reducible refine Kd.C_drewN ?_ _) | (with_reducible refine Kd.C_drew ?_) | exact HR176_1.out)) hb); have n4_ := Aside0.mk (Kd.C_below (by repeat (first | (with_reducible exact HR176_2.out) | (with_reducible refine Kd.C_alloc ?_ _) | (with_reducible refine Kd.C_drewN ?_ _) | (with_reducible refine Kd.C_drew ?_) | exact HR176_2.out)) hb); have n5_ := Aside0.mk (below_step (by repeat (first | (with_reducible first | exact HB.out | apply below_alloc | apply pw_below_drewN | apply below_drew1) | exact HB.out)) hb); have n6_ := Aside0.mk (hbox); have n7_ := Aside0.mk ((by rw [hg]; exact (below_size (by repeat (first | (with_reducible first | exact HB.out | apply below_alloc | apply pw_below_drewN | apply below_drew1) | exact HB.out))) : w.heap.size ≤ gb177)); have n8_ := Aside0.mk ((by rw [hg]; exact (below_size (by repeat (first | (with_reducible first | exact HB.out | apply below_alloc | apply pw_below_drewN | apply below_drew1) | exact HB.out))) : w.heap.size ≤ gb177)); clear HO0; clear HL176_1; clear HL176_2; clear HR176_1; clear HR176_2; clear HB; have HO0 := n0_; have HL176_1 := n1_; have HL176_2 := n2_; have HR176_1 := n3_; have HR176_2 := n4_; have HB := n5_; have BK177 := n6_; have GW177 := n7_; have GE177 := n8_; clear n0_ n1_ n2_ n3_ n4_ n5_ n6_ n7_ n8_; clear hb hbox hg; have hcz9_0 : w8.cell? ⟨gb177, 0, none⟩ = some (.int .i64 0) := (blk_cell BK177.out 0).trans rfl; have hcz9_1 : w8.cell? ⟨gb177, 1, none⟩ = some (.slice none 0 0) := (blk_cell BK177.out 1).trans rfl; have hcz9_2 : w8.cell? ⟨gb177, 2, none⟩ = some (.slice none 0 0) := (blk_cell BK177.out 2).trans rfl; have hfz9_0 := blk_frozen BK177.out 0; have hfz9_1 := blk_frozen BK177.out 1; have hfz9_2 := blk_frozen BK177.out 2))
        go_loopg [9, 10] k (fun kq v9 v10 w' => ∃ (x9_1 : List Int) (x10_1 : Int), v10 = .int .i64 x10_1 ∧ Aside0 (turnbuckleref03_Free.l0 kq l0 a1 x9_1 x10_1 ((rd_T82 l0 (ji5)).f0) ((rd_T82 l0 (ji5)).f1) ((rd_T82 l0 (ji5)).f2) = some (r1, r2)) ∧ Aside0 (kq ≤ k) ∧ Aside0 (Kd.V k82 82 w' w.heap.size (fun k_ => (P0_ k_ ∨ w.heap.size ≤ k_) ∧ some k_ ≠ (v9 : Value).ownBlock ∧ k_ ≠ gb177) (.slice (some ad176) l0.length c0) l0) ∧ Aside0 (Kd.R (Kd.int .i64) 3 w' w.heap.size (fun k_ => (w.heap.size ≤ k_)) v9 x9_1) ∧ Aside0 (w'.heap[gb177]? = some (.cells #[.int .i64 ((rd_T82 l0 (ji5)).f0), (.slice A176_1 ((rd_T82 l0 (ji5)).f1).length c176_1), (.slice A176_2 ((rd_T82 l0 (ji5)).f2).length c176_2)] 82 (0, 0))) ∧ Aside0 (Below w.heap.size w w'))
        case atStart => exact ⟨(([] : List Int)), (0), (by first | rfl | (simp; done) | (simp [*]; done)), H', ⟨Nat.le_refl _⟩, ⟨by (with_reducible repeat (first | apply Kd.V_alloc | apply Kd.V_drewN | apply Kd.V_drew)); exact Kd.V_mono (Kd.V_far (p := ⟨gb177, 2, none⟩) (Kd.V_far (p := ⟨gb177, 1, none⟩) (Kd.V_far (p := ⟨gb177, 0, none⟩) (Kd.V_mono HO0.out (fun k_ hk => (⟨hk, hk.2⟩ : _ ∧ k_ ≠ gb177))) (fun _ hk => hk.2) (.int .i64 ((rd_T82 l0 (ji5)).f0))) (fun _ hk => hk.2) (.slice A176_1 ((rd_T82 l0 (ji5)).f1).length c176_1)) (fun _ hk => hk.2) (.slice A176_2 ((rd_T82 l0 (ji5)).f2).length c176_2)) (fun _ hk => ⟨hk.1.1, ⟨(by simp [Value.ownBlock]), hk.1.2⟩⟩)⟩, ⟨by first | exact Kd.R_nil _ _ _ _ _ | exact Kd.N_nil _ _ _ _ _ | exact Kd.V_nil _ _ _ _ _ | exact Kd.Q_nil _ _ _ _ _ | exact Kd.S_nil _ _ _ _ _⟩, ⟨by (with_reducible repeat (first | refine blk_drewN ?_ _ | refine blk_drew ?_ | refine blk_alloc ?_ _)); refine blk_put (cs := #[.int .i64 ((rd_T82 l0 (ji5)).f0), .slice A176_1 ((rd_T82 l0 (ji5)).f1).length c176_1, .slice none 0 0]) ?_ 2 _ rfl; (with_reducible repeat (first | refine blk_drewN ?_ _ | refine blk_drew ?_ | refine blk_alloc ?_ _)); refine blk_put (cs := #[.int .i64 ((rd_T82 l0 (ji5)).f0), .slice none 0 0, .slice none 0 0]) ?_ 1 _ rfl; (with_reducible repeat (first | refine blk_drewN ?_ _ | refine blk_drew ?_ | refine blk_alloc ?_ _)); refine blk_put (cs := #[.int .i64 0, .slice none 0 0, .slice none 0 0]) ?_ 0 _ rfl; (with_reducible repeat (first | refine blk_drewN ?_ _ | refine blk_drew ?_ | refine blk_alloc ?_ _)); exact BK177.out⟩, ⟨by repeat (first | (with_reducible first | exact HB.out | apply below_alloc | apply pw_below_drewN | apply below_drew1 | refine below_set ?_ GE177.out) | exact HB.out)⟩⟩
        case round =>
          clear H'
          try clear c1
          try clear p1
          try clear q1
          try clear hx1
          try clear c2
          try clear p2
          try clear c4
          try clear c6
          try clear c6b0
          try clear p6
          try clear c7
          try clear c7b0
          try clear hcz9_0
          try clear hcz9_1
          try clear hcz9_2
          try clear hfz9_0
          try clear hfz9_1
          try clear hfz9_2
          try clear hx176_0
          try clear hx176_1
          try clear hx176_2
          try clear p176
          try clear q176
          obtain ⟨x9_1, x10_1, rfl, HA, HK1, HO_0, HO_9, BK177, HB⟩ := hrel
          cases gk with
          | zero => exact absurd HA.out (by simp [turnbuckleref03_Free.l0])
          | succ k1 =>
            have H := HA.out
            clear HA
            simp only [turnbuckleref03_Free.l0] at H
            by_cases c10 : x10_1 < (((rd_T82 l0 (ji5)).f2).length : Int)
            · rw [if_pos c10] at H
              have c10b0 : decide (x10_1 < (((rd_T82 l0 (ji5)).f2).length : Int)) = true := decide_eq_true c10
              clear c10
              by_cases c11 : 0 ≤ x10_1
              · rw [if_pos c11] at H
                have c11b0 : decide (0 ≤ x10_1) = true := decide_eq_true c11
                clear c11
                by_cases c12 : (rd ((rd_T82 l0 (ji5)).f2) x10_1) = a1
                · rw [if_pos c12] at H
                  have c12b0 : ((rd ((rd_T82 l0 (ji5)).f2) x10_1) == a1) = true := beq_iff_eq.mpr c12
                  have c12b1 : ((rd ((rd_T82 l0 (ji5)).f2) x10_1) != a1) = false := bne_eq_false_iff_eq.mpr c12
                  clear c12
                  have H' := Aside0.mk H
                  clear H
                  have hcz13_0 : wr.cell? ⟨gb177, 0, none⟩ = some (.int .i64 ((rd_T82 l0 (ji5)).f0)) := (blk_cell BK177.out 0).trans rfl
                  have hcz13_1 : wr.cell? ⟨gb177, 1, none⟩ = some (.slice A176_1 ((rd_T82 l0 (ji5)).f1).length c176_1) := (blk_cell BK177.out 1).trans rfl
                  have hcz13_2 : wr.cell? ⟨gb177, 2, none⟩ = some (.slice A176_2 ((rd_T82 l0 (ji5)).f2).length c176_2) := (blk_cell BK177.out 2).trans rfl
                  have hfz13_0 := blk_frozen BK177.out 0
                  have hfz13_1 := blk_frozen BK177.out 1
                  have hfz13_2 := blk_frozen BK177.out 2
                  have p178 : 0 ≤ (x10_1 : Int) := of_decide_eq_true (by first | (with_reducible assumption) | assumption)
                  have q178 : x10_1 < (((rd_T82 l0 (ji5)).f2).length : Int) := of_decide_eq_true (by first | (with_reducible assumption) | assumption)
                  obtain ⟨ad178, e178, hx178_0⟩ := Kd.at_int HRo176_2.out x10_1 p178 q178
                  cases e178
                  replace hx178_0 := (HB.out.cell (World.block_lt_of_cell? w _ hx178_0)).trans hx178_0
                  replace p178 := eq_true p178
                  replace q178 := eq_true q178
                  go_wp2
                  go_roundg k1
                  case measure => have := HK1.out; omega
                  case rel => exact ⟨(x9_1), (wrap64 (x10_1 + 1)), (by first | rfl | (simp; done) | (simp [*]; done)), H', ⟨by have := HK1.out; omega⟩, ⟨by (with_reducible repeat (first | apply Kd.V_alloc | apply Kd.V_drewN | apply Kd.V_drew)); exact HO_0.out⟩, ⟨by (with_reducible repeat (first | apply Kd.R_alloc | apply Kd.R_drewN | apply Kd.R_drew)); exact HO_9.out⟩, ⟨by (with_reducible repeat (first | refine blk_drewN ?_ _ | refine blk_drew ?_ | refine blk_alloc ?_ _)); exact BK177.out⟩, ⟨by repeat (first | (with_reducible first | exact HB.out | apply below_alloc | apply pw_below_drewN | apply below_drew1 | refine below_set ?_ GE177.out) | exact HB.out)⟩⟩
                · rw [if_neg c12] at H
                  have c12b0 : ((rd ((rd_T82 l0 (ji5)).f2) x10_1) == a1) = false := beq_eq_false_iff_ne.mpr c12
                  have c12b1 : ((rd ((rd_T82 l0 (ji5)).f2) x10_1) != a1) = true := bne_iff_ne.mpr c12
                  by_cases c14 : x9_1.length < 17592186044416
                  · rw [if_pos c14] at H
                    have LMc14 := Aside0.mk c14
                    clear c14
                    obtain ⟨y180, hy180⟩ : ∃ y_ : List Int, y_ = (x9_1 ++ [rd ((rd_T82 l0 (ji5)).f2) x10_1]) := ⟨_, rfl⟩
                    replace H : (turnbuckleref03_Free.l0 k1 l0 a1 y180 (wrap64 (x10_1 + 1)) ((rd_T82 l0 (ji5)).f0) ((rd_T82 l0 (ji5)).f1) ((rd_T82 l0 (ji5)).f2)) = some (r1, r2) := by first | (rw [hy180]; with_reducible exact H) | (have H2_ := (Option.bind_some _ _).symm.trans H; rw [hy180]; with_reducible exact H2_) | (have H2_ := (Option.bind_some _ _).symm.trans H; with_reducible exact H2_) | with_reducible exact H | (rw [hy180]; exact H) | exact H
                    have Ny180 := Aside0.mk hy180
                    clear hy180
                    have H' := Aside0.mk H
                    clear H
                    have hcz15_0 : wr.cell? ⟨gb177, 0, none⟩ = some (.int .i64 ((rd_T82 l0 (ji5)).f0)) := (blk_cell BK177.out 0).trans rfl
                    have hcz15_1 : wr.cell? ⟨gb177, 1, none⟩ = some (.slice A176_1 ((rd_T82 l0 (ji5)).f1).length c176_1) := (blk_cell BK177.out 1).trans rfl
                    have hcz15_2 : wr.cell? ⟨gb177, 2, none⟩ = some (.slice A176_2 ((rd_T82 l0 (ji5)).f2).length c176_2) := (blk_cell BK177.out 2).trans rfl
                    have hfz15_0 := blk_frozen BK177.out 0
                    have hfz15_1 := blk_frozen BK177.out 1
                    have hfz15_2 := blk_frozen BK177.out 2
                    have p178 : 0 ≤ (x10_1 : Int) := of_decide_eq_true (by first | (with_reducible assumption) | assumption)
                    have q178 : x10_1 < (((rd_T82 l0 (ji5)).f2).length : Int) := of_decide_eq_true (by first | (with_reducible assumption) | assumption)
                    obtain ⟨ad178, e178, hx178_0⟩ := Kd.at_int HRo176_2.out x10_1 p178 q178
                    cases e178
                    replace hx178_0 := (HB.out.cell (World.block_lt_of_cell? w _ hx178_0)).trans hx178_0
                    replace p178 := eq_true p178
                    replace q178 := eq_true q178
                    have p179 : 0 ≤ (x10_1 : Int) := of_decide_eq_true (by first | (with_reducible assumption) | assumption)
                    have q179 : x10_1 < (((rd_T82 l0 (ji5)).f2).length : Int) := of_decide_eq_true (by first | (with_reducible assumption) | assumption)
                    obtain ⟨ad179, e179, hx179_0⟩ := Kd.at_int HRo176_2.out x10_1 p179 q179
                    obtain rfl : ad178 = ad179 := (by injection e179)
                    replace hx179_0 := (HB.out.cell (World.block_lt_of_cell? w _ hx179_0)).trans hx179_0
                    replace p179 := eq_true p179
                    replace q179 := eq_true q179
                    go_wp2_with (first | ((with_reducible refine gate_builtin (b := .append) (xs := #[.tmp 39, .tmp 45]) rfl ?_); at_builtin; refine Kd.R_append (Kd.int .i64) (w0 := w) w.heap.size rfl (.tmp 39) (.tmp 45) 34 3 (.int .i64 0) 8 rfl Tryd.underlying34 info3 rfl (by decide) (by omega) u9 x9_1 (rd ((rd_T82 l0 (ji5)).f2) x10_1) [.int .i64 (rd ((rd_T82 l0 (ji5)).f2) x10_1)] (fun k_ => (w.heap.size ≤ k_)) (fun _ => False) rfl rfl ?aP (fun _ hk => hk.elim) ?aF ?aO ?aB ?aS ?aL ?_; (case aP => exact rfl); (case aB => exact (by repeat (first | (with_reducible first | exact HB.out | apply below_alloc | apply pw_below_drewN | apply below_drew1 | refine below_set ?_ GE177.out) | exact HB.out))); (case aF => exact (fun k_ hk => (Nat.le_trans (below_size (by repeat (first | (with_reducible first | exact HB.out | apply below_alloc | apply pw_below_drewN | apply below_drew1 | refine below_set ?_ GE177.out) | exact HB.out))) hk))); (case aO => exact (by (with_reducible repeat (first | apply Kd.R_alloc | apply Kd.R_drewN | apply Kd.R_drew)); exact HO_9.out)); (case aS => exact (below_size (by repeat (first | (with_reducible first | exact HB.out | apply below_alloc | apply pw_below_drewN | apply below_drew1 | refine below_set ?_ GE177.out) | exact HB.out)))); (case aL => have := LMc14.out; omega); intro v181 w16 ho hb hg hat; rw [← Ny180.out] at ho; have n0_ := Aside0.mk (Kd.V_afterv (ok := (fun k_ => (P0_ k_ ∨ w.heap.size ≤ k_) ∧ k_ ≠ gb177)) (by (with_reducible repeat (first | apply Kd.V_alloc | apply Kd.V_drewN | apply Kd.V_drew)); exact Kd.V_mono HO_0.out (fun _ hk => ⟨⟨hk.1, hk.2.2⟩, hk.2.1⟩)) hg hat); have n1_ := Aside0.mk (blk_grown (g := gb177) (o := .cells #[.int .i64 ((rd_T82 l0 (ji5)).f0), .slice A176_1 ((rd_T82 l0 (ji5)).f1).length c176_1, .slice (some ad178) ((rd_T82 l0 (ji5)).f2).length c176_2] 82 (0, 0)) (by (with_reducible repeat (first | refine blk_drewN ?_ _ | refine blk_drew ?_ | refine blk_alloc ?_ _)); exact BK177.out) hg (Kd.R_ne HO_9.out BK177.out (by decide))); have n2_ := Aside0.mk (hb); have n3_ := Aside0.mk (ho); clear HO_0; clear BK177; clear HB; clear HO_9; have HO_0 := n0_; have BK177 := n1_; have HB := n2_; have HO182 := n3_; clear n0_ n1_ n2_ n3_; clear ho hb hg hat))
                    go_roundg k1
                    case measure => have := HK1.out; omega
                    case rel => exact ⟨(y180), (wrap64 (x10_1 + 1)), (by first | rfl | (simp; done) | (simp [*]; done)), H', ⟨by have := HK1.out; omega⟩, ⟨by (with_reducible repeat (first | apply Kd.V_alloc | apply Kd.V_drewN | apply Kd.V_drew)); exact Kd.V_mono HO_0.out (fun _ hk => ⟨hk.1.1, ⟨hk.2, hk.1.2⟩⟩)⟩, ⟨by (with_reducible repeat (first | apply Kd.R_alloc | apply Kd.R_drewN | apply Kd.R_drew)); exact HO182.out⟩, ⟨by (with_reducible repeat (first | refine blk_drewN ?_ _ | refine blk_drew ?_ | refine blk_alloc ?_ _)); exact BK177.out⟩, ⟨by repeat (first | (with_reducible first | exact HB.out | apply below_alloc | apply pw_below_drewN | apply below_drew1 | refine below_set ?_ GE177.out) | exact HB.out)⟩⟩
                  · rw [if_neg c14] at H
                    exact absurd H (by simp)
              · rw [if_neg c11] at H
                exact absurd H (by simp)
            · rw [if_neg c10] at H
              have c10b0 : decide (x10_1 < (((rd_T82 l0 (ji5)).f2).length : Int)) = false := decide_eq_false c10
              clear c10
              by_cases c17 : (x9_1.length : Int) = 0
              · rw [if_pos c17] at H
                have c17b0 : ((x9_1.length : Int) == 0) = true := beq_iff_eq.mpr c17
                have c17b1 : ((x9_1.length : Int) != 0) = false := bne_eq_false_iff_eq.mpr c17
                clear c17
                replace H := Option.bind_eq_some_iff.mp H
                obtain ⟨t183, A180, H⟩ := H
                replace H : (some (t183, 0)) = some (r1, r2) := H
                have A18 := Aside0.mk A180
                clear A180
                simp only [Option.some.injEq, Prod.mk.injEq] at H
                obtain ⟨rfl, rfl⟩ := H
                have hcz19_0 : wr.cell? ⟨gb177, 0, none⟩ = some (.int .i64 ((rd_T82 l0 (ji5)).f0)) := (blk_cell BK177.out 0).trans rfl
                have hcz19_1 : wr.cell? ⟨gb177, 1, none⟩ = some (.slice A176_1 ((rd_T82 l0 (ji5)).f1).length c176_1) := (blk_cell BK177.out 1).trans rfl
                have hcz19_2 : wr.cell? ⟨gb177, 2, none⟩ = some (.slice A176_2 ((rd_T82 l0 (ji5)).f2).length c176_2) := (blk_cell BK177.out 2).trans rfl
                have hfz19_0 := blk_frozen BK177.out 0
                have hfz19_1 := blk_frozen BK177.out 1
                have hfz19_2 := blk_frozen BK177.out 2
                obtain ⟨Ao20, co20, eo20⟩ := Kd.R_slice HO_9.out
                subst eo20
                go_wp2_with (first | ((with_reducible refine gate_callee (f := 38) rfl ?_); refine goesL_ (some 54) rfl rfl Tryd.func38 (by kernel_rfl) rfl #[.slice (some ad176) l0.length c0, .int .i64 (ji5), .agg #[.int .i64 0, .slice none 0 0, .slice none 0 0]] rfl (by (try simp only [List.map_toArray, List.map_cons, List.map_nil]); first | done | rfl | (simp only [List.length_drop, List.length_take]; rfl)) ?_; (refine (turnbuckleref03_with.calls (fun k_ => ((P0_ k_ ∨ w.heap.size ≤ k_) ∧ (some k_ ≠ (.slice Ao20 x9_1.length co20 : Value).ownBlock ∧ k_ ≠ gb177))) _ _ l0 (ji5) 0 (fun k_ => False) _ _ ([] : List Int) (fun k_ => False) _ _ ([] : List Int) t183 _ ?side1 ?side2 ?side3 (by have h_ := A18.out; rw [hji5] at h_; exact h_)).mono ?_); (case side1 => exact HO_0.out); (case side2 => exact Kd.V_nil _ _ _ _ _); (case side3 => exact Kd.V_nil _ _ _ _ _); rintro e w21 ⟨v184, rfl, ho0, hb⟩; refine ⟨_, rfl, ?_⟩; have n0_ := Aside0.mk (Kd.V_elder' (by (with_reducible repeat (first | apply Kd.V_alloc | apply Kd.V_drewN | apply Kd.V_drew)); exact HO_0.out) (Kd.N_base ho0) hb); have n1_ := Aside0.mk (Kd.R_below (by (with_reducible repeat (first | apply Kd.R_alloc | apply Kd.R_drewN | apply Kd.R_drew)); exact HO_9.out) hb); have n2_ := Aside0.mk (Kd.N_lower (Kd.N_mono (ok' := fun k_ => (P0_ k_ ∨ w.heap.size ≤ k_) ∧ some k_ ≠ (.slice Ao20 x9_1.length co20 : Value).ownBlock ∧ k_ ≠ gb177) ho0 (fun k_ hk_ => ⟨Or.elim hk_ (fun hs_ => Or.elim hs_ (fun hs_ => hs_.1) (fun hs_ => Or.elim hs_ (fun hs_ => (hs_).elim) (fun hs_ => (hs_).elim))) (fun hn_ => (.inr (Nat.le_trans (below_size (by repeat (first | (with_reducible first | exact HB.out | apply below_alloc | apply pw_below_drewN | apply below_drew1 | refine below_set ?_ GE177.out) | exact HB.out))) hn_))), Or.elim hk_ (fun hs_ => Or.elim hs_ (fun hs_ => hs_.2.1) (fun hs_ => Or.elim hs_ (fun hs_ => (hs_).elim) (fun hs_ => (hs_).elim))) (fun hn_ => (Kd.fresh' (Kd.R_lt (by (with_reducible repeat (first | apply Kd.R_alloc | apply Kd.R_drewN | apply Kd.R_drew)); exact HO_9.out)) k_ hn_)), Or.elim hk_ (fun hs_ => Or.elim hs_ (fun hs_ => hs_.2.2) (fun hs_ => Or.elim hs_ (fun hs_ => (hs_).elim) (fun hs_ => (hs_).elim))) (fun hn_ => (Kd.freshB (g := gb177) (o := .cells #[.int .i64 ((rd_T82 l0 (ji5)).f0), .slice A176_1 ((rd_T82 l0 (ji5)).f1).length c176_1, .slice A176_2 ((rd_T82 l0 (ji5)).f2).length c176_2] 82 (0, 0)) (by (with_reducible repeat (first | refine blk_drewN ?_ _ | refine blk_drew ?_ | refine blk_alloc ?_ _)); exact BK177.out) k_ hn_))⟩)) (below_size (by repeat (first | (with_reducible first | exact HB.out | apply below_alloc | apply pw_below_drewN | apply below_drew1 | refine below_set ?_ GE177.out) | exact HB.out)))); have n3_ := Aside0.mk (blk_below (g := gb177) (o := .cells #[.int .i64 ((rd_T82 l0 (ji5)).f0), .slice A176_1 ((rd_T82 l0 (ji5)).f1).length c176_1, .slice A176_2 ((rd_T82 l0 (ji5)).f2).length c176_2] 82 (0, 0)) (by (with_reducible repeat (first | refine blk_drewN ?_ _ | refine blk_drew ?_ | refine blk_alloc ?_ _)); exact BK177.out) hb); have n4_ := Aside0.mk (below_step (by repeat (first | (with_reducible first | exact HB.out | apply below_alloc | apply pw_below_drewN | apply below_drew1 | refine below_set ?_ GE177.out) | exact HB.out)) hb); clear HO_0; clear HO_9; clear BK177; clear HB; have HO_0 := n0_; have HO_9 := n1_; have HO185 := n2_; have BK177 := n3_; have HB := n4_; clear n0_ n1_ n2_ n3_ n4_; (try clear hb); (try clear hb2); (try clear hk); (try clear hi); (try clear ho0)))
                go_ret2
                exact ⟨_, by first | rfl | (simp [errW_none, errW_some] <;> rfl) | (simp only [← hji5]; first | rfl | (simp [errW_none, errW_some] <;> rfl)) | (simp [*, errW_none, errW_some] <;> rfl), Kd.N_V (by (with_reducible repeat (first | apply Kd.N_alloc | apply Kd.N_drewN | apply Kd.N_drew)); exact Kd.N_mono HO185.out (fun _ hk => hk.1)), by repeat (first | (with_reducible first | exact HB.out | apply below_alloc | apply pw_below_drewN | apply below_drew1 | refine below_set ?_ GE177.out) | exact HB.out)⟩
              · rw [if_neg c17] at H
                have c17b0 : ((x9_1.length : Int) == 0) = false := beq_eq_false_iff_ne.mpr c17
                have c17b1 : ((x9_1.length : Int) != 0) = true := bne_iff_ne.mpr c17
                have c17b2 : ¬ (x9_1 = []) := fun h_ => c17 (by rw [h_]; rfl)
                obtain ⟨y186, hy186⟩ : ∃ y_ : List Int, y_ = (([a1] : List Int)) := ⟨_, rfl⟩
                replace H : (if y186.length + ((rd_T82 l0 (ji5)).f1).length < 17592186044416 then ((turnbuckleref03_with.f l0 (wrap64 (Int.tdiv a1 512)) ((rd_T82 l0 (ji5)).f0) (y186 ++ ((rd_T82 l0 (ji5)).f1)) x9_1).bind fun t192 => (some (t192, 0))) else (none)) = some (r1, r2) := by first | (rw [hy186]; with_reducible exact H) | (have H2_ := (Option.bind_some _ _).symm.trans H; rw [hy186]; with_reducible exact H2_) | (have H2_ := (Option.bind_some _ _).symm.trans H; with_reducible exact H2_) | with_reducible exact H | (rw [hy186]; exact H) | exact H
                have Ny186 := Aside0.mk hy186
                clear hy186
                by_cases c22 : y186.length + ((rd_T82 l0 (ji5)).f1).length < 17592186044416
                · rw [if_pos c22] at H
                  have LMc22 := Aside0.mk c22
                  clear c22
                  obtain ⟨y189, hy189⟩ : ∃ y_ : List Int, y_ = (y186 ++ ((rd_T82 l0 (ji5)).f1)) := ⟨_, rfl⟩
                  replace H : ((turnbuckleref03_with.f l0 (wrap64 (Int.tdiv a1 512)) ((rd_T82 l0 (ji5)).f0) y189 x9_1).bind fun t192 => (some (t192, 0))) = some (r1, r2) := by first | (rw [hy189]; with_reducible exact H) | (have H2_ := (Option.bind_some _ _).symm.trans H; rw [hy189]; with_reducible exact H2_) | (have H2_ := (Option.bind_some _ _).symm.trans H; with_reducible exact H2_) | with_reducible exact H | (rw [hy189]; exact H) | exact H
                  have Ny189 := Aside0.mk hy189
                  clear hy189
                  replace H := Option.bind_eq_some_iff.mp H
                  obtain ⟨t192, A230, H⟩ := H
                  replace H : (some (t192, 0)) = some (r1, r2) := H
                  have A23 := Aside0.mk A230
                  clear A230
                  simp only [Option.some.injEq, Prod.mk.injEq] at H
                  obtain ⟨rfl, rfl⟩ := H
                  have hcz24_0 : wr.cell? ⟨gb177, 0, none⟩ = some (.int .i64 ((rd_T82 l0 (ji5)).f0)) := (blk_cell BK177.out 0).trans rfl
                  have hcz24_1 : wr.cell? ⟨gb177, 1, none⟩ = some (.slice A176_1 ((rd_T82 l0 (ji5)).f1).length c176_1) := (blk_cell BK177.out 1).trans rfl
                  have hcz24_2 : wr.cell? ⟨gb177, 2, none⟩ = some (.slice A176_2 ((rd_T82 l0 (ji5)).f2).length c176_2) := (blk_cell BK177.out 2).trans rfl
                  have hfz24_0 := blk_frozen BK177.out 0
                  have hfz24_1 := blk_frozen BK177.out 1
                  have hfz24_2 := blk_frozen BK177.out 2
                  obtain ⟨Ao25, co25, eo25⟩ := Kd.R_slice HO_9.out
                  subst eo25
                  go_wp2_with (first | ((with_reducible refine gate_dst (N := 58) rfl ?_); refine Kd.R_lit (Kd.int .i64) _ 3 ?hg (N := 58) ?hd (xs := ([a1] : List Int)) (inner := [.int .i64 a1]) (ok := fun _ => True) (okp := fun _ => True) ?hr ?hp (fun _ hk => hk) trivial (Below.refl _ _) (Nat.le_refl _) (by simp) ?_; (case hd => rfl); (case hg => rfl); (case hr => first | (go_simp; done) | (go_simp; rfl)); (case hp => exact (Reps.one (show Kd.M (Kd.int .i64) _ _ _ a1 [.int .i64 a1] from rfl) (Reps.none _ _))); intro v187 w26 ho27 hb hg_ hnew_; clear hg_ hnew_; (first | rw [← Ny186.out] at ho27 | (simp only [Int.reduceToNat] at ho27; rw [← Ny186.out] at ho27)); have n0_ := Aside0.mk (Kd.V_elder' (by (with_reducible repeat (first | apply Kd.V_alloc | apply Kd.V_drewN | apply Kd.V_drew)); exact (Kd.V_mono (Kd.V_far (p := ⟨gb177, 2, none⟩) (Kd.V_mono HO_0.out (fun k_ hk => (⟨hk, hk.2.2⟩ : _ ∧ k_ ≠ gb177))) (fun _ hk => hk.2) (.slice Ao25 x9_1.length co25)) (fun _ h_ => h_.1))) (Kd.R_base ho27) hb); have n1_ := Aside0.mk (Kd.R_elder' (by (with_reducible repeat (first | apply Kd.R_alloc | apply Kd.R_drewN | apply Kd.R_drew)); exact (Kd.R_mono (Kd.R_far (p := ⟨gb177, 2, none⟩) (Kd.R_types HO_9.out BK177.out (by decide)) (fun _ hk => hk.2) (.slice Ao25 x9_1.length co25)) (fun _ h_ => h_.1))) (Kd.R_base ho27) hb); have n2_ := Aside0.mk (Kd.R_lower (Kd.R_new' (Kd.R_newM (M := fun k_ => (w.heap.size ≤ k_)) ho27 (below_size (by repeat (first | (with_reducible first | exact HB.out | apply below_alloc | apply pw_below_drewN | apply below_drew1 | refine below_set ?_ GE177.out) | exact HB.out))) (fun k_ h_ => h_)) (Kd.R_lt (by (with_reducible repeat (first | apply Kd.R_alloc | apply Kd.R_drewN | apply Kd.R_drew)); exact (Kd.R_mono (Kd.R_far (p := ⟨gb177, 2, none⟩) (Kd.R_types HO_9.out BK177.out (by decide)) (fun _ hk => hk.2) (.slice Ao25 x9_1.length co25)) (fun _ h_ => h_.1))))) (below_size (by repeat (first | (with_reducible first | exact HB.out | apply below_alloc | apply pw_below_drewN | apply below_drew1 | refine below_set ?_ GE177.out) | exact HB.out)))); have n3_ := Aside0.mk (blk_below (g := gb177) (o := .cells #[.int .i64 ((rd_T82 l0 (ji5)).f0), .slice A176_1 ((rd_T82 l0 (ji5)).f1).length c176_1, .slice Ao25 x9_1.length co25] 82 (0, 0)) (by (with_reducible repeat (first | refine blk_drewN ?_ _ | refine blk_drew ?_ | refine blk_alloc ?_ _)); refine blk_put (cs := #[.int .i64 ((rd_T82 l0 (ji5)).f0), .slice A176_1 ((rd_T82 l0 (ji5)).f1).length c176_1, .slice A176_2 ((rd_T82 l0 (ji5)).f2).length c176_2]) ?_ 2 _ rfl; (with_reducible repeat (first | refine blk_drewN ?_ _ | refine blk_drew ?_ | refine blk_alloc ?_ _)); exact BK177.out) hb); have n4_ := Aside0.mk (below_step (by repeat (first | (with_reducible first | exact HB.out | apply below_alloc | apply pw_below_drewN | apply below_drew1 | refine below_set ?_ GE177.out) | exact HB.out)) hb); clear HO_0; clear HO_9; clear BK177; clear HB; have HO_0 := n0_; have HO_9 := n1_; have HO188 := n2_; have BK177 := n3_; have HB := n4_; clear n0_ n1_ n2_ n3_ n4_; clear hb ho27; have hcz28_0 : w26.cell? ⟨gb177, 0, none⟩ = some (.int .i64 ((rd_T82 l0 (ji5)).f0)) := (blk_cell BK177.out 0).trans rfl; have hcz28_1 : w26.cell? ⟨gb177, 1, none⟩ = some (.slice A176_1 ((rd_T82 l0 (ji5)).f1).length c176_1) := (blk_cell BK177.out 1).trans rfl; have hcz28_2 : w26.cell? ⟨gb177, 2, none⟩ = some (.slice Ao25 x9_1.length co25) := (blk_cell BK177.out 2).trans rfl; have hfz28_0 := blk_frozen BK177.out 0; have hfz28_1 := blk_frozen BK177.out 1; have hfz28_2 := blk_frozen BK177.out 2) | ((with_reducible refine gate_builtin (b := .append) (xs := #[.tmp 58, .tmp 60]) rfl ?_); at_builtin; refine Kd.R_append_rows (Kd.int .i64) (w0 := w) w.heap.size rfl (.tmp 58) (.tmp 60) 34 3 (.int .i64 0) 8 rfl Tryd.underlying34 info3 rfl (by decide) (by omega) v187 y186 ((rd_T82 l0 (ji5)).f1) _ _ _ (fun k_ => (w.heap.size ≤ k_) ∧ some k_ ≠ (.slice Ao25 x9_1.length co25 : Value).ownBlock) (fun _ => False) rfl rfl ?aO ?aR (fun _ _ h => h) (fun _ h => h.elim) ?aF ?aB ?aS ?aL ?_; (case aR => repeat (first | exact (Kd.C_below HRo176_1.out HB.out) | (with_reducible refine Kd.C_alloc ?_ _) | (with_reducible refine Kd.C_drewN ?_ _) | (with_reducible refine Kd.C_drew ?_))); (case aB => exact (by repeat (first | (with_reducible first | exact HB.out | apply below_alloc | apply pw_below_drewN | apply below_drew1 | refine below_set ?_ GE177.out) | exact HB.out))); (case aF => exact (fun k_ hk => ⟨(Nat.le_trans (below_size (by repeat (first | (with_reducible first | exact HB.out | apply below_alloc | apply pw_below_drewN | apply below_drew1 | refine below_set ?_ GE177.out) | exact HB.out))) hk), Kd.fresh' (Kd.R_lt (by (with_reducible repeat (first | apply Kd.R_alloc | apply Kd.R_drewN | apply Kd.R_drew)); exact HO_9.out)) k_ hk⟩)); (case aO => exact (by (with_reducible repeat (first | apply Kd.R_alloc | apply Kd.R_drewN | apply Kd.R_drew)); exact Kd.R_mono HO188.out (fun _ hk => ⟨hk.1.1, hk.2⟩))); (case aS => exact (below_size (by repeat (first | (with_reducible first | exact HB.out | apply below_alloc | apply pw_below_drewN | apply below_drew1 | refine below_set ?_ GE177.out) | exact HB.out)))); (case aL => have := LMc22.out; omega); intro v190 w29 ho hb hg hat; rw [← Ny189.out] at ho; have n0_ := Aside0.mk (Kd.V_afterv (ok := (fun k_ => (P0_ k_ ∨ w.heap.size ≤ k_) ∧ some k_ ≠ (.slice Ao25 x9_1.length co25 : Value).ownBlock ∧ k_ ≠ gb177)) (by (with_reducible repeat (first | apply Kd.V_alloc | apply Kd.V_drewN | apply Kd.V_drew)); exact HO_0.out) hg hat); have n1_ := Aside0.mk (Kd.R_after (ok := (fun k_ => (w.heap.size ≤ k_))) (by (with_reducible repeat (first | apply Kd.R_alloc | apply Kd.R_drewN | apply Kd.R_drew)); exact HO_9.out) hg hat); have n2_ := Aside0.mk (blk_grown (g := gb177) (o := .cells #[.int .i64 ((rd_T82 l0 (ji5)).f0), .slice A176_1 ((rd_T82 l0 (ji5)).f1).length c176_1, .slice Ao25 x9_1.length co25] 82 (0, 0)) (by (with_reducible repeat (first | refine blk_drewN ?_ _ | refine blk_drew ?_ | refine blk_alloc ?_ _)); exact BK177.out) hg (Kd.R_ne HO188.out BK177.out (by decide))); have n3_ := Aside0.mk (hb); have n4_ := Aside0.mk (ho); clear HO_0; clear HO_9; clear BK177; clear HB; clear HO188; have HO_0 := n0_; have HO_9 := n1_; have BK177 := n2_; have HB := n3_; have HO191 := n4_; clear n0_ n1_ n2_ n3_ n4_; clear ho hb hg hat; obtain ⟨Ao30, co30, eo30⟩ := Kd.R_slice HO191.out; subst eo30; have hcz31_0 : w29.cell? ⟨gb177, 0, none⟩ = some (.int .i64 ((rd_T82 l0 (ji5)).f0)) := (blk_cell BK177.out 0).trans rfl; have hcz31_1 : w29.cell? ⟨gb177, 1, none⟩ = some (.slice A176_1 ((rd_T82 l0 (ji5)).f1).length c176_1) := (blk_cell BK177.out 1).trans rfl; have hcz31_2 : w29.cell? ⟨gb177, 2, none⟩ = some (.slice Ao25 x9_1.length co25) := (blk_cell BK177.out 2).trans rfl; have hfz31_0 := blk_frozen BK177.out 0; have hfz31_1 := blk_frozen BK177.out 1; have hfz31_2 := blk_frozen BK177.out 2) | ((with_reducible refine gate_store (t := 34) (p := 62) rfl ?_); refine store_event (t := 34) (p := 62) (v := ?vo_w32) (w1 := (w29.setCell ⟨gb177, 1, none⟩ (.slice Ao30 y189.length co30))) ?hg ?ho ?hn ?hr ?_; (case ho => rfl); (case hg => rfl); (case hn => rfl); (case hr => first | (go_simp; done) | (go_simp; rfl)); intro w32 hw; have n0_ : Aside0 (Kd.V k82 82 w32 w.heap.size (fun k_ => (P0_ k_ ∨ w.heap.size ≤ k_) ∧ some k_ ≠ (.slice Ao25 x9_1.length co25 : Value).ownBlock ∧ some k_ ≠ (.slice Ao30 y189.length co30 : Value).ownBlock ∧ k_ ≠ gb177) (.slice (some ad176) l0.length c0) l0) := ⟨(by rw [hw]; exact (by (with_reducible repeat (first | apply Kd.V_alloc | apply Kd.V_drewN | apply Kd.V_drew)); exact Kd.V_mono (Kd.V_far (p := ⟨gb177, 1, none⟩) (Kd.V_mono HO_0.out (fun k_ hk => (⟨hk, hk.1.2.2⟩ : _ ∧ k_ ≠ gb177))) (fun _ hk => hk.2) (.slice Ao30 y189.length co30)) (fun _ hk => ⟨hk.1.1.1, ⟨hk.1.1.2.1, ⟨hk.1.2, hk.1.1.2.2⟩⟩⟩)))⟩; have n1_ : Aside0 (Kd.R (Kd.int .i64) 3 w32 w.heap.size (fun k_ => (w.heap.size ≤ k_) ∧ some k_ ≠ (.slice Ao30 y189.length co30 : Value).ownBlock) (.slice Ao25 x9_1.length co25) x9_1) := ⟨(by rw [hw]; exact (by (with_reducible repeat (first | apply Kd.R_alloc | apply Kd.R_drewN | apply Kd.R_drew)); exact Kd.R_mono (Kd.R_far (p := ⟨gb177, 1, none⟩) (Kd.R_types HO_9.out BK177.out (by decide)) (fun _ hk => hk.2) (.slice Ao30 y189.length co30)) (fun _ hk => ⟨hk.1.1, hk.1.2⟩)))⟩; have n2_ : Aside0 (Kd.R (Kd.int .i64) 3 w32 w.heap.size (fun k_ => (w.heap.size ≤ k_) ∧ some k_ ≠ (.slice Ao25 x9_1.length co25 : Value).ownBlock) (.slice Ao30 y189.length co30) y189) := ⟨(by rw [hw]; exact (by (with_reducible repeat (first | apply Kd.R_alloc | apply Kd.R_drewN | apply Kd.R_drew)); exact Kd.R_mono (Kd.R_far (p := ⟨gb177, 1, none⟩) (Kd.R_types HO191.out BK177.out (by decide)) (fun _ hk => hk.2) (.slice Ao30 y189.length co30)) (fun _ hk => ⟨hk.1.1, hk.1.2⟩)))⟩; have n3_ : Aside0 (w32.heap[gb177]? = some (.cells #[.int .i64 ((rd_T82 l0 (ji5)).f0), .slice Ao30 y189.length co30, .slice Ao25 x9_1.length co25] 82 (0, 0))) := ⟨(by rw [hw]; exact (by (with_reducible repeat (first | refine blk_drewN ?_ _ | refine blk_drew ?_ | refine blk_alloc ?_ _)); refine blk_put (cs := #[.int .i64 ((rd_T82 l0 (ji5)).f0), .slice A176_1 ((rd_T82 l0 (ji5)).f1).length c176_1, .slice Ao25 x9_1.length co25]) ?_ 1 _ rfl; (with_reducible repeat (first | refine blk_drewN ?_ _ | refine blk_drew ?_ | refine blk_alloc ?_ _)); exact BK177.out))⟩; have n4_ : Aside0 (Below w.heap.size w w32) := ⟨(by rw [hw]; exact (by repeat (first | (with_reducible first | exact HB.out | apply below_alloc | apply pw_below_drewN | apply below_drew1 | refine below_set ?_ GE177.out) | exact HB.out)))⟩; clear hw; clear HO_0; clear HO_9; clear HO191; clear BK177; clear HB; have HO_0 := n0_; have HO_9 := n1_; have HO191 := n2_; have BK177 := n3_; have HB := n4_; clear n0_ n1_ n2_ n3_ n4_; have hcz33_0 : w32.cell? ⟨gb177, 0, none⟩ = some (.int .i64 ((rd_T82 l0 (ji5)).f0)) := (blk_cell BK177.out 0).trans rfl; have hcz33_1 : w32.cell? ⟨gb177, 1, none⟩ = some (.slice Ao30 y189.length co30) := (blk_cell BK177.out 1).trans rfl; have hcz33_2 : w32.cell? ⟨gb177, 2, none⟩ = some (.slice Ao25 x9_1.length co25) := (blk_cell BK177.out 2).trans rfl; have hfz33_0 := blk_frozen BK177.out 0; have hfz33_1 := blk_frozen BK177.out 1; have hfz33_2 := blk_frozen BK177.out 2) | ((with_reducible refine gate_callee (f := 38) rfl ?_); refine goesL_ (some 67) rfl rfl Tryd.func38 (by kernel_rfl) rfl #[.slice (some ad176) l0.length c0, .int .i64 (ji5), .agg #[.int .i64 ((rd_T82 l0 (ji5)).f0), .slice Ao30 y189.length co30, .slice Ao25 x9_1.length co25]] rfl (by (try simp only [List.map_toArray, List.map_cons, List.map_nil]); first | done | (simp only [hji5]; rfl) | rfl | (simp only [List.length_drop, List.length_take]; rfl)) ?_; (with_reducible refine (turnbuckleref03_with.calls (fun k_ => ((P0_ k_ ∨ w.heap.size ≤ k_) ∧ (some k_ ≠ (.slice Ao25 x9_1.length co25 : Value).ownBlock ∧ (some k_ ≠ (.slice Ao30 y189.length co30 : Value).ownBlock ∧ k_ ≠ gb177)))) _ _ l0 (ji5) ((rd_T82 l0 (ji5)).f0) (fun k_ => some k_ = (.slice Ao30 y189.length co30 : Value).ownBlock) _ _ y189 (fun k_ => some k_ = (.slice Ao25 x9_1.length co25 : Value).ownBlock) _ _ x9_1 t192 _ ?side1 ?side2 ?side3 (by have h_ := A23.out; rw [hji5] at h_; exact h_)).mono ?_); (case side1 => exact HO_0.out); (case side2 => exact Kd.R_V (Kd.R_tight rfl (Kd.R_types (HO191.out) BK177.out (by decide)))); (case side3 => exact Kd.R_V (Kd.R_tight rfl (Kd.R_types (HO_9.out) BK177.out (by decide)))); rintro e w34 ⟨v193, rfl, ho0, hb⟩; refine ⟨_, rfl, ?_⟩; have n0_ := Aside0.mk (Kd.V_elder' (by (with_reducible repeat (first | apply Kd.V_alloc | apply Kd.V_drewN | apply Kd.V_drew)); exact HO_0.out) (Kd.N_base ho0) hb); have n1_ := Aside0.mk (Kd.R_below (by (with_reducible repeat (first | apply Kd.R_alloc | apply Kd.R_drewN | apply Kd.R_drew)); exact HO_9.out) hb); have n2_ := Aside0.mk (Kd.R_below (by (with_reducible repeat (first | apply Kd.R_alloc | apply Kd.R_drewN | apply Kd.R_drew)); exact HO191.out) hb); have n3_ := Aside0.mk (Kd.N_lower (Kd.N_mono (ok' := fun k_ => (P0_ k_ ∨ w.heap.size ≤ k_) ∧ k_ ≠ gb177) ho0 (fun k_ hk_ => ⟨Or.elim hk_ (fun hs_ => Or.elim hs_ (fun hs_ => hs_.1) (fun hs_ => Or.elim hs_ (fun hs_ => (.inr (((Kd.R_types (HO191.out) BK177.out (by decide)).1 k_ hs_.symm).1.1))) (fun hs_ => (.inr (((Kd.R_types (HO_9.out) BK177.out (by decide)).1 k_ hs_.symm).1.1))))) (fun hn_ => (.inr (Nat.le_trans (below_size (by repeat (first | (with_reducible first | exact HB.out | apply below_alloc | apply pw_below_drewN | apply below_drew1 | refine below_set ?_ GE177.out) | exact HB.out))) hn_))), Or.elim hk_ (fun hs_ => Or.elim hs_ (fun hs_ => hs_.2.2.2) (fun hs_ => Or.elim hs_ (fun hs_ => ((Kd.R_types (HO191.out) BK177.out (by decide)).1 k_ hs_.symm).2) (fun hs_ => ((Kd.R_types (HO_9.out) BK177.out (by decide)).1 k_ hs_.symm).2))) (fun hn_ => (Kd.freshB (g := gb177) (o := .cells #[.int .i64 ((rd_T82 l0 (ji5)).f0), .slice Ao30 y189.length co30, .slice Ao25 x9_1.length co25] 82 (0, 0)) (by (with_reducible repeat (first | refine blk_drewN ?_ _ | refine blk_drew ?_ | refine blk_alloc ?_ _)); exact BK177.out) k_ hn_))⟩)) (below_size (by repeat (first | (with_reducible first | exact HB.out | apply below_alloc | apply pw_below_drewN | apply below_drew1 | refine below_set ?_ GE177.out) | exact HB.out)))); have n4_ := Aside0.mk (blk_below (g := gb177) (o := .cells #[.int .i64 ((rd_T82 l0 (ji5)).f0), .slice Ao30 y189.length co30, .slice Ao25 x9_1.length co25] 82 (0, 0)) (by (with_reducible repeat (first | refine blk_drewN ?_ _ | refine blk_drew ?_ | refine blk_alloc ?_ _)); exact BK177.out) hb); have n5_ := Aside0.mk (below_step (by repeat (first | (with_reducible first | exact HB.out | apply below_alloc | apply pw_below_drewN | apply below_drew1 | refine below_set ?_ GE177.out) | exact HB.out)) hb); clear HO_0; clear HO_9; clear HO191; clear BK177; clear HB; have HO_0 := n0_; have HO_9 := n1_; have HO191 := n2_; have HO194 := n3_; have BK177 := n4_; have HB := n5_; clear n0_ n1_ n2_ n3_ n4_ n5_; (try clear hb); (try clear hb2); (try clear hk); (try clear hi); (try clear ho0)))
                  go_ret2
                  exact ⟨_, by first | rfl | (simp [errW_none, errW_some] <;> rfl) | (simp only [← hji5]; first | rfl | (simp [errW_none, errW_some] <;> rfl)) | (simp [*, errW_none, errW_some] <;> rfl), Kd.N_V (by (with_reducible repeat (first | apply Kd.N_alloc | apply Kd.N_drewN | apply Kd.N_drew)); exact Kd.N_mono HO194.out (fun _ hk => hk.1)), by repeat (first | (with_reducible first | exact HB.out | apply below_alloc | apply pw_below_drewN | apply below_drew1 | refine below_set ?_ GE177.out) | exact HB.out)⟩
                · rw [if_neg c22] at H
                  exact absurd H (by simp)
      · rw [if_neg c7] at H
        exact absurd H (by simp)
    · rw [if_neg c6] at H
      exact absurd H (by simp)
  · replace c4 := Bool.eq_false_iff.mpr c4
    subst c4
    have H1 : (some (l0, 1)) = some (r1, r2) := by rw [if_neg (show ¬ (false = true) by decide)] at H; exact H
    clear H
    have H := H1
    clear H1
    simp only [Option.some.injEq, Prod.mk.injEq] at H
    obtain ⟨rfl, rfl⟩ := H
    go_enter Tryd.func23, Tryd.ntmps23
    go_wp2_with (first | ((with_reducible refine gate_callee (f := 26) rfl ?_); refine goesL_ (some 14) rfl rfl Tryd.func26 (by kernel_rfl) rfl #[.slice A0 l0.length c0, .int .i64 a1] rfl (by (try simp only [List.map_toArray, List.map_cons, List.map_nil]); first | done | rfl | (simp only [List.length_drop, List.length_take]; rfl)) ?_; (with_reducible refine (turnbuckleref03_Block.calls k _ _ l0 a1 t174 false _ ?side1 ?side2 A3.out).mono ?_); (case side1 => repeat (first | exact (Kd.V_reads' HO0.out).2.2 | (with_reducible refine Kd.C_alloc ?_ _) | (with_reducible refine Kd.C_drewN ?_ _) | (with_reducible refine Kd.C_drew ?_))); (case side2 => exact (Kd.V_reads' HO0.out).2.1); rintro e w' ⟨rfl, ⟨nd, rfl⟩⟩; refine ⟨_, rfl, ?_⟩))
    go_ret2
    exact ⟨_, by first | rfl | (simp [errW_none, errW_some] <;> rfl) | (simp [*, errW_none, errW_some] <;> rfl), by (with_reducible repeat (first | apply Kd.V_alloc | apply Kd.V_drewN | apply Kd.V_drew)); exact HO0.out, by repeat (first | (with_reducible first | exact HB.out | apply below_alloc | apply pw_below_drewN | apply below_drew1) | exact HB.out)⟩

/-! ### turnbuckleref03_Used: function 24 -/
def turnbuckleref03_Used.l0 : Nat → List (S82) → Int → Int → Option (Int)
  | 0, _, _, _ => none
  | k + 1, x0, x3, x4 => if x4 < (x0.length : Int) then (if 0 ≤ x4 then (turnbuckleref03_Used.l0 k x0 (wrap64 (x3 + (wrap64 (((rd_T82 x0 x4).f0) * (((rd_T82 x0 x4).f2).length : Int))))) (wrap64 (x4 + 1))) else (none)) else (some x3)
def turnbuckleref03_Used.f (k : Nat) (l0 : List (S82)) : Option (Int) := turnbuckleref03_Used.l0 k l0 0 0
theorem turnbuckleref03_Used.mono_l : ∀ k, (∀ y0 y1 y2, LeO (turnbuckleref03_Used.l0 k y0 y1 y2) (turnbuckleref03_Used.l0 (k + 1) y0 y1 y2))
  | 0 => fun _ _ _ r h => by simp [turnbuckleref03_Used.l0] at h
  | k + 1 => by
    have ih0 := turnbuckleref03_Used.mono_l k
    · intro y0 y1 y2
      unfold turnbuckleref03_Used.l0
      repeat' first
      | (with_reducible exact ih0 _ _ _)
      | (with_reducible exact LeO.refl _)
      | (with_reducible exact LeO.none _)
      | (with_reducible refine LeO.ite ?_ ?_)
      | (with_reducible refine LeO.bind ?_ (fun _ => ?_))
      | exact ih0 _ _ _
      | exact LeO.none _
      | refine LeO.ite ?_ ?_
      | refine LeO.bind ?_ (fun _ => ?_)
theorem turnbuckleref03_Used.mono : ∀ a0 k, LeO (turnbuckleref03_Used.f k a0) (turnbuckleref03_Used.f (k + 1) a0) := by
  intro a0 k
  have ih0 := turnbuckleref03_Used.mono_l k
  unfold turnbuckleref03_Used.f
  repeat' first
      | (with_reducible exact ih0 _ _ _)
      | (with_reducible exact LeO.refl _)
      | (with_reducible exact LeO.none _)
      | (with_reducible refine LeO.ite ?_ ?_)
      | (with_reducible refine LeO.bind ?_ (fun _ => ?_))
      | exact ih0 _ _ _
      | exact LeO.none _
      | refine LeO.ite ?_ ?_
      | refine LeO.bind ?_ (fun _ => ?_)
set_option maxHeartbeats 8000000 in
set_option maxRecDepth 100000 in
theorem turnbuckleref03_Used.calls (k : Nat) (A0 : Option Addr) (c0 : Nat) (l0 : List (S82)) (r : Int) (w : World) (hr0 : Kd.C k82 w A0 l0.length l0) (hc0 : l0.length ≤ c0) (h : turnbuckleref03_Used.f k l0 = some r) :
    Calls Tryd.prog 24 #[.slice A0 l0.length c0] w fun e w' => e = .returned (.int .i64 r) ∧ Drawn0 w w' := by
  have HR0 := Aside0.mk hr0
  have HC0 := Aside0.mk hc0
  clear hr0 hc0
  have H : (turnbuckleref03_Used.l0 k l0 0 0) = some r := h
  clear h
  have H' := Aside0.mk H
  clear H
  go_enter Tryd.func24, Tryd.ntmps24
  go_wp2
  repeat (go_quiet (fail); try go_wp2)
  go_loopg [3, 4] k (fun kq v3 v4 w' => ∃ (x3_1 : Int) (x4_1 : Int), v3 = .int .i64 x3_1 ∧ v4 = .int .i64 x4_1 ∧ Aside0 (turnbuckleref03_Used.l0 kq l0 x3_1 x4_1 = some r) ∧ Aside0 (kq ≤ k) ∧ Drawn0 w w')
  case atStart => exact ⟨(0), (0), (by first | rfl | (simp; done) | (simp [*]; done)), (by first | rfl | (simp; done) | (simp [*]; done)), H', ⟨Nat.le_refl _⟩, by repeat (first | exact Drawn0.refl _ | apply Drawn0.step)⟩
  case round =>
    clear H'
    obtain ⟨x3_1, x4_1, rfl, rfl, HA, HK1, ⟨m1, rfl⟩⟩ := hrel
    cases gk with
    | zero => exact absurd HA.out (by simp [turnbuckleref03_Used.l0])
    | succ k1 =>
      have H := HA.out
      clear HA
      simp only [turnbuckleref03_Used.l0] at H
      by_cases c2 : x4_1 < (l0.length : Int)
      · rw [if_pos c2] at H
        have c2b0 : decide (x4_1 < (l0.length : Int)) = true := decide_eq_true c2
        clear c2
        by_cases c3 : 0 ≤ x4_1
        · rw [if_pos c3] at H
          have c3b0 : decide (0 ≤ x4_1) = true := decide_eq_true c3
          clear c3
          have H' := Aside0.mk H
          clear H
          have p195 : 0 ≤ (x4_1 : Int) := of_decide_eq_true (by first | (with_reducible assumption) | assumption)
          have q195 : x4_1 < (l0.length : Int) := of_decide_eq_true (by first | (with_reducible assumption) | assumption)
          obtain ⟨ad195, A195_1, c195_1, A195_2, c195_2, e195, hx195_0, hx195_1, hx195_2, hl195_1, hi195_1, hl195_2, hi195_2⟩ := at_T82 HR0.out x4_1 p195 q195
          cases e195
          have HR195_1 := Aside0.mk hi195_1
          have HC195_1 := Aside0.mk hl195_1
          clear hi195_1 hl195_1
          have HR195_2 := Aside0.mk hi195_2
          have HC195_2 := Aside0.mk hl195_2
          clear hi195_2 hl195_2
          replace p195 := eq_true p195
          replace q195 := eq_true q195
          have p196 : 0 ≤ (x4_1 : Int) := of_decide_eq_true (by first | (with_reducible assumption) | assumption)
          have q196 : x4_1 < (l0.length : Int) := of_decide_eq_true (by first | (with_reducible assumption) | assumption)
          obtain ⟨ad196, A196_1, c196_1, A196_2, c196_2, e196, hx196_0, hx196_1, hx196_2, hl196_1, hi196_1, hl196_2, hi196_2⟩ := at_T82 HR0.out x4_1 p196 q196
          obtain rfl : ad195 = ad196 := (by injection e196)
          have HR196_1 := Aside0.mk hi196_1
          have HC196_1 := Aside0.mk hl196_1
          clear hi196_1 hl196_1
          have HR196_2 := Aside0.mk hi196_2
          have HC196_2 := Aside0.mk hl196_2
          clear hi196_2 hl196_2
          replace p196 := eq_true p196
          replace q196 := eq_true q196
          have ea_ := Option.some.inj (hx195_1.symm.trans hx196_1)
          injection ea_ with ea_ en_ ec_
          subst ea_
          subst ec_
          clear en_
          have ea_ := Option.some.inj (hx195_2.symm.trans hx196_2)
          injection ea_ with ea_ en_ ec_
          subst ea_
          subst ec_
          clear en_
          go_wp2
          repeat (go_quiet (fail); try go_wp2)
          go_roundg k1
          case measure => have := HK1.out; omega
          case rel => exact ⟨(wrap64 (x3_1 + (wrap64 (((rd_T82 l0 x4_1).f0) * (((rd_T82 l0 x4_1).f2).length : Int))))), (wrap64 (x4_1 + 1)), (by first | rfl | (simp; done) | (simp [*]; done)), (by first | rfl | (simp; done) | (simp [*]; done)), H', ⟨by have := HK1.out; omega⟩, by repeat (first | exact Drawn0.refl _ | apply Drawn0.step)⟩
        · rw [if_neg c3] at H
          exact absurd H (by simp)
      · rw [if_neg c2] at H
        have c2b0 : decide (x4_1 < (l0.length : Int)) = false := decide_eq_false c2
        clear c2
        obtain rfl := Option.some.inj H
        go_wp2
        repeat (go_quiet (fail); try go_wp2)
        go_ret
        exact ⟨by first | rfl | (simp; done) | (simp [*]; done), by repeat (first | exact Drawn0.refl _ | apply Drawn0.step)⟩

/-! ### turnbuckleref03_Pages: function 25 -/
def turnbuckleref03_Pages.l0 : Nat → List (S82) → Int → Int → Option (Int)
  | 0, _, _, _ => none
  | k + 1, x0, x3, x4 => if x4 < (x0.length : Int) then (if 0 ≤ x4 then (if ((rd_T82 x0 x4).f0) > 0 then (turnbuckleref03_Pages.l0 k x0 (wrap64 (x3 + 1)) (wrap64 (x4 + 1))) else (turnbuckleref03_Pages.l0 k x0 x3 (wrap64 (x4 + 1)))) else (none)) else (some x3)
def turnbuckleref03_Pages.f (k : Nat) (l0 : List (S82)) : Option (Int) := turnbuckleref03_Pages.l0 k l0 0 0
theorem turnbuckleref03_Pages.mono_l : ∀ k, (∀ y0 y1 y2, LeO (turnbuckleref03_Pages.l0 k y0 y1 y2) (turnbuckleref03_Pages.l0 (k + 1) y0 y1 y2))
  | 0 => fun _ _ _ r h => by simp [turnbuckleref03_Pages.l0] at h
  | k + 1 => by
    have ih0 := turnbuckleref03_Pages.mono_l k
    · intro y0 y1 y2
      unfold turnbuckleref03_Pages.l0
      repeat' first
      | (with_reducible exact ih0 _ _ _)
      | (with_reducible exact LeO.refl _)
      | (with_reducible exact LeO.none _)
      | (with_reducible refine LeO.ite ?_ ?_)
      | (with_reducible refine LeO.bind ?_ (fun _ => ?_))
      | exact ih0 _ _ _
      | exact LeO.none _
      | refine LeO.ite ?_ ?_
      | refine LeO.bind ?_ (fun _ => ?_)
theorem turnbuckleref03_Pages.mono : ∀ a0 k, LeO (turnbuckleref03_Pages.f k a0) (turnbuckleref03_Pages.f (k + 1) a0) := by
  intro a0 k
  have ih0 := turnbuckleref03_Pages.mono_l k
  unfold turnbuckleref03_Pages.f
  repeat' first
      | (with_reducible exact ih0 _ _ _)
      | (with_reducible exact LeO.refl _)
      | (with_reducible exact LeO.none _)
      | (with_reducible refine LeO.ite ?_ ?_)
      | (with_reducible refine LeO.bind ?_ (fun _ => ?_))
      | exact ih0 _ _ _
      | exact LeO.none _
      | refine LeO.ite ?_ ?_
      | refine LeO.bind ?_ (fun _ => ?_)
set_option maxHeartbeats 8000000 in
set_option maxRecDepth 100000 in
theorem turnbuckleref03_Pages.calls (k : Nat) (A0 : Option Addr) (c0 : Nat) (l0 : List (S82)) (r : Int) (w : World) (hr0 : Kd.C k82 w A0 l0.length l0) (hc0 : l0.length ≤ c0) (h : turnbuckleref03_Pages.f k l0 = some r) :
    Calls Tryd.prog 25 #[.slice A0 l0.length c0] w fun e w' => e = .returned (.int .i64 r) ∧ Drawn0 w w' := by
  have HR0 := Aside0.mk hr0
  have HC0 := Aside0.mk hc0
  clear hr0 hc0
  have H : (turnbuckleref03_Pages.l0 k l0 0 0) = some r := h
  clear h
  have H' := Aside0.mk H
  clear H
  go_enter Tryd.func25, Tryd.ntmps25
  go_wp2
  go_loopg [3, 4] k (fun kq v3 v4 w' => ∃ (x3_1 : Int) (x4_1 : Int), v3 = .int .i64 x3_1 ∧ v4 = .int .i64 x4_1 ∧ Aside0 (turnbuckleref03_Pages.l0 kq l0 x3_1 x4_1 = some r) ∧ Aside0 (kq ≤ k) ∧ Drawn0 w w')
  case atStart => exact ⟨(0), (0), (by first | rfl | (simp; done) | (simp [*]; done)), (by first | rfl | (simp; done) | (simp [*]; done)), H', ⟨Nat.le_refl _⟩, by repeat (first | exact Drawn0.refl _ | apply Drawn0.step)⟩
  case round =>
    clear H'
    obtain ⟨x3_1, x4_1, rfl, rfl, HA, HK1, ⟨m1, rfl⟩⟩ := hrel
    cases gk with
    | zero => exact absurd HA.out (by simp [turnbuckleref03_Pages.l0])
    | succ k1 =>
      have H := HA.out
      clear HA
      simp only [turnbuckleref03_Pages.l0] at H
      by_cases c2 : x4_1 < (l0.length : Int)
      · rw [if_pos c2] at H
        have c2b0 : decide (x4_1 < (l0.length : Int)) = true := decide_eq_true c2
        clear c2
        by_cases c3 : 0 ≤ x4_1
        · rw [if_pos c3] at H
          have c3b0 : decide (0 ≤ x4_1) = true := decide_eq_true c3
          clear c3
          by_cases c4 : ((rd_T82 l0 x4_1).f0) > 0
          · rw [if_pos c4] at H
            have c4b0 : decide (0 < ((rd_T82 l0 x4_1).f0)) = true := decide_eq_true c4
            clear c4
            have H' := Aside0.mk H
            clear H
            have p197 : 0 ≤ (x4_1 : Int) := of_decide_eq_true (by first | (with_reducible assumption) | assumption)
            have q197 : x4_1 < (l0.length : Int) := of_decide_eq_true (by first | (with_reducible assumption) | assumption)
            obtain ⟨ad197, A197_1, c197_1, A197_2, c197_2, e197, hx197_0, hx197_1, hx197_2, hl197_1, hi197_1, hl197_2, hi197_2⟩ := at_T82 HR0.out x4_1 p197 q197
            cases e197
            have HR197_1 := Aside0.mk hi197_1
            have HC197_1 := Aside0.mk hl197_1
            clear hi197_1 hl197_1
            have HR197_2 := Aside0.mk hi197_2
            have HC197_2 := Aside0.mk hl197_2
            clear hi197_2 hl197_2
            replace p197 := eq_true p197
            replace q197 := eq_true q197
            go_wp2
            go_roundg k1
            case measure => have := HK1.out; omega
            case rel => exact ⟨(wrap64 (x3_1 + 1)), (wrap64 (x4_1 + 1)), (by first | rfl | (simp; done) | (simp [*]; done)), (by first | rfl | (simp; done) | (simp [*]; done)), H', ⟨by have := HK1.out; omega⟩, by repeat (first | exact Drawn0.refl _ | apply Drawn0.step)⟩
          · rw [if_neg c4] at H
            have c4b0 : decide (0 < ((rd_T82 l0 x4_1).f0)) = false := decide_eq_false c4
            clear c4
            have H' := Aside0.mk H
            clear H
            have p197 : 0 ≤ (x4_1 : Int) := of_decide_eq_true (by first | (with_reducible assumption) | assumption)
            have q197 : x4_1 < (l0.length : Int) := of_decide_eq_true (by first | (with_reducible assumption) | assumption)
            obtain ⟨ad197, A197_1, c197_1, A197_2, c197_2, e197, hx197_0, hx197_1, hx197_2, hl197_1, hi197_1, hl197_2, hi197_2⟩ := at_T82 HR0.out x4_1 p197 q197
            cases e197
            have HR197_1 := Aside0.mk hi197_1
            have HC197_1 := Aside0.mk hl197_1
            clear hi197_1 hl197_1
            have HR197_2 := Aside0.mk hi197_2
            have HC197_2 := Aside0.mk hl197_2
            clear hi197_2 hl197_2
            replace p197 := eq_true p197
            replace q197 := eq_true q197
            go_wp2
            go_roundg k1
            case measure => have := HK1.out; omega
            case rel => exact ⟨(x3_1), (wrap64 (x4_1 + 1)), (by first | rfl | (simp; done) | (simp [*]; done)), (by first | rfl | (simp; done) | (simp [*]; done)), H', ⟨by have := HK1.out; omega⟩, by repeat (first | exact Drawn0.refl _ | apply Drawn0.step)⟩
        · rw [if_neg c3] at H
          exact absurd H (by simp)
      · rw [if_neg c2] at H
        have c2b0 : decide (x4_1 < (l0.length : Int)) = false := decide_eq_false c2
        clear c2
        obtain rfl := Option.some.inj H
        go_wp2
        go_ret
        exact ⟨by first | rfl | (simp; done) | (simp [*]; done), by repeat (first | exact Drawn0.refl _ | apply Drawn0.step)⟩

-- NOT PRINTED: function 8 (turnbucklelaw03_SlabPlays)

end Go.Proofs.YtbngmkopgoelbaaDoor.PSlabPlays
