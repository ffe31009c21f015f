-- PRINTED BY print.sh 35421559b90ae4d0a3588c463048766b98c2df88dd9212a6774a882060cdf62d: not written by this session
import Derived.Test.YtaomlfnffnapmaaPFlowNextsx0
namespace Go.Proofs.Ytaomlfnffnapmaa.PFlowNexts
open Go.RowKit Go.Proofs.YtaomlfnffnapmaaW.PrintWords Go.Proofs.YtaomlfnffnapmaaW.PrintLast Go.Proofs.YtaomlfnffnapmaaW.PrintMore
attribute [local go_sem] max2_int min2_int max_two min_two max_three min_three max_four min_four   -- for this text's walks alone
set_option linter.unusedVariables false
set_option linter.unusedSimpArgs false

-- NOT PRINTED: function 24 (insn_row)

/-! ### insn_words: function 26 -/
mutual
def insn_words.j0 : Nat → Int → Bool → Option (List ByteArray)
  | 0, _, _ => none
  | k + 1, x3, x4 => if x4 = true then (some (([(⟨#[]⟩ : ByteArray), (⟨#[97, 100, 100]⟩ : ByteArray), (⟨#[115, 117, 98]⟩ : ByteArray), (⟨#[109, 117, 108]⟩ : ByteArray), (⟨#[100, 105, 118]⟩ : ByteArray), (⟨#[109, 111, 100]⟩ : ByteArray), (⟨#[97, 110, 100]⟩ : ByteArray), (⟨#[111, 114]⟩ : ByteArray), (⟨#[120, 111, 114]⟩ : ByteArray), (⟨#[115, 104, 108]⟩ : ByteArray), (⟨#[115, 104, 114]⟩ : ByteArray), (⟨#[115, 97, 114]⟩ : ByteArray)] : List ByteArray))) else (if x3 = 6 then (insn_words.j1 k x3 (x3 == 6)) else (insn_words.j1 k x3 (x3 == 7)))
def insn_words.j1 : Nat → Int → Bool → Option (List ByteArray)
  | 0, _, _ => none
  | k + 1, x3, x8 => if x8 = true then (some (([(⟨#[]⟩ : ByteArray), (⟨#[101, 113]⟩ : ByteArray), (⟨#[110, 101]⟩ : ByteArray), (⟨#[108, 116]⟩ : ByteArray), (⟨#[108, 101]⟩ : ByteArray), (⟨#[103, 116]⟩ : ByteArray), (⟨#[103, 101]⟩ : ByteArray), (⟨#[115, 108, 116]⟩ : ByteArray), (⟨#[115, 103, 101]⟩ : ByteArray), (⟨#[115, 101, 116]⟩ : ByteArray)] : List ByteArray))) else (if x3 = 14 then (some (([(⟨#[]⟩ : ByteArray), (⟨#[110, 101, 119]⟩ : ByteArray), (⟨#[100, 114, 111, 112]⟩ : ByteArray), (⟨#[97, 99, 113, 117, 105, 114, 101]⟩ : ByteArray), (⟨#[108, 111, 111, 107, 117, 112]⟩ : ByteArray), (⟨#[105, 110, 115, 101, 114, 116]⟩ : ByteArray), (⟨#[100, 101, 108, 101, 116, 101]⟩ : ByteArray), (⟨#[108, 111, 99, 107]⟩ : ByteArray), (⟨#[117, 110, 108, 111, 99, 107]⟩ : ByteArray), (⟨#[112, 117, 115, 104, 102, 114, 111, 110, 116]⟩ : ByteArray), (⟨#[112, 117, 115, 104, 98, 97, 99, 107]⟩ : ByteArray), (⟨#[112, 111, 112, 102, 114, 111, 110, 116]⟩ : ByteArray), (⟨#[112, 111, 112, 98, 97, 99, 107]⟩ : ByteArray), (⟨#[102, 114, 111, 110, 116]⟩ : ByteArray), (⟨#[116, 114, 101, 101, 97, 100, 100]⟩ : ByteArray), (⟨#[116, 114, 101, 101, 102, 105, 114, 115, 116]⟩ : ByteArray), (⟨#[116, 114, 101, 101, 108, 101, 102, 116]⟩ : ByteArray), (⟨#[116, 114, 101, 101, 114, 105, 103, 104, 116]⟩ : ByteArray), (⟨#[116, 114, 101, 101, 103, 111, 110, 101]⟩ : ByteArray), (⟨#[115, 119, 97, 112]⟩ : ByteArray), (⟨#[112, 101, 101, 107]⟩ : ByteArray), (⟨#[114, 99, 117, 108, 111, 99, 107]⟩ : ByteArray), (⟨#[114, 99, 117, 117, 110, 108, 111, 99, 107]⟩ : ByteArray)] : List ByteArray))) else (some ([] : List ByteArray)))
end
def insn_words.f (k : Nat) (a0 : Int) : Option (List ByteArray) := if a0 = 3 then (insn_words.j0 k a0 (a0 == 3)) else (insn_words.j0 k a0 (a0 == 4))
theorem insn_words.mono_l : ∀ k, (∀ y0 y1, LeO (insn_words.j0 k y0 y1) (insn_words.j0 (k + 1) y0 y1)) ∧ (∀ y0 y1, LeO (insn_words.j1 k y0 y1) (insn_words.j1 (k + 1) y0 y1))
  | 0 => ⟨fun _ _ r h => by simp [insn_words.j0] at h, fun _ _ r h => by simp [insn_words.j1] at h⟩
  | k + 1 => by
    obtain ⟨ih0, ih1⟩ := insn_words.mono_l k
    refine ⟨?_, ?_⟩
    · intro y0 y1
      unfold insn_words.j0
      repeat' first
      | (with_reducible exact ih0 _ _)
      | (with_reducible exact ih1 _ _)
      | (with_reducible exact LeO.refl _)
      | (with_reducible exact LeO.none _)
      | (with_reducible refine LeO.ite ?_ ?_)
      | (with_reducible refine LeO.bind ?_ (fun _ => ?_))
      | exact ih0 _ _
      | exact ih1 _ _
      | exact LeO.none _
      | refine LeO.ite ?_ ?_
      | refine LeO.bind ?_ (fun _ => ?_)
    · intro y0 y1
      unfold insn_words.j1
      repeat' first
      | (with_reducible exact ih0 _ _)
      | (with_reducible exact ih1 _ _)
      | (with_reducible exact LeO.refl _)
      | (with_reducible exact LeO.none _)
      | (with_reducible refine LeO.ite ?_ ?_)
      | (with_reducible refine LeO.bind ?_ (fun _ => ?_))
      | exact ih0 _ _
      | exact ih1 _ _
      | exact LeO.none _
      | refine LeO.ite ?_ ?_
      | refine LeO.bind ?_ (fun _ => ?_)
theorem insn_words.mono : ∀ a0 k, LeO (insn_words.f k a0) (insn_words.f (k + 1) a0) := by
  intro a0 k
  obtain ⟨ih0, ih1⟩ := insn_words.mono_l k
  unfold insn_words.f
  repeat' first
      | (with_reducible exact ih0 _ _)
      | (with_reducible exact ih1 _ _)
      | (with_reducible exact LeO.refl _)
      | (with_reducible exact LeO.none _)
      | (with_reducible refine LeO.ite ?_ ?_)
      | (with_reducible refine LeO.bind ?_ (fun _ => ?_))
      | exact ih0 _ _
      | exact ih1 _ _
      | exact LeO.none _
      | refine LeO.ite ?_ ?_
      | refine LeO.bind ?_ (fun _ => ?_)
set_option maxHeartbeats 8000000 in
set_option maxRecDepth 100000 in
theorem insn_words.calls (k : Nat) (a0 : Int) (r : List ByteArray) (w : World) (h : insn_words.f k a0 = some r) :
    Calls Try.prog 26 #[.int .u8 a0] w fun e w' => ∃ v0_ : Value, e = .returned (v0_) ∧ Kd.R Kd.string 9 w' w.heap.size (fun _ => True) v0_ r ∧ Below w.heap.size w w' := by
  have HB := Aside0.mk (Below.refl w.heap.size w)
  have H : (if a0 = 3 then (insn_words.j0 k a0 (a0 == 3)) else (insn_words.j0 k a0 (a0 == 4))) = some r := h
  clear h
  have HC2 := Aside0.mk H
  clear H
  go_enter Try.func26, Try.ntmps26
  go_upto_if 4 with (fail)
  go_cut [4] (fun v4 wc => ∃ (kq : Nat) (x4_1 : Bool), v4 = .bool x4_1 ∧ Aside0 (insn_words.j0 kq a0 x4_1 = some r) ∧ Aside0 (kq ≤ k) ∧ Aside0 (Below w.heap.size w wc))
  case first =>
    have H := HC2.out
    clear HC2
    by_cases c3 : a0 = 3
    · rw [if_pos c3] at H
      have c3b0 : (a0 == 3) = true := beq_iff_eq.mpr c3
      have c3b1 : (a0 != 3) = false := bne_eq_false_iff_eq.mpr c3
      clear c3
      (first | rw [c3b0] | (simp only [i64_w, i32_w]; rw [c3b0]) | skip)
      have H' := Aside0.mk H
      clear H
      go_wp2
      go_meet
      case rel => exact ⟨_, ((a0 == 3)), (by first | rfl | (simp; done) | (simp [*]; done)), H', ⟨by first | omega | exact Nat.le_refl _⟩, ⟨by repeat (first | (with_reducible first | exact HB.out | apply below_alloc | apply pw_below_drewN | apply below_drew1) | exact HB.out)⟩⟩
    · rw [if_neg c3] at H
      have c3b0 : (a0 == 3) = false := beq_eq_false_iff_ne.mpr c3
      have c3b1 : (a0 != 3) = true := bne_iff_ne.mpr c3
      (first | rw [c3b0] | (simp only [i64_w, i32_w]; rw [c3b0]) | skip)
      have H' := Aside0.mk H
      clear H
      go_wp2
      go_meet
      case rel => exact ⟨_, ((a0 == 4)), (by first | rfl | (simp; done) | (simp [*]; done)), H', ⟨by first | omega | exact Nat.le_refl _⟩, ⟨by repeat (first | (with_reducible first | exact HB.out | apply below_alloc | apply pw_below_drewN | apply below_drew1) | exact HB.out)⟩⟩
  case rest =>
    clear HC2
    try clear c2
    try clear p2
    try clear c3
    try clear c3b0
    try clear c3b1
    obtain ⟨kq, x4_1, rfl, HA, HJ1, HB⟩ := hcut
    cases kq with
    | zero => exact absurd HA.out (by simp [insn_words.j0])
    | succ kj1 =>
      have H := HA.out
      clear HA
      simp only [insn_words.j0] at H
      by_cases c4 : x4_1 = true
      · subst c4
        have H1 : (some (([(⟨#[]⟩ : ByteArray), (⟨#[97, 100, 100]⟩ : ByteArray), (⟨#[115, 117, 98]⟩ : ByteArray), (⟨#[109, 117, 108]⟩ : ByteArray), (⟨#[100, 105, 118]⟩ : ByteArray), (⟨#[109, 111, 100]⟩ : ByteArray), (⟨#[97, 110, 100]⟩ : ByteArray), (⟨#[111, 114]⟩ : ByteArray), (⟨#[120, 111, 114]⟩ : ByteArray), (⟨#[115, 104, 108]⟩ : ByteArray), (⟨#[115, 104, 114]⟩ : ByteArray), (⟨#[115, 97, 114]⟩ : ByteArray)] : List ByteArray))) = some r := by rw [if_pos rfl] at H; exact H
        clear H
        have H := H1
        clear H1
        obtain ⟨y102, hy102⟩ : ∃ y_ : List ByteArray, y_ = (([(⟨#[]⟩ : ByteArray), (⟨#[97, 100, 100]⟩ : ByteArray), (⟨#[115, 117, 98]⟩ : ByteArray), (⟨#[109, 117, 108]⟩ : ByteArray), (⟨#[100, 105, 118]⟩ : ByteArray), (⟨#[109, 111, 100]⟩ : ByteArray), (⟨#[97, 110, 100]⟩ : ByteArray), (⟨#[111, 114]⟩ : ByteArray), (⟨#[120, 111, 114]⟩ : ByteArray), (⟨#[115, 104, 108]⟩ : ByteArray), (⟨#[115, 104, 114]⟩ : ByteArray), (⟨#[115, 97, 114]⟩ : ByteArray)] : List ByteArray)) := ⟨_, rfl⟩
        replace H : (some y102) = some r := by first | (rw [hy102]; with_reducible exact H) | (have H2_ := (Option.bind_some _ _).symm.trans H; rw [hy102]; with_reducible exact H2_) | (have H2_ := (Option.bind_some _ _).symm.trans H; with_reducible exact H2_) | with_reducible exact H | (rw [hy102]; exact H) | exact H
        have Ny102 := Aside0.mk hy102
        clear hy102
        obtain rfl := Option.some.inj H
        go_wp2_with (first | ((with_reducible refine gate_dst (N := 7) rfl ?_); refine Kd.R_lit Kd.string _ 9 ?hg (N := 7) ?hd (xs := ([(⟨#[]⟩ : ByteArray), (⟨#[97, 100, 100]⟩ : ByteArray), (⟨#[115, 117, 98]⟩ : ByteArray), (⟨#[109, 117, 108]⟩ : ByteArray), (⟨#[100, 105, 118]⟩ : ByteArray), (⟨#[109, 111, 100]⟩ : ByteArray), (⟨#[97, 110, 100]⟩ : ByteArray), (⟨#[111, 114]⟩ : ByteArray), (⟨#[120, 111, 114]⟩ : ByteArray), (⟨#[115, 104, 108]⟩ : ByteArray), (⟨#[115, 104, 114]⟩ : ByteArray), (⟨#[115, 97, 114]⟩ : ByteArray)] : List ByteArray)) (inner := [.string (⟨#[]⟩ : ByteArray), .string (⟨#[97, 100, 100]⟩ : ByteArray), .string (⟨#[115, 117, 98]⟩ : ByteArray), .string (⟨#[109, 117, 108]⟩ : ByteArray), .string (⟨#[100, 105, 118]⟩ : ByteArray), .string (⟨#[109, 111, 100]⟩ : ByteArray), .string (⟨#[97, 110, 100]⟩ : ByteArray), .string (⟨#[111, 114]⟩ : ByteArray), .string (⟨#[120, 111, 114]⟩ : ByteArray), .string (⟨#[115, 104, 108]⟩ : ByteArray), .string (⟨#[115, 104, 114]⟩ : ByteArray), .string (⟨#[115, 97, 114]⟩ : ByteArray)]) (ok := fun _ => True) (okp := fun _ => True) ?hr ?hp (fun _ hk => hk) trivial (Below.refl _ _) (Nat.le_refl _) (by simp) ?_; (case hd => rfl); (case hg => rfl); (case hr => first | (go_simp; done) | (go_simp; rfl)); (case hp => exact (Reps.one (show Kd.M Kd.string _ _ _ (⟨#[]⟩ : ByteArray) [.string (⟨#[]⟩ : ByteArray)] from rfl) (Reps.one (show Kd.M Kd.string _ _ _ (⟨#[97, 100, 100]⟩ : ByteArray) [.string (⟨#[97, 100, 100]⟩ : ByteArray)] from rfl) (Reps.one (show Kd.M Kd.string _ _ _ (⟨#[115, 117, 98]⟩ : ByteArray) [.string (⟨#[115, 117, 98]⟩ : ByteArray)] from rfl) (Reps.one (show Kd.M Kd.string _ _ _ (⟨#[109, 117, 108]⟩ : ByteArray) [.string (⟨#[109, 117, 108]⟩ : ByteArray)] from rfl) (Reps.one (show Kd.M Kd.string _ _ _ (⟨#[100, 105, 118]⟩ : ByteArray) [.string (⟨#[100, 105, 118]⟩ : ByteArray)] from rfl) (Reps.one (show Kd.M Kd.string _ _ _ (⟨#[109, 111, 100]⟩ : ByteArray) [.string (⟨#[109, 111, 100]⟩ : ByteArray)] from rfl) (Reps.one (show Kd.M Kd.string _ _ _ (⟨#[97, 110, 100]⟩ : ByteArray) [.string (⟨#[97, 110, 100]⟩ : ByteArray)] from rfl) (Reps.one (show Kd.M Kd.string _ _ _ (⟨#[111, 114]⟩ : ByteArray) [.string (⟨#[111, 114]⟩ : ByteArray)] from rfl) (Reps.one (show Kd.M Kd.string _ _ _ (⟨#[120, 111, 114]⟩ : ByteArray) [.string (⟨#[120, 111, 114]⟩ : ByteArray)] from rfl) (Reps.one (show Kd.M Kd.string _ _ _ (⟨#[115, 104, 108]⟩ : ByteArray) [.string (⟨#[115, 104, 108]⟩ : ByteArray)] from rfl) (Reps.one (show Kd.M Kd.string _ _ _ (⟨#[115, 104, 114]⟩ : ByteArray) [.string (⟨#[115, 104, 114]⟩ : ByteArray)] from rfl) (Reps.one (show Kd.M Kd.string _ _ _ (⟨#[115, 97, 114]⟩ : ByteArray) [.string (⟨#[115, 97, 114]⟩ : ByteArray)] from rfl) (Reps.none _ _)))))))))))))); intro v103 w5 ho6 hb hg_ hnew_; clear hg_ hnew_; (first | rw [← Ny102.out] at ho6 | (simp only [Int.reduceToNat] at ho6; rw [← Ny102.out] at ho6)); have n0_ := Aside0.mk (Kd.R_lower ho6 (below_size (by repeat (first | (with_reducible first | exact HB.out | apply below_alloc | apply pw_below_drewN | apply below_drew1) | exact HB.out)))); have n1_ := Aside0.mk (below_step (by repeat (first | (with_reducible first | exact HB.out | apply below_alloc | apply pw_below_drewN | apply below_drew1) | exact HB.out)) hb); clear HB; have HO104 := n0_; have HB := n1_; clear n0_ n1_; clear hb ho6))
        go_ret
        exact ⟨_, by first | rfl | (simp [errW_none, errW_some] <;> rfl) | (simp [*, errW_none, errW_some] <;> rfl), by (with_reducible repeat (first | apply Kd.R_alloc | apply Kd.R_drewN | apply Kd.R_drew)); exact HO104.out, by repeat (first | (with_reducible first | exact HB.out | apply below_alloc | apply pw_below_drewN | apply below_drew1) | exact HB.out)⟩
      · replace c4 := Bool.eq_false_iff.mpr c4
        subst c4
        have H1 : (if a0 = 6 then (insn_words.j1 kj1 a0 (a0 == 6)) else (insn_words.j1 kj1 a0 (a0 == 7))) = some r := by rw [if_neg (show ¬ (false = true) by decide)] at H; exact H
        clear H
        have H := H1
        clear H1
        have HC7 := Aside0.mk H
        clear H
        go_upto_if 8 with (fail)
        go_cut [8] (fun v8 wc => ∃ (kq : Nat) (x8_6 : Bool), v8 = .bool x8_6 ∧ Aside0 (insn_words.j1 kq a0 x8_6 = some r) ∧ Aside0 (kq ≤ kj1) ∧ Aside0 (Below w.heap.size w wc))
        case first =>
          have H := HC7.out
          clear HC7
          by_cases c8 : a0 = 6
          · rw [if_pos c8] at H
            have c8b0 : (a0 == 6) = true := beq_iff_eq.mpr c8
            have c8b1 : (a0 != 6) = false := bne_eq_false_iff_eq.mpr c8
            clear c8
            (first | rw [c8b0] | (simp only [i64_w, i32_w]; rw [c8b0]) | skip)
            have H' := Aside0.mk H
            clear H
            go_wp2
            go_meet
            case rel => exact ⟨_, ((a0 == 6)), (by first | rfl | (simp; done) | (simp [*]; done)), H', ⟨by have := HJ1.out; first | omega | exact Nat.le_refl _⟩, ⟨by repeat (first | (with_reducible first | exact HB.out | apply below_alloc | apply pw_below_drewN | apply below_drew1) | exact HB.out)⟩⟩
          · rw [if_neg c8] at H
            have c8b0 : (a0 == 6) = false := beq_eq_false_iff_ne.mpr c8
            have c8b1 : (a0 != 6) = true := bne_iff_ne.mpr c8
            (first | rw [c8b0] | (simp only [i64_w, i32_w]; rw [c8b0]) | skip)
            have H' := Aside0.mk H
            clear H
            go_wp2
            go_meet
            case rel => exact ⟨_, ((a0 == 7)), (by first | rfl | (simp; done) | (simp [*]; done)), H', ⟨by have := HJ1.out; first | omega | exact Nat.le_refl _⟩, ⟨by repeat (first | (with_reducible first | exact HB.out | apply below_alloc | apply pw_below_drewN | apply below_drew1) | exact HB.out)⟩⟩
        case rest =>
          clear HC7
          try clear c2
          try clear p2
          try clear c3
          try clear c3b0
          try clear c3b1
          try clear c4
          try clear c8
          try clear c8b0
          try clear c8b1
          try clear p2
          obtain ⟨kq, x8_6, rfl, HA, HJ6, HB⟩ := hcut
          cases kq with
          | zero => exact absurd HA.out (by simp [insn_words.j1])
          | succ kj6 =>
            have H := HA.out
            clear HA
            simp only [insn_words.j1] at H
            by_cases c9 : x8_6 = true
            · subst c9
              have H1 : (some (([(⟨#[]⟩ : ByteArray), (⟨#[101, 113]⟩ : ByteArray), (⟨#[110, 101]⟩ : ByteArray), (⟨#[108, 116]⟩ : ByteArray), (⟨#[108, 101]⟩ : ByteArray), (⟨#[103, 116]⟩ : ByteArray), (⟨#[103, 101]⟩ : ByteArray), (⟨#[115, 108, 116]⟩ : ByteArray), (⟨#[115, 103, 101]⟩ : ByteArray), (⟨#[115, 101, 116]⟩ : ByteArray)] : List ByteArray))) = some r := by rw [if_pos rfl] at H; exact H
              clear H
              have H := H1
              clear H1
              obtain ⟨y105, hy105⟩ : ∃ y_ : List ByteArray, y_ = (([(⟨#[]⟩ : ByteArray), (⟨#[101, 113]⟩ : ByteArray), (⟨#[110, 101]⟩ : ByteArray), (⟨#[108, 116]⟩ : ByteArray), (⟨#[108, 101]⟩ : ByteArray), (⟨#[103, 116]⟩ : ByteArray), (⟨#[103, 101]⟩ : ByteArray), (⟨#[115, 108, 116]⟩ : ByteArray), (⟨#[115, 103, 101]⟩ : ByteArray), (⟨#[115, 101, 116]⟩ : ByteArray)] : List ByteArray)) := ⟨_, rfl⟩
              replace H : (some y105) = some r := by first | (rw [hy105]; with_reducible exact H) | (have H2_ := (Option.bind_some _ _).symm.trans H; rw [hy105]; with_reducible exact H2_) | (have H2_ := (Option.bind_some _ _).symm.trans H; with_reducible exact H2_) | with_reducible exact H | (rw [hy105]; exact H) | exact H
              have Ny105 := Aside0.mk hy105
              clear hy105
              obtain rfl := Option.some.inj H
              go_wp2_with (first | ((with_reducible refine gate_dst (N := 11) rfl ?_); refine Kd.R_lit Kd.string _ 9 ?hg (N := 11) ?hd (xs := ([(⟨#[]⟩ : ByteArray), (⟨#[101, 113]⟩ : ByteArray), (⟨#[110, 101]⟩ : ByteArray), (⟨#[108, 116]⟩ : ByteArray), (⟨#[108, 101]⟩ : ByteArray), (⟨#[103, 116]⟩ : ByteArray), (⟨#[103, 101]⟩ : ByteArray), (⟨#[115, 108, 116]⟩ : ByteArray), (⟨#[115, 103, 101]⟩ : ByteArray), (⟨#[115, 101, 116]⟩ : ByteArray)] : List ByteArray)) (inner := [.string (⟨#[]⟩ : ByteArray), .string (⟨#[101, 113]⟩ : ByteArray), .string (⟨#[110, 101]⟩ : ByteArray), .string (⟨#[108, 116]⟩ : ByteArray), .string (⟨#[108, 101]⟩ : ByteArray), .string (⟨#[103, 116]⟩ : ByteArray), .string (⟨#[103, 101]⟩ : ByteArray), .string (⟨#[115, 108, 116]⟩ : ByteArray), .string (⟨#[115, 103, 101]⟩ : ByteArray), .string (⟨#[115, 101, 116]⟩ : ByteArray)]) (ok := fun _ => True) (okp := fun _ => True) ?hr ?hp (fun _ hk => hk) trivial (Below.refl _ _) (Nat.le_refl _) (by simp) ?_; (case hd => rfl); (case hg => rfl); (case hr => first | (go_simp; done) | (go_simp; rfl)); (case hp => exact (Reps.one (show Kd.M Kd.string _ _ _ (⟨#[]⟩ : ByteArray) [.string (⟨#[]⟩ : ByteArray)] from rfl) (Reps.one (show Kd.M Kd.string _ _ _ (⟨#[101, 113]⟩ : ByteArray) [.string (⟨#[101, 113]⟩ : ByteArray)] from rfl) (Reps.one (show Kd.M Kd.string _ _ _ (⟨#[110, 101]⟩ : ByteArray) [.string (⟨#[110, 101]⟩ : ByteArray)] from rfl) (Reps.one (show Kd.M Kd.string _ _ _ (⟨#[108, 116]⟩ : ByteArray) [.string (⟨#[108, 116]⟩ : ByteArray)] from rfl) (Reps.one (show Kd.M Kd.string _ _ _ (⟨#[108, 101]⟩ : ByteArray) [.string (⟨#[108, 101]⟩ : ByteArray)] from rfl) (Reps.one (show Kd.M Kd.string _ _ _ (⟨#[103, 116]⟩ : ByteArray) [.string (⟨#[103, 116]⟩ : ByteArray)] from rfl) (Reps.one (show Kd.M Kd.string _ _ _ (⟨#[103, 101]⟩ : ByteArray) [.string (⟨#[103, 101]⟩ : ByteArray)] from rfl) (Reps.one (show Kd.M Kd.string _ _ _ (⟨#[115, 108, 116]⟩ : ByteArray) [.string (⟨#[115, 108, 116]⟩ : ByteArray)] from rfl) (Reps.one (show Kd.M Kd.string _ _ _ (⟨#[115, 103, 101]⟩ : ByteArray) [.string (⟨#[115, 103, 101]⟩ : ByteArray)] from rfl) (Reps.one (show Kd.M Kd.string _ _ _ (⟨#[115, 101, 116]⟩ : ByteArray) [.string (⟨#[115, 101, 116]⟩ : ByteArray)] from rfl) (Reps.none _ _)))))))))))); intro v106 w10 ho11 hb hg_ hnew_; clear hg_ hnew_; (first | rw [← Ny105.out] at ho11 | (simp only [Int.reduceToNat] at ho11; rw [← Ny105.out] at ho11)); have n0_ := Aside0.mk (Kd.R_lower ho11 (below_size (by repeat (first | (with_reducible first | exact HB.out | apply below_alloc | apply pw_below_drewN | apply below_drew1) | exact HB.out)))); have n1_ := Aside0.mk (below_step (by repeat (first | (with_reducible first | exact HB.out | apply below_alloc | apply pw_below_drewN | apply below_drew1) | exact HB.out)) hb); clear HB; have HO107 := n0_; have HB := n1_; clear n0_ n1_; clear hb ho11))
              go_ret
              exact ⟨_, by first | rfl | (simp [errW_none, errW_some] <;> rfl) | (simp [*, errW_none, errW_some] <;> rfl), by (with_reducible repeat (first | apply Kd.R_alloc | apply Kd.R_drewN | apply Kd.R_drew)); exact HO107.out, by repeat (first | (with_reducible first | exact HB.out | apply below_alloc | apply pw_below_drewN | apply below_drew1) | exact HB.out)⟩
            · replace c9 := Bool.eq_false_iff.mpr c9
              subst c9
              have H1 : (if a0 = 14 then (some (([(⟨#[]⟩ : ByteArray), (⟨#[110, 101, 119]⟩ : ByteArray), (⟨#[100, 114, 111, 112]⟩ : ByteArray), (⟨#[97, 99, 113, 117, 105, 114, 101]⟩ : ByteArray), (⟨#[108, 111, 111, 107, 117, 112]⟩ : ByteArray), (⟨#[105, 110, 115, 101, 114, 116]⟩ : ByteArray), (⟨#[100, 101, 108, 101, 116, 101]⟩ : ByteArray), (⟨#[108, 111, 99, 107]⟩ : ByteArray), (⟨#[117, 110, 108, 111, 99, 107]⟩ : ByteArray), (⟨#[112, 117, 115, 104, 102, 114, 111, 110, 116]⟩ : ByteArray), (⟨#[112, 117, 115, 104, 98, 97, 99, 107]⟩ : ByteArray), (⟨#[112, 111, 112, 102, 114, 111, 110, 116]⟩ : ByteArray), (⟨#[112, 111, 112, 98, 97, 99, 107]⟩ : ByteArray), (⟨#[102, 114, 111, 110, 116]⟩ : ByteArray), (⟨#[116, 114, 101, 101, 97, 100, 100]⟩ : ByteArray), (⟨#[116, 114, 101, 101, 102, 105, 114, 115, 116]⟩ : ByteArray), (⟨#[116, 114, 101, 101, 108, 101, 102, 116]⟩ : ByteArray), (⟨#[116, 114, 101, 101, 114, 105, 103, 104, 116]⟩ : ByteArray), (⟨#[116, 114, 101, 101, 103, 111, 110, 101]⟩ : ByteArray), (⟨#[115, 119, 97, 112]⟩ : ByteArray), (⟨#[112, 101, 101, 107]⟩ : ByteArray), (⟨#[114, 99, 117, 108, 111, 99, 107]⟩ : ByteArray), (⟨#[114, 99, 117, 117, 110, 108, 111, 99, 107]⟩ : ByteArray)] : List ByteArray))) else (some ([] : List ByteArray))) = some r := by rw [if_neg (show ¬ (false = true) by decide)] at H; exact H
              clear H
              have H := H1
              clear H1
              by_cases c12 : a0 = 14
              · rw [if_pos c12] at H
                have c12b0 : (a0 == 14) = true := beq_iff_eq.mpr c12
                have c12b1 : (a0 != 14) = false := bne_eq_false_iff_eq.mpr c12
                clear c12
                obtain ⟨y108, hy108⟩ : ∃ y_ : List ByteArray, y_ = (([(⟨#[]⟩ : ByteArray), (⟨#[110, 101, 119]⟩ : ByteArray), (⟨#[100, 114, 111, 112]⟩ : ByteArray), (⟨#[97, 99, 113, 117, 105, 114, 101]⟩ : ByteArray), (⟨#[108, 111, 111, 107, 117, 112]⟩ : ByteArray), (⟨#[105, 110, 115, 101, 114, 116]⟩ : ByteArray), (⟨#[100, 101, 108, 101, 116, 101]⟩ : ByteArray), (⟨#[108, 111, 99, 107]⟩ : ByteArray), (⟨#[117, 110, 108, 111, 99, 107]⟩ : ByteArray), (⟨#[112, 117, 115, 104, 102, 114, 111, 110, 116]⟩ : ByteArray), (⟨#[112, 117, 115, 104, 98, 97, 99, 107]⟩ : ByteArray), (⟨#[112, 111, 112, 102, 114, 111, 110, 116]⟩ : ByteArray), (⟨#[112, 111, 112, 98, 97, 99, 107]⟩ : ByteArray), (⟨#[102, 114, 111, 110, 116]⟩ : ByteArray), (⟨#[116, 114, 101, 101, 97, 100, 100]⟩ : ByteArray), (⟨#[116, 114, 101, 101, 102, 105, 114, 115, 116]⟩ : ByteArray), (⟨#[116, 114, 101, 101, 108, 101, 102, 116]⟩ : ByteArray), (⟨#[116, 114, 101, 101, 114, 105, 103, 104, 116]⟩ : ByteArray), (⟨#[116, 114, 101, 101, 103, 111, 110, 101]⟩ : ByteArray), (⟨#[115, 119, 97, 112]⟩ : ByteArray), (⟨#[112, 101, 101, 107]⟩ : ByteArray), (⟨#[114, 99, 117, 108, 111, 99, 107]⟩ : ByteArray), (⟨#[114, 99, 117, 117, 110, 108, 111, 99, 107]⟩ : ByteArray)] : List ByteArray)) := ⟨_, rfl⟩
                replace H : (some y108) = some r := by first | (rw [hy108]; with_reducible exact H) | (have H2_ := (Option.bind_some _ _).symm.trans H; rw [hy108]; with_reducible exact H2_) | (have H2_ := (Option.bind_some _ _).symm.trans H; with_reducible exact H2_) | with_reducible exact H | (rw [hy108]; exact H) | exact H
                have Ny108 := Aside0.mk hy108
                clear hy108
                obtain rfl := Option.some.inj H
                go_wp2_with (first | ((with_reducible refine gate_dst (N := 14) rfl ?_); refine Kd.R_lit Kd.string _ 9 ?hg (N := 14) ?hd (xs := ([(⟨#[]⟩ : ByteArray), (⟨#[110, 101, 119]⟩ : ByteArray), (⟨#[100, 114, 111, 112]⟩ : ByteArray), (⟨#[97, 99, 113, 117, 105, 114, 101]⟩ : ByteArray), (⟨#[108, 111, 111, 107, 117, 112]⟩ : ByteArray), (⟨#[105, 110, 115, 101, 114, 116]⟩ : ByteArray), (⟨#[100, 101, 108, 101, 116, 101]⟩ : ByteArray), (⟨#[108, 111, 99, 107]⟩ : ByteArray), (⟨#[117, 110, 108, 111, 99, 107]⟩ : ByteArray), (⟨#[112, 117, 115, 104, 102, 114, 111, 110, 116]⟩ : ByteArray), (⟨#[112, 117, 115, 104, 98, 97, 99, 107]⟩ : ByteArray), (⟨#[112, 111, 112, 102, 114, 111, 110, 116]⟩ : ByteArray), (⟨#[112, 111, 112, 98, 97, 99, 107]⟩ : ByteArray), (⟨#[102, 114, 111, 110, 116]⟩ : ByteArray), (⟨#[116, 114, 101, 101, 97, 100, 100]⟩ : ByteArray), (⟨#[116, 114, 101, 101, 102, 105, 114, 115, 116]⟩ : ByteArray), (⟨#[116, 114, 101, 101, 108, 101, 102, 116]⟩ : ByteArray), (⟨#[116, 114, 101, 101, 114, 105, 103, 104, 116]⟩ : ByteArray), (⟨#[116, 114, 101, 101, 103, 111, 110, 101]⟩ : ByteArray), (⟨#[115, 119, 97, 112]⟩ : ByteArray), (⟨#[112, 101, 101, 107]⟩ : ByteArray), (⟨#[114, 99, 117, 108, 111, 99, 107]⟩ : ByteArray), (⟨#[114, 99, 117, 117, 110, 108, 111, 99, 107]⟩ : ByteArray)] : List ByteArray)) (inner := [.string (⟨#[]⟩ : ByteArray), .string (⟨#[110, 101, 119]⟩ : ByteArray), .string (⟨#[100, 114, 111, 112]⟩ : ByteArray), .string (⟨#[97, 99, 113, 117, 105, 114, 101]⟩ : ByteArray), .string (⟨#[108, 111, 111, 107, 117, 112]⟩ : ByteArray), .string (⟨#[105, 110, 115, 101, 114, 116]⟩ : ByteArray), .string (⟨#[100, 101, 108, 101, 116, 101]⟩ : ByteArray), .string (⟨#[108, 111, 99, 107]⟩ : ByteArray), .string (⟨#[117, 110, 108, 111, 99, 107]⟩ : ByteArray), .string (⟨#[112, 117, 115, 104, 102, 114, 111, 110, 116]⟩ : ByteArray), .string (⟨#[112, 117, 115, 104, 98, 97, 99, 107]⟩ : ByteArray), .string (⟨#[112, 111, 112, 102, 114, 111, 110, 116]⟩ : ByteArray), .string (⟨#[112, 111, 112, 98, 97, 99, 107]⟩ : ByteArray), .string (⟨#[102, 114, 111, 110, 116]⟩ : ByteArray), .string (⟨#[116, 114, 101, 101, 97, 100, 100]⟩ : ByteArray), .string (⟨#[116, 114, 101, 101, 102, 105, 114, 115, 116]⟩ : ByteArray), .string (⟨#[116, 114, 101, 101, 108, 101, 102, 116]⟩ : ByteArray), .string (⟨#[116, 114, 101, 101, 114, 105, 103, 104, 116]⟩ : ByteArray), .string (⟨#[116, 114, 101, 101, 103, 111, 110, 101]⟩ : ByteArray), .string (⟨#[115, 119, 97, 112]⟩ : ByteArray), .string (⟨#[112, 101, 101, 107]⟩ : ByteArray), .string (⟨#[114, 99, 117, 108, 111, 99, 107]⟩ : ByteArray), .string (⟨#[114, 99, 117, 117, 110, 108, 111, 99, 107]⟩ : ByteArray)]) (ok := fun _ => True) (okp := fun _ => True) ?hr ?hp (fun _ hk => hk) trivial (Below.refl _ _) (Nat.le_refl _) (by simp) ?_; (case hd => rfl); (case hg => rfl); (case hr => first | (go_simp; done) | (go_simp; rfl)); (case hp => exact (Reps.one (show Kd.M Kd.string _ _ _ (⟨#[]⟩ : ByteArray) [.string (⟨#[]⟩ : ByteArray)] from rfl) (Reps.one (show Kd.M Kd.string _ _ _ (⟨#[110, 101, 119]⟩ : ByteArray) [.string (⟨#[110, 101, 119]⟩ : ByteArray)] from rfl) (Reps.one (show Kd.M Kd.string _ _ _ (⟨#[100, 114, 111, 112]⟩ : ByteArray) [.string (⟨#[100, 114, 111, 112]⟩ : ByteArray)] from rfl) (Reps.one (show Kd.M Kd.string _ _ _ (⟨#[97, 99, 113, 117, 105, 114, 101]⟩ : ByteArray) [.string (⟨#[97, 99, 113, 117, 105, 114, 101]⟩ : ByteArray)] from rfl) (Reps.one (show Kd.M Kd.string _ _ _ (⟨#[108, 111, 111, 107, 117, 112]⟩ : ByteArray) [.string (⟨#[108, 111, 111, 107, 117, 112]⟩ : ByteArray)] from rfl) (Reps.one (show Kd.M Kd.string _ _ _ (⟨#[105, 110, 115, 101, 114, 116]⟩ : ByteArray) [.string (⟨#[105, 110, 115, 101, 114, 116]⟩ : ByteArray)] from rfl) (Reps.one (show Kd.M Kd.string _ _ _ (⟨#[100, 101, 108, 101, 116, 101]⟩ : ByteArray) [.string (⟨#[100, 101, 108, 101, 116, 101]⟩ : ByteArray)] from rfl) (Reps.one (show Kd.M Kd.string _ _ _ (⟨#[108, 111, 99, 107]⟩ : ByteArray) [.string (⟨#[108, 111, 99, 107]⟩ : ByteArray)] from rfl) (Reps.one (show Kd.M Kd.string _ _ _ (⟨#[117, 110, 108, 111, 99, 107]⟩ : ByteArray) [.string (⟨#[117, 110, 108, 111, 99, 107]⟩ : ByteArray)] from rfl) (Reps.one (show Kd.M Kd.string _ _ _ (⟨#[112, 117, 115, 104, 102, 114, 111, 110, 116]⟩ : ByteArray) [.string (⟨#[112, 117, 115, 104, 102, 114, 111, 110, 116]⟩ : ByteArray)] from rfl) (Reps.one (show Kd.M Kd.string _ _ _ (⟨#[112, 117, 115, 104, 98, 97, 99, 107]⟩ : ByteArray) [.string (⟨#[112, 117, 115, 104, 98, 97, 99, 107]⟩ : ByteArray)] from rfl) (Reps.one (show Kd.M Kd.string _ _ _ (⟨#[112, 111, 112, 102, 114, 111, 110, 116]⟩ : ByteArray) [.string (⟨#[112, 111, 112, 102, 114, 111, 110, 116]⟩ : ByteArray)] from rfl) (Reps.one (show Kd.M Kd.string _ _ _ (⟨#[112, 111, 112, 98, 97, 99, 107]⟩ : ByteArray) [.string (⟨#[112, 111, 112, 98, 97, 99, 107]⟩ : ByteArray)] from rfl) (Reps.one (show Kd.M Kd.string _ _ _ (⟨#[102, 114, 111, 110, 116]⟩ : ByteArray) [.string (⟨#[102, 114, 111, 110, 116]⟩ : ByteArray)] from rfl) (Reps.one (show Kd.M Kd.string _ _ _ (⟨#[116, 114, 101, 101, 97, 100, 100]⟩ : ByteArray) [.string (⟨#[116, 114, 101, 101, 97, 100, 100]⟩ : ByteArray)] from rfl) (Reps.one (show Kd.M Kd.string _ _ _ (⟨#[116, 114, 101, 101, 102, 105, 114, 115, 116]⟩ : ByteArray) [.string (⟨#[116, 114, 101, 101, 102, 105, 114, 115, 116]⟩ : ByteArray)] from rfl) (Reps.one (show Kd.M Kd.string _ _ _ (⟨#[116, 114, 101, 101, 108, 101, 102, 116]⟩ : ByteArray) [.string (⟨#[116, 114, 101, 101, 108, 101, 102, 116]⟩ : ByteArray)] from rfl) (Reps.one (show Kd.M Kd.string _ _ _ (⟨#[116, 114, 101, 101, 114, 105, 103, 104, 116]⟩ : ByteArray) [.string (⟨#[116, 114, 101, 101, 114, 105, 103, 104, 116]⟩ : ByteArray)] from rfl) (Reps.one (show Kd.M Kd.string _ _ _ (⟨#[116, 114, 101, 101, 103, 111, 110, 101]⟩ : ByteArray) [.string (⟨#[116, 114, 101, 101, 103, 111, 110, 101]⟩ : ByteArray)] from rfl) (Reps.one (show Kd.M Kd.string _ _ _ (⟨#[115, 119, 97, 112]⟩ : ByteArray) [.string (⟨#[115, 119, 97, 112]⟩ : ByteArray)] from rfl) (Reps.one (show Kd.M Kd.string _ _ _ (⟨#[112, 101, 101, 107]⟩ : ByteArray) [.string (⟨#[112, 101, 101, 107]⟩ : ByteArray)] from rfl) (Reps.one (show Kd.M Kd.string _ _ _ (⟨#[114, 99, 117, 108, 111, 99, 107]⟩ : ByteArray) [.string (⟨#[114, 99, 117, 108, 111, 99, 107]⟩ : ByteArray)] from rfl) (Reps.one (show Kd.M Kd.string _ _ _ (⟨#[114, 99, 117, 117, 110, 108, 111, 99, 107]⟩ : ByteArray) [.string (⟨#[114, 99, 117, 117, 110, 108, 111, 99, 107]⟩ : ByteArray)] from rfl) (Reps.none _ _))))))))))))))))))))))))); intro v109 w13 ho14 hb hg_ hnew_; clear hg_ hnew_; (first | rw [← Ny108.out] at ho14 | (simp only [Int.reduceToNat] at ho14; rw [← Ny108.out] at ho14)); have n0_ := Aside0.mk (Kd.R_lower ho14 (below_size (by repeat (first | (with_reducible first | exact HB.out | apply below_alloc | apply pw_below_drewN | apply below_drew1) | exact HB.out)))); have n1_ := Aside0.mk (below_step (by repeat (first | (with_reducible first | exact HB.out | apply below_alloc | apply pw_below_drewN | apply below_drew1) | exact HB.out)) hb); clear HB; have HO110 := n0_; have HB := n1_; clear n0_ n1_; clear hb ho14))
                go_ret
                exact ⟨_, by first | rfl | (simp [errW_none, errW_some] <;> rfl) | (simp [*, errW_none, errW_some] <;> rfl), by (with_reducible repeat (first | apply Kd.R_alloc | apply Kd.R_drewN | apply Kd.R_drew)); exact HO110.out, by repeat (first | (with_reducible first | exact HB.out | apply below_alloc | apply pw_below_drewN | apply below_drew1) | exact HB.out)⟩
              · rw [if_neg c12] at H
                have c12b0 : (a0 == 14) = false := beq_eq_false_iff_ne.mpr c12
                have c12b1 : (a0 != 14) = true := bne_iff_ne.mpr c12
                obtain rfl := Option.some.inj H
                go_wp2
                go_ret
                exact ⟨_, by first | rfl | (simp [errW_none, errW_some] <;> rfl) | (simp [*, errW_none, errW_some] <;> rfl), by first | exact Kd.R_nil _ _ _ _ _ | exact Kd.N_nil _ _ _ _ _ | exact Kd.V_nil _ _ _ _ _ | exact Kd.Q_nil _ _ _ _ _ | exact Kd.S_nil _ _ _ _ _, by repeat (first | (with_reducible first | exact HB.out | apply below_alloc | apply pw_below_drewN | apply below_drew1) | exact HB.out)⟩

-- NOT PRINTED: function 19 (insn_Check)

-- NOT PRINTED: function 20 (flow_behind)

-- NOT PRINTED: function 10 (flow_Check)

-- NOT PRINTED: function 12 (flow_Longest)

-- NOT PRINTED: function 15 (flow_Next)

-- NOT PRINTED: function 17 (flow_Ahead)

-- NOT PRINTED: function 9 (turnbucklelaw16_shown)

/-! ### turnbuckleref04_Same: function 14 -/
def turnbuckleref04_Same.l0 : Nat → List Int → List Int → Int → Option (Bool)
  | 0, _, _, _ => none
  | k + 1, x0, x1, x5 => if x5 < (x0.length : Int) then (if 0 ≤ x5 then (if x5 < (x1.length : Int) then (if (rd x0 x5) = (rd x1 x5) then (turnbuckleref04_Same.l0 k x0 x1 (wrap64 (x5 + 1))) else (some false)) else (none)) else (none)) else (some true)
def turnbuckleref04_Same.f (k : Nat) (l0 : List Int) (l1 : List Int) : Option (Bool) := if (l0.length : Int) = (l1.length : Int) then (turnbuckleref04_Same.l0 k l0 l1 0) else (some false)
theorem turnbuckleref04_Same.mono_l : ∀ k, (∀ y0 y1 y2, LeO (turnbuckleref04_Same.l0 k y0 y1 y2) (turnbuckleref04_Same.l0 (k + 1) y0 y1 y2))
  | 0 => fun _ _ _ r h => by simp [turnbuckleref04_Same.l0] at h
  | k + 1 => by
    have ih0 := turnbuckleref04_Same.mono_l k
    · intro y0 y1 y2
      unfold turnbuckleref04_Same.l0
      repeat' first
      | (with_reducible exact ih0 _ _ _)
      | (with_reducible exact LeO.refl _)
      | (with_reducible exact LeO.none _)
      | (with_reducible refine LeO.ite ?_ ?_)
      | (with_reducible refine LeO.bind ?_ (fun _ => ?_))
      | exact ih0 _ _ _
      | exact LeO.none _
      | refine LeO.ite ?_ ?_
      | refine LeO.bind ?_ (fun _ => ?_)
theorem turnbuckleref04_Same.mono : ∀ a0 a1 k, LeO (turnbuckleref04_Same.f k a0 a1) (turnbuckleref04_Same.f (k + 1) a0 a1) := by
  intro a0 a1 k
  have ih0 := turnbuckleref04_Same.mono_l k
  unfold turnbuckleref04_Same.f
  repeat' first
      | (with_reducible exact ih0 _ _ _)
      | (with_reducible exact LeO.refl _)
      | (with_reducible exact LeO.none _)
      | (with_reducible refine LeO.ite ?_ ?_)
      | (with_reducible refine LeO.bind ?_ (fun _ => ?_))
      | exact ih0 _ _ _
      | exact LeO.none _
      | refine LeO.ite ?_ ?_
      | refine LeO.bind ?_ (fun _ => ?_)
set_option maxHeartbeats 8000000 in
set_option maxRecDepth 100000 in
theorem turnbuckleref04_Same.calls (k : Nat) (A0 : Option Addr) (c0 : Nat) (l0 : List Int) (A1 : Option Addr) (c1 : Nat) (l1 : List Int) (r : Bool) (w : World) (hr0 : Kd.C (Kd.int .i64) w A0 l0.length l0) (hc0 : l0.length ≤ c0) (hr1 : Kd.C (Kd.int .i64) w A1 l1.length l1) (hc1 : l1.length ≤ c1) (h : turnbuckleref04_Same.f k l0 l1 = some r) :
    Calls Try.prog 14 #[.slice A0 l0.length c0, .slice A1 l1.length c1] w fun e w' => e = .returned (.bool r) ∧ Drawn0 w w' := by
  have HR0 := Aside0.mk hr0
  have HC0 := Aside0.mk hc0
  clear hr0 hc0
  have HR1 := Aside0.mk hr1
  have HC1 := Aside0.mk hc1
  clear hr1 hc1
  have H : (if (l0.length : Int) = (l1.length : Int) then (turnbuckleref04_Same.l0 k l0 l1 0) else (some false)) = some r := h
  clear h
  by_cases c3 : (l0.length : Int) = (l1.length : Int)
  · rw [if_pos c3] at H
    have c3b0 : ((l0.length : Int) == (l1.length : Int)) = true := beq_iff_eq.mpr c3
    have c3b1 : ((l0.length : Int) != (l1.length : Int)) = false := bne_eq_false_iff_eq.mpr c3
    have c3b2 : (l0.length == l1.length) = true := by first | simpa using c3 | (simp at c3 ⊢; omega)
    clear c3
    have H' := Aside0.mk H
    clear H
    go_enter Try.func14, Try.ntmps14
    go_wp2
    repeat (go_quiet (fail); try go_wp2)
    go_loopg [5] k (fun kq v5 w' => ∃ (x5_1 : Int), v5 = .int .i64 x5_1 ∧ Aside0 (turnbuckleref04_Same.l0 kq l0 l1 x5_1 = some r) ∧ Aside0 (kq ≤ k) ∧ Drawn0 w w')
    case atStart => exact ⟨(0), (by first | rfl | (simp; done) | (simp [*]; done)), H', ⟨Nat.le_refl _⟩, by repeat (first | exact Drawn0.refl _ | apply Drawn0.step)⟩
    case round =>
      clear H'
      try clear c1
      try clear p2
      try clear c3
      try clear c3b0
      try clear c3b1
      try clear c3b2
      obtain ⟨x5_1, rfl, HA, HK1, ⟨m1, rfl⟩⟩ := hrel
      cases gk with
      | zero => exact absurd HA.out (by simp [turnbuckleref04_Same.l0])
      | succ k1 =>
        have H := HA.out
        clear HA
        simp only [turnbuckleref04_Same.l0] at H
        by_cases c4 : x5_1 < (l0.length : Int)
        · rw [if_pos c4] at H
          have c4b0 : decide (x5_1 < (l0.length : Int)) = true := decide_eq_true c4
          clear c4
          by_cases c5 : 0 ≤ x5_1
          · rw [if_pos c5] at H
            have c5b0 : decide (0 ≤ x5_1) = true := decide_eq_true c5
            clear c5
            by_cases c6 : x5_1 < (l1.length : Int)
            · rw [if_pos c6] at H
              have c6b0 : decide (x5_1 < (l1.length : Int)) = true := decide_eq_true c6
              clear c6
              by_cases c7 : (rd l0 x5_1) = (rd l1 x5_1)
              · rw [if_pos c7] at H
                have c7b0 : ((rd l0 x5_1) == (rd l1 x5_1)) = true := beq_iff_eq.mpr c7
                have c7b1 : ((rd l0 x5_1) != (rd l1 x5_1)) = false := bne_eq_false_iff_eq.mpr c7
                clear c7
                have H' := Aside0.mk H
                clear H
                have p115 : 0 ≤ (x5_1 : Int) := of_decide_eq_true (by first | (with_reducible assumption) | assumption)
                have q115 : x5_1 < (l0.length : Int) := of_decide_eq_true (by first | (with_reducible assumption) | assumption)
                obtain ⟨ad115, e115, hx115_0⟩ := Kd.at_int HR0.out x5_1 p115 q115
                cases e115
                replace p115 := eq_true p115
                replace q115 := eq_true q115
                have p116 : 0 ≤ (x5_1 : Int) := of_decide_eq_true (by first | (with_reducible assumption) | assumption)
                have q116 : x5_1 < (l1.length : Int) := of_decide_eq_true (by first | (with_reducible assumption) | assumption)
                obtain ⟨ad116, e116, hx116_0⟩ := Kd.at_int HR1.out x5_1 p116 q116
                cases e116
                replace p116 := eq_true p116
                replace q116 := eq_true q116
                go_wp2
                repeat (go_quiet (fail); try go_wp2)
                go_roundg k1
                case measure => have := HK1.out; omega
                case rel => exact ⟨(wrap64 (x5_1 + 1)), (by first | rfl | (simp; done) | (simp [*]; done)), H', ⟨by have := HK1.out; omega⟩, by repeat (first | exact Drawn0.refl _ | apply Drawn0.step)⟩
              · rw [if_neg c7] at H
                have c7b0 : ((rd l0 x5_1) == (rd l1 x5_1)) = false := beq_eq_false_iff_ne.mpr c7
                have c7b1 : ((rd l0 x5_1) != (rd l1 x5_1)) = true := bne_iff_ne.mpr c7
                obtain rfl := Option.some.inj H
                have p115 : 0 ≤ (x5_1 : Int) := of_decide_eq_true (by first | (with_reducible assumption) | assumption)
                have q115 : x5_1 < (l0.length : Int) := of_decide_eq_true (by first | (with_reducible assumption) | assumption)
                obtain ⟨ad115, e115, hx115_0⟩ := Kd.at_int HR0.out x5_1 p115 q115
                cases e115
                replace p115 := eq_true p115
                replace q115 := eq_true q115
                have p116 : 0 ≤ (x5_1 : Int) := of_decide_eq_true (by first | (with_reducible assumption) | assumption)
                have q116 : x5_1 < (l1.length : Int) := of_decide_eq_true (by first | (with_reducible assumption) | assumption)
                obtain ⟨ad116, e116, hx116_0⟩ := Kd.at_int HR1.out x5_1 p116 q116
                cases e116
                replace p116 := eq_true p116
                replace q116 := eq_true q116
                go_wp2
                repeat (go_quiet (fail); try go_wp2)
                go_ret
                exact ⟨by first | rfl | (simp; done) | (simp [*]; done), by repeat (first | exact Drawn0.refl _ | apply Drawn0.step)⟩
            · rw [if_neg c6] at H
              exact absurd H (by simp)
          · rw [if_neg c5] at H
            exact absurd H (by simp)
        · rw [if_neg c4] at H
          have c4b0 : decide (x5_1 < (l0.length : Int)) = false := decide_eq_false c4
          clear c4
          obtain rfl := Option.some.inj H
          go_wp2
          repeat (go_quiet (fail); try go_wp2)
          go_ret
          exact ⟨by first | rfl | (simp; done) | (simp [*]; done), by repeat (first | exact Drawn0.refl _ | apply Drawn0.step)⟩
  · rw [if_neg c3] at H
    have c3b0 : ((l0.length : Int) == (l1.length : Int)) = false := beq_eq_false_iff_ne.mpr c3
    have c3b1 : ((l0.length : Int) != (l1.length : Int)) = true := bne_iff_ne.mpr c3
    have c3b2 : (l0.length == l1.length) = false := by first | simpa using c3 | (simp at c3 ⊢; omega)
    obtain rfl := Option.some.inj H
    go_enter Try.func14, Try.ntmps14
    go_wp2
    repeat (go_quiet (fail); try go_wp2)
    go_ret
    exact ⟨by first | rfl | (simp; done) | (simp [*]; done), by repeat (first | exact Drawn0.refl _ | apply Drawn0.step)⟩

/-! ### turnbuckleref16_Follows: function 22 -/
def turnbuckleref16_Follows.j0 : Nat → List (S37) → Int → Int → Bool → Option (Bool)
  | 0, _, _, _, _ => none
  | k + 1, x0, x1, x2, x15 => if x15 = true then (some false) else (if 0 ≤ x1 then (if x1 < (x0.length : Int) then (if ((rd_T37 x0 x1).f0) = 15 then (some false) else (if ((rd_T37 x0 x1).f0) = 5 then (some (x2 == (wrap64 (x1 + (wrap64 ((rd_T37 x0 x1).f4)))))) else (if ((rd_T37 x0 x1).f0) = 6 then (if x2 = (wrap64 (x1 + 1)) then (some true) else (some (x2 == (wrap64 (x1 + (wrap64 ((rd_T37 x0 x1).f4))))))) else (if ((rd_T37 x0 x1).f0) = 7 then (if x2 = (wrap64 (x1 + 1)) then (some true) else (some (x2 == (wrap64 (x1 + (wrap64 ((rd_T37 x0 x1).f4))))))) else (some (x2 == (wrap64 (x1 + 1)))))))) else (none)) else (none))
def turnbuckleref16_Follows.f (k : Nat) (l0 : List (S37)) (a1 : Int) (a2 : Int) : Option (Bool) := if a1 < 0 then (turnbuckleref16_Follows.j0 k l0 a1 a2 true) else (turnbuckleref16_Follows.j0 k l0 a1 a2 (decide (a1 ≥ (l0.length : Int))))
theorem turnbuckleref16_Follows.mono_l : ∀ k, (∀ y0 y1 y2 y3, LeO (turnbuckleref16_Follows.j0 k y0 y1 y2 y3) (turnbuckleref16_Follows.j0 (k + 1) y0 y1 y2 y3))
  | 0 => fun _ _ _ _ r h => by simp [turnbuckleref16_Follows.j0] at h
  | k + 1 => by
    have ih0 := turnbuckleref16_Follows.mono_l k
    · intro y0 y1 y2 y3
      unfold turnbuckleref16_Follows.j0
      repeat' first
      | (with_reducible exact ih0 _ _ _ _)
      | (with_reducible exact LeO.refl _)
      | (with_reducible exact LeO.none _)
      | (with_reducible refine LeO.ite ?_ ?_)
      | (with_reducible refine LeO.bind ?_ (fun _ => ?_))
      | exact ih0 _ _ _ _
      | exact LeO.none _
      | refine LeO.ite ?_ ?_
      | refine LeO.bind ?_ (fun _ => ?_)
theorem turnbuckleref16_Follows.mono : ∀ a0 a1 a2 k, LeO (turnbuckleref16_Follows.f k a0 a1 a2) (turnbuckleref16_Follows.f (k + 1) a0 a1 a2) := by
  intro a0 a1 a2 k
  have ih0 := turnbuckleref16_Follows.mono_l k
  unfold turnbuckleref16_Follows.f
  repeat' first
      | (with_reducible exact ih0 _ _ _ _)
      | (with_reducible exact LeO.refl _)
      | (with_reducible exact LeO.none _)
      | (with_reducible refine LeO.ite ?_ ?_)
      | (with_reducible refine LeO.bind ?_ (fun _ => ?_))
      | exact ih0 _ _ _ _
      | exact LeO.none _
      | refine LeO.ite ?_ ?_
      | refine LeO.bind ?_ (fun _ => ?_)
set_option maxHeartbeats 8000000 in
set_option maxRecDepth 100000 in
theorem turnbuckleref16_Follows.calls (k : Nat) (A0 : Option Addr) (c0 : Nat) (l0 : List (S37)) (a1 : Int) (a2 : Int) (r : Bool) (w : World) (hr0 : Kd.C k37 w A0 l0.length l0) (hc0 : l0.length ≤ c0) (h : turnbuckleref16_Follows.f k l0 a1 a2 = some r) :
    Calls Try.prog 22 #[.slice A0 l0.length c0, .int .i64 a1, .int .i64 a2] w fun e w' => e = .returned (.bool r) ∧ Drawn0 w w' := by
  have HR0 := Aside0.mk hr0
  have HC0 := Aside0.mk hc0
  clear hr0 hc0
  have H : (if a1 < 0 then (turnbuckleref16_Follows.j0 k l0 a1 a2 true) else (turnbuckleref16_Follows.j0 k l0 a1 a2 (decide (a1 ≥ (l0.length : Int))))) = some r := h
  clear h
  have HC4 := Aside0.mk H
  clear H
  go_enter Try.func22, Try.ntmps22
  go_upto_region 1 with (fail)
  go_cut [15] (fun v15 wc => ∃ (kq : Nat) (x15_3 : Bool), v15 = .bool x15_3 ∧ Aside0 (turnbuckleref16_Follows.j0 kq l0 a1 a2 x15_3 = some r) ∧ Aside0 (kq ≤ k) ∧ Drawn0 w wc)
  case first =>
    have H := HC4.out
    clear HC4
    by_cases c5 : a1 < 0
    · rw [if_pos c5] at H
      have c5b0 : decide (a1 < 0) = true := decide_eq_true c5
      clear c5
      (first | rw [c5b0] | (simp only [i64_w, i32_w]; rw [c5b0]) | skip)
      have H' := Aside0.mk H
      clear H
      go_wp2
      go_meet
      case rel => exact ⟨_, (true), (by first | rfl | (simp; done) | (simp [*]; done)), H', ⟨by first | omega | exact Nat.le_refl _⟩, by repeat (first | exact Drawn0.refl _ | apply Drawn0.step)⟩
    · rw [if_neg c5] at H
      have c5b0 : decide (a1 < 0) = false := decide_eq_false c5
      clear c5
      (first | rw [c5b0] | (simp only [i64_w, i32_w]; rw [c5b0]) | skip)
      have H' := Aside0.mk H
      clear H
      go_wp2
      go_meet
      case rel => exact ⟨_, (decide (a1 ≥ (l0.length : Int))), (by first | rfl | (simp; done) | (simp [*]; done)), H', ⟨by first | omega | exact Nat.le_refl _⟩, by repeat (first | exact Drawn0.refl _ | apply Drawn0.step)⟩
  case rest =>
    clear HC4
    try clear c2
    try clear p2
    try clear c5
    try clear c5b0
    obtain ⟨kq, x15_3, rfl, HA, HJ3, ⟨mc3, rfl⟩⟩ := hcut
    cases kq with
    | zero => exact absurd HA.out (by simp [turnbuckleref16_Follows.j0])
    | succ kj3 =>
      have H := HA.out
      clear HA
      simp only [turnbuckleref16_Follows.j0] at H
      by_cases c6 : x15_3 = true
      · subst c6
        have H1 : (some false) = some r := by rw [if_pos rfl] at H; exact H
        clear H
        have H := H1
        clear H1
        obtain rfl := Option.some.inj H
        go_wp2
        go_ret
        exact ⟨by first | rfl | (simp; done) | (simp [*]; done), by repeat (first | exact Drawn0.refl _ | apply Drawn0.step)⟩
      · replace c6 := Bool.eq_false_iff.mpr c6
        subst c6
        have H1 : (if 0 ≤ a1 then (if a1 < (l0.length : Int) then (if ((rd_T37 l0 a1).f0) = 15 then (some false) else (if ((rd_T37 l0 a1).f0) = 5 then (some (a2 == (wrap64 (a1 + (wrap64 ((rd_T37 l0 a1).f4)))))) else (if ((rd_T37 l0 a1).f0) = 6 then (if a2 = (wrap64 (a1 + 1)) then (some true) else (some (a2 == (wrap64 (a1 + (wrap64 ((rd_T37 l0 a1).f4))))))) else (if ((rd_T37 l0 a1).f0) = 7 then (if a2 = (wrap64 (a1 + 1)) then (some true) else (some (a2 == (wrap64 (a1 + (wrap64 ((rd_T37 l0 a1).f4))))))) else (some (a2 == (wrap64 (a1 + 1)))))))) else (none)) else (none)) = some r := by rw [if_neg (show ¬ (false = true) by decide)] at H; exact H
        clear H
        have H := H1
        clear H1
        by_cases c7 : 0 ≤ a1
        · rw [if_pos c7] at H
          have c7b0 : decide (0 ≤ a1) = true := decide_eq_true c7
          clear c7
          by_cases c8 : a1 < (l0.length : Int)
          · rw [if_pos c8] at H
            have c8b0 : decide (a1 < (l0.length : Int)) = true := decide_eq_true c8
            clear c8
            by_cases c9 : ((rd_T37 l0 a1).f0) = 15
            · rw [if_pos c9] at H
              have c9b0 : (((rd_T37 l0 a1).f0) == 15) = true := beq_iff_eq.mpr c9
              have c9b1 : (((rd_T37 l0 a1).f0) != 15) = false := bne_eq_false_iff_eq.mpr c9
              clear c9
              obtain rfl := Option.some.inj H
              have p117 : 0 ≤ (a1 : Int) := of_decide_eq_true (by first | (with_reducible assumption) | assumption)
              have q117 : a1 < (l0.length : Int) := of_decide_eq_true (by first | (with_reducible assumption) | assumption)
              obtain ⟨ad117, e117, hx117_0, hx117_1, hx117_2, hx117_3, hx117_4⟩ := at_T37 HR0.out a1 p117 q117
              cases e117
              replace p117 := eq_true p117
              replace q117 := eq_true q117
              have p118 : 0 ≤ (a1 : Int) := of_decide_eq_true (by first | (with_reducible assumption) | assumption)
              have q118 : a1 < (l0.length : Int) := of_decide_eq_true (by first | (with_reducible assumption) | assumption)
              obtain ⟨ad118, e118, hx118_0, hx118_1, hx118_2, hx118_3, hx118_4⟩ := at_T37 HR0.out a1 p118 q118
              obtain rfl : ad117 = ad118 := (by injection e118)
              replace p118 := eq_true p118
              replace q118 := eq_true q118
              go_wp2
              go_ret
              exact ⟨by first | rfl | (simp; done) | (simp [*]; done), by repeat (first | exact Drawn0.refl _ | apply Drawn0.step)⟩
            · rw [if_neg c9] at H
              have c9b0 : (((rd_T37 l0 a1).f0) == 15) = false := beq_eq_false_iff_ne.mpr c9
              have c9b1 : (((rd_T37 l0 a1).f0) != 15) = true := bne_iff_ne.mpr c9
              by_cases c10 : ((rd_T37 l0 a1).f0) = 5
              · rw [if_pos c10] at H
                have c10b0 : (((rd_T37 l0 a1).f0) == 5) = true := beq_iff_eq.mpr c10
                have c10b1 : (((rd_T37 l0 a1).f0) != 5) = false := bne_eq_false_iff_eq.mpr c10
                clear c10
                obtain rfl := Option.some.inj H
                have p117 : 0 ≤ (a1 : Int) := of_decide_eq_true (by first | (with_reducible assumption) | assumption)
                have q117 : a1 < (l0.length : Int) := of_decide_eq_true (by first | (with_reducible assumption) | assumption)
                obtain ⟨ad117, e117, hx117_0, hx117_1, hx117_2, hx117_3, hx117_4⟩ := at_T37 HR0.out a1 p117 q117
                cases e117
                replace p117 := eq_true p117
                replace q117 := eq_true q117
                have p118 : 0 ≤ (a1 : Int) := of_decide_eq_true (by first | (with_reducible assumption) | assumption)
                have q118 : a1 < (l0.length : Int) := of_decide_eq_true (by first | (with_reducible assumption) | assumption)
                obtain ⟨ad118, e118, hx118_0, hx118_1, hx118_2, hx118_3, hx118_4⟩ := at_T37 HR0.out a1 p118 q118
                obtain rfl : ad117 = ad118 := (by injection e118)
                replace p118 := eq_true p118
                replace q118 := eq_true q118
                go_wp2
                go_ret
                exact ⟨by first | rfl | (simp; done) | (simp [*]; done), by repeat (first | exact Drawn0.refl _ | apply Drawn0.step)⟩
              · rw [if_neg c10] at H
                have c10b0 : (((rd_T37 l0 a1).f0) == 5) = false := beq_eq_false_iff_ne.mpr c10
                have c10b1 : (((rd_T37 l0 a1).f0) != 5) = true := bne_iff_ne.mpr c10
                by_cases c11 : ((rd_T37 l0 a1).f0) = 6
                · rw [if_pos c11] at H
                  have c11b0 : (((rd_T37 l0 a1).f0) == 6) = true := beq_iff_eq.mpr c11
                  have c11b1 : (((rd_T37 l0 a1).f0) != 6) = false := bne_eq_false_iff_eq.mpr c11
                  clear c11
                  by_cases c12 : a2 = (wrap64 (a1 + 1))
                  · rw [if_pos c12] at H
                    have c12b0 : (a2 == (wrap64 (a1 + 1))) = true := beq_iff_eq.mpr c12
                    have c12b1 : (a2 != (wrap64 (a1 + 1))) = false := bne_eq_false_iff_eq.mpr c12
                    clear c12
                    obtain rfl := Option.some.inj H
                    have p117 : 0 ≤ (a1 : Int) := of_decide_eq_true (by first | (with_reducible assumption) | assumption)
                    have q117 : a1 < (l0.length : Int) := of_decide_eq_true (by first | (with_reducible assumption) | assumption)
                    obtain ⟨ad117, e117, hx117_0, hx117_1, hx117_2, hx117_3, hx117_4⟩ := at_T37 HR0.out a1 p117 q117
                    cases e117
                    replace p117 := eq_true p117
                    replace q117 := eq_true q117
                    have p118 : 0 ≤ (a1 : Int) := of_decide_eq_true (by first | (with_reducible assumption) | assumption)
                    have q118 : a1 < (l0.length : Int) := of_decide_eq_true (by first | (with_reducible assumption) | assumption)
                    obtain ⟨ad118, e118, hx118_0, hx118_1, hx118_2, hx118_3, hx118_4⟩ := at_T37 HR0.out a1 p118 q118
                    obtain rfl : ad117 = ad118 := (by injection e118)
                    replace p118 := eq_true p118
                    replace q118 := eq_true q118
                    go_wp2
                    go_ret
                    exact ⟨by first | rfl | (simp; done) | (simp [*]; done), by repeat (first | exact Drawn0.refl _ | apply Drawn0.step)⟩
                  · rw [if_neg c12] at H
                    have c12b0 : (a2 == (wrap64 (a1 + 1))) = false := beq_eq_false_iff_ne.mpr c12
                    have c12b1 : (a2 != (wrap64 (a1 + 1))) = true := bne_iff_ne.mpr c12
                    obtain rfl := Option.some.inj H
                    have p117 : 0 ≤ (a1 : Int) := of_decide_eq_true (by first | (with_reducible assumption) | assumption)
                    have q117 : a1 < (l0.length : Int) := of_decide_eq_true (by first | (with_reducible assumption) | assumption)
                    obtain ⟨ad117, e117, hx117_0, hx117_1, hx117_2, hx117_3, hx117_4⟩ := at_T37 HR0.out a1 p117 q117
                    cases e117
                    replace p117 := eq_true p117
                    replace q117 := eq_true q117
                    have p118 : 0 ≤ (a1 : Int) := of_decide_eq_true (by first | (with_reducible assumption) | assumption)
                    have q118 : a1 < (l0.length : Int) := of_decide_eq_true (by first | (with_reducible assumption) | assumption)
                    obtain ⟨ad118, e118, hx118_0, hx118_1, hx118_2, hx118_3, hx118_4⟩ := at_T37 HR0.out a1 p118 q118
                    obtain rfl : ad117 = ad118 := (by injection e118)
                    replace p118 := eq_true p118
                    replace q118 := eq_true q118
                    go_wp2
                    go_ret
                    exact ⟨by first | rfl | (simp; done) | (simp [*]; done), by repeat (first | exact Drawn0.refl _ | apply Drawn0.step)⟩
                · rw [if_neg c11] at H
                  have c11b0 : (((rd_T37 l0 a1).f0) == 6) = false := beq_eq_false_iff_ne.mpr c11
                  have c11b1 : (((rd_T37 l0 a1).f0) != 6) = true := bne_iff_ne.mpr c11
                  by_cases c13 : ((rd_T37 l0 a1).f0) = 7
                  · rw [if_pos c13] at H
                    have c13b0 : (((rd_T37 l0 a1).f0) == 7) = true := beq_iff_eq.mpr c13
                    have c13b1 : (((rd_T37 l0 a1).f0) != 7) = false := bne_eq_false_iff_eq.mpr c13
                    clear c13
                    by_cases c14 : a2 = (wrap64 (a1 + 1))
                    · rw [if_pos c14] at H
                      have c14b0 : (a2 == (wrap64 (a1 + 1))) = true := beq_iff_eq.mpr c14
                      have c14b1 : (a2 != (wrap64 (a1 + 1))) = false := bne_eq_false_iff_eq.mpr c14
                      clear c14
                      obtain rfl := Option.some.inj H
                      have p117 : 0 ≤ (a1 : Int) := of_decide_eq_true (by first | (with_reducible assumption) | assumption)
                      have q117 : a1 < (l0.length : Int) := of_decide_eq_true (by first | (with_reducible assumption) | assumption)
                      obtain ⟨ad117, e117, hx117_0, hx117_1, hx117_2, hx117_3, hx117_4⟩ := at_T37 HR0.out a1 p117 q117
                      cases e117
                      replace p117 := eq_true p117
                      replace q117 := eq_true q117
                      have p118 : 0 ≤ (a1 : Int) := of_decide_eq_true (by first | (with_reducible assumption) | assumption)
                      have q118 : a1 < (l0.length : Int) := of_decide_eq_true (by first | (with_reducible assumption) | assumption)
                      obtain ⟨ad118, e118, hx118_0, hx118_1, hx118_2, hx118_3, hx118_4⟩ := at_T37 HR0.out a1 p118 q118
                      obtain rfl : ad117 = ad118 := (by injection e118)
                      replace p118 := eq_true p118
                      replace q118 := eq_true q118
                      go_wp2
                      go_ret
                      exact ⟨by first | rfl | (simp; done) | (simp [*]; done), by repeat (first | exact Drawn0.refl _ | apply Drawn0.step)⟩
                    · rw [if_neg c14] at H
                      have c14b0 : (a2 == (wrap64 (a1 + 1))) = false := beq_eq_false_iff_ne.mpr c14
                      have c14b1 : (a2 != (wrap64 (a1 + 1))) = true := bne_iff_ne.mpr c14
                      obtain rfl := Option.some.inj H
                      have p117 : 0 ≤ (a1 : Int) := of_decide_eq_true (by first | (with_reducible assumption) | assumption)
                      have q117 : a1 < (l0.length : Int) := of_decide_eq_true (by first | (with_reducible assumption) | assumption)
                      obtain ⟨ad117, e117, hx117_0, hx117_1, hx117_2, hx117_3, hx117_4⟩ := at_T37 HR0.out a1 p117 q117
                      cases e117
                      replace p117 := eq_true p117
                      replace q117 := eq_true q117
                      have p118 : 0 ≤ (a1 : Int) := of_decide_eq_true (by first | (with_reducible assumption) | assumption)
                      have q118 : a1 < (l0.length : Int) := of_decide_eq_true (by first | (with_reducible assumption) | assumption)
                      obtain ⟨ad118, e118, hx118_0, hx118_1, hx118_2, hx118_3, hx118_4⟩ := at_T37 HR0.out a1 p118 q118
                      obtain rfl : ad117 = ad118 := (by injection e118)
                      replace p118 := eq_true p118
                      replace q118 := eq_true q118
                      go_wp2
                      go_ret
                      exact ⟨by first | rfl | (simp; done) | (simp [*]; done), by repeat (first | exact Drawn0.refl _ | apply Drawn0.step)⟩
                  · rw [if_neg c13] at H
                    have c13b0 : (((rd_T37 l0 a1).f0) == 7) = false := beq_eq_false_iff_ne.mpr c13
                    have c13b1 : (((rd_T37 l0 a1).f0) != 7) = true := bne_iff_ne.mpr c13
                    obtain rfl := Option.some.inj H
                    have p117 : 0 ≤ (a1 : Int) := of_decide_eq_true (by first | (with_reducible assumption) | assumption)
                    have q117 : a1 < (l0.length : Int) := of_decide_eq_true (by first | (with_reducible assumption) | assumption)
                    obtain ⟨ad117, e117, hx117_0, hx117_1, hx117_2, hx117_3, hx117_4⟩ := at_T37 HR0.out a1 p117 q117
                    cases e117
                    replace p117 := eq_true p117
                    replace q117 := eq_true q117
                    have p118 : 0 ≤ (a1 : Int) := of_decide_eq_true (by first | (with_reducible assumption) | assumption)
                    have q118 : a1 < (l0.length : Int) := of_decide_eq_true (by first | (with_reducible assumption) | assumption)
                    obtain ⟨ad118, e118, hx118_0, hx118_1, hx118_2, hx118_3, hx118_4⟩ := at_T37 HR0.out a1 p118 q118
                    obtain rfl : ad117 = ad118 := (by injection e118)
                    replace p118 := eq_true p118
                    replace q118 := eq_true q118
                    go_wp2
                    go_ret
                    exact ⟨by first | rfl | (simp; done) | (simp [*]; done), by repeat (first | exact Drawn0.refl _ | apply Drawn0.step)⟩
          · rw [if_neg c8] at H
            exact absurd H (by simp)
        · rw [if_neg c7] at H
          exact absurd H (by simp)

/-! ### turnbuckleref16_Next: function 16 -/
def turnbuckleref16_Next.l0 : Nat → List (S37) → Int → List Int → Int → Option (List Int)
  | 0, _, _, _, _ => none
  | k + 1, x0, x1, x5, x6 => if x6 < (x0.length : Int) then ((turnbuckleref16_Follows.f k x0 x1 x6).bind fun t119 => (if t119 = true then (if x5.length < 17592186044416 then (turnbuckleref16_Next.l0 k x0 x1 (x5 ++ [x6]) (wrap64 (x6 + 1))) else (none)) else (turnbuckleref16_Next.l0 k x0 x1 x5 (wrap64 (x6 + 1))))) else (some x5)
def turnbuckleref16_Next.f (k : Nat) (l0 : List (S37)) (a1 : Int) : Option (List Int) := turnbuckleref16_Next.l0 k l0 a1 ([] : List Int) 0
theorem turnbuckleref16_Next.mono_l : ∀ k, (∀ y0 y1 y2 y3, LeO (turnbuckleref16_Next.l0 k y0 y1 y2 y3) (turnbuckleref16_Next.l0 (k + 1) y0 y1 y2 y3))
  | 0 => fun _ _ _ _ r h => by simp [turnbuckleref16_Next.l0] at h
  | k + 1 => by
    have ih0 := turnbuckleref16_Next.mono_l k
    · intro y0 y1 y2 y3
      unfold turnbuckleref16_Next.l0
      repeat' first
      | (with_reducible exact ih0 _ _ _ _)
      | (with_reducible exact turnbuckleref16_Follows.mono _ _ _ _)
      | (with_reducible exact LeO.refl _)
      | (with_reducible exact LeO.none _)
      | (with_reducible refine LeO.ite ?_ ?_)
      | (with_reducible refine LeO.bind ?_ (fun _ => ?_))
      | exact ih0 _ _ _ _
      | exact turnbuckleref16_Follows.mono _ _ _ _
      | exact LeO.none _
      | refine LeO.ite ?_ ?_
      | refine LeO.bind ?_ (fun _ => ?_)
theorem turnbuckleref16_Next.mono : ∀ a0 a1 k, LeO (turnbuckleref16_Next.f k a0 a1) (turnbuckleref16_Next.f (k + 1) a0 a1) := by
  intro a0 a1 k
  have ih0 := turnbuckleref16_Next.mono_l k
  unfold turnbuckleref16_Next.f
  repeat' first
      | (with_reducible exact ih0 _ _ _ _)
      | (with_reducible exact turnbuckleref16_Follows.mono _ _ _ _)
      | (with_reducible exact LeO.refl _)
      | (with_reducible exact LeO.none _)
      | (with_reducible refine LeO.ite ?_ ?_)
      | (with_reducible refine LeO.bind ?_ (fun _ => ?_))
      | exact ih0 _ _ _ _
      | exact turnbuckleref16_Follows.mono _ _ _ _
      | exact LeO.none _
      | refine LeO.ite ?_ ?_
      | refine LeO.bind ?_ (fun _ => ?_)
set_option maxHeartbeats 8000000 in
set_option maxRecDepth 100000 in
theorem turnbuckleref16_Next.calls (k : Nat) (A0 : Option Addr) (c0 : Nat) (l0 : List (S37)) (a1 : Int) (r : List Int) (w : World) (hr0 : Kd.C k37 w A0 l0.length l0) (hc0 : l0.length ≤ c0) (h : turnbuckleref16_Next.f k l0 a1 = some r) :
    Calls Try.prog 16 #[.slice A0 l0.length c0, .int .i64 a1] w fun e w' => ∃ v0_ : Value, e = .returned (v0_) ∧ Kd.R (Kd.int .i64) 3 w' w.heap.size (fun _ => True) v0_ r ∧ Below w.heap.size w w' := by
  have HR0 := Aside0.mk hr0
  have HC0 := Aside0.mk hc0
  clear hr0 hc0
  have HB := Aside0.mk (Below.refl w.heap.size w)
  have H : (turnbuckleref16_Next.l0 k l0 a1 ([] : List Int) 0) = some r := h
  clear h
  have H' := Aside0.mk H
  clear H
  go_enter Try.func16, Try.ntmps16
  go_wp2
  go_loopg [5, 6] k (fun kq v5 v6 w' => ∃ (x5_1 : List Int) (x6_1 : Int), v6 = .int .i64 x6_1 ∧ Aside0 (turnbuckleref16_Next.l0 kq l0 a1 x5_1 x6_1 = some r) ∧ Aside0 (kq ≤ k) ∧ Aside0 (Kd.R (Kd.int .i64) 3 w' w.heap.size (fun _ => True) v5 x5_1) ∧ Aside0 (Below w.heap.size w w'))
  case atStart => exact ⟨(([] : List Int)), (0), (by first | rfl | (simp; done) | (simp [*]; done)), H', ⟨Nat.le_refl _⟩, ⟨by first | exact Kd.R_nil _ _ _ _ _ | exact Kd.N_nil _ _ _ _ _ | exact Kd.V_nil _ _ _ _ _ | exact Kd.Q_nil _ _ _ _ _ | exact Kd.S_nil _ _ _ _ _⟩, ⟨by repeat (first | (with_reducible first | exact HB.out | apply below_alloc | apply pw_below_drewN | apply below_drew1) | exact HB.out)⟩⟩
  case round =>
    clear H'
    try clear c1
    try clear p2
    obtain ⟨x5_1, x6_1, rfl, HA, HK1, HO_5, HB⟩ := hrel
    cases gk with
    | zero => exact absurd HA.out (by simp [turnbuckleref16_Next.l0])
    | succ k1 =>
      have H := HA.out
      clear HA
      simp only [turnbuckleref16_Next.l0] at H
      by_cases c3 : x6_1 < (l0.length : Int)
      · rw [if_pos c3] at H
        have c3b0 : decide (x6_1 < (l0.length : Int)) = true := decide_eq_true c3
        clear c3
        replace H := Option.bind_eq_some_iff.mp H
        obtain ⟨t119, A40, H⟩ := H
        replace H : (if t119 = true then (if x5_1.length < 17592186044416 then (turnbuckleref16_Next.l0 k1 l0 a1 (x5_1 ++ [x6_1]) (wrap64 (x6_1 + 1))) else (none)) else (turnbuckleref16_Next.l0 k1 l0 a1 x5_1 (wrap64 (x6_1 + 1)))) = some r := H
        have A4 := Aside0.mk A40
        clear A40
        by_cases c5 : t119 = true
        · subst c5
          have H1 : (if x5_1.length < 17592186044416 then (turnbuckleref16_Next.l0 k1 l0 a1 (x5_1 ++ [x6_1]) (wrap64 (x6_1 + 1))) else (none)) = some r := by rw [if_pos rfl] at H; exact H
          clear H
          have H := H1
          clear H1
          by_cases c6 : x5_1.length < 17592186044416
          · rw [if_pos c6] at H
            have LMc6 := Aside0.mk c6
            clear c6
            obtain ⟨y120, hy120⟩ : ∃ y_ : List Int, y_ = (x5_1 ++ [x6_1]) := ⟨_, rfl⟩
            replace H : (turnbuckleref16_Next.l0 k1 l0 a1 y120 (wrap64 (x6_1 + 1))) = some r := by first | (rw [hy120]; with_reducible exact H) | (have H2_ := (Option.bind_some _ _).symm.trans H; rw [hy120]; with_reducible exact H2_) | (have H2_ := (Option.bind_some _ _).symm.trans H; with_reducible exact H2_) | with_reducible exact H | (rw [hy120]; exact H) | exact H
            have Ny120 := Aside0.mk hy120
            clear hy120
            have H' := Aside0.mk H
            clear H
            go_wp2_with (first | ((with_reducible refine gate_callee (f := 22) rfl ?_); refine goesL_ (some 16) rfl rfl Try.func22 (by kernel_rfl) rfl #[.slice A0 l0.length c0, .int .i64 a1, .int .i64 x6_1] rfl (by (try simp only [List.map_toArray, List.map_cons, List.map_nil]); first | done | rfl | (simp only [List.length_drop, List.length_take]; rfl)) ?_; (with_reducible refine (turnbuckleref16_Follows.calls k1 _ _ l0 a1 x6_1 true _ ?side1 ?side2 A4.out).mono ?_); (case side1 => repeat (first | exact (Kd.C_below HR0.out HB.out) | (with_reducible refine Kd.C_alloc ?_ _) | (with_reducible refine Kd.C_drewN ?_ _) | (with_reducible refine Kd.C_drew ?_))); (case side2 => exact HC0.out); rintro e w' ⟨rfl, ⟨nd, rfl⟩⟩; refine ⟨_, rfl, ?_⟩) | ((with_reducible refine gate_builtin (b := .append) (xs := #[.tmp 17, .tmp 19]) rfl ?_); at_builtin; refine Kd.R_append (Kd.int .i64) (w0 := w) w.heap.size rfl (.tmp 17) (.tmp 19) 31 3 (.int .i64 0) 8 rfl Try.underlying31 info3 rfl (by decide) (by omega) u5 x5_1 x6_1 [.int .i64 x6_1] (fun _ => True) (fun _ => False) rfl rfl ?aP (fun _ hk => hk.elim) ?aF ?aO ?aB ?aS ?aL ?_; (case aP => exact rfl); (case aB => exact (by repeat (first | (with_reducible first | exact HB.out | apply below_alloc | apply pw_below_drewN | apply below_drew1) | exact HB.out))); (case aF => exact (fun _ _ => trivial)); (case aO => exact (by (with_reducible repeat (first | apply Kd.R_alloc | apply Kd.R_drewN | apply Kd.R_drew)); exact HO_5.out)); (case aS => exact (below_size (by repeat (first | (with_reducible first | exact HB.out | apply below_alloc | apply pw_below_drewN | apply below_drew1) | exact HB.out)))); (case aL => have := LMc6.out; omega); intro v121 w7 ho hb hg hat; rw [← Ny120.out] at ho; have n0_ := Aside0.mk (hb); have n1_ := Aside0.mk (ho); clear HB; clear HO_5; have HB := n0_; have HO122 := n1_; clear n0_ n1_; clear ho hb hg hat))
            go_roundg k1
            case measure => have := HK1.out; omega
            case rel => exact ⟨(y120), (wrap64 (x6_1 + 1)), (by first | rfl | (simp; done) | (simp [*]; done)), H', ⟨by have := HK1.out; omega⟩, ⟨by (with_reducible repeat (first | apply Kd.R_alloc | apply Kd.R_drewN | apply Kd.R_drew)); exact HO122.out⟩, ⟨by repeat (first | (with_reducible first | exact HB.out | apply below_alloc | apply pw_below_drewN | apply below_drew1) | exact HB.out)⟩⟩
          · rw [if_neg c6] at H
            exact absurd H (by simp)
        · replace c5 := Bool.eq_false_iff.mpr c5
          subst c5
          have H1 : (turnbuckleref16_Next.l0 k1 l0 a1 x5_1 (wrap64 (x6_1 + 1))) = some r := by rw [if_neg (show ¬ (false = true) by decide)] at H; exact H
          clear H
          have H := H1
          clear H1
          have H' := Aside0.mk H
          clear H
          go_wp2_with (first | ((with_reducible refine gate_callee (f := 22) rfl ?_); refine goesL_ (some 16) rfl rfl Try.func22 (by kernel_rfl) rfl #[.slice A0 l0.length c0, .int .i64 a1, .int .i64 x6_1] rfl (by (try simp only [List.map_toArray, List.map_cons, List.map_nil]); first | done | rfl | (simp only [List.length_drop, List.length_take]; rfl)) ?_; (with_reducible refine (turnbuckleref16_Follows.calls k1 _ _ l0 a1 x6_1 false _ ?side1 ?side2 A4.out).mono ?_); (case side1 => repeat (first | exact (Kd.C_below HR0.out HB.out) | (with_reducible refine Kd.C_alloc ?_ _) | (with_reducible refine Kd.C_drewN ?_ _) | (with_reducible refine Kd.C_drew ?_))); (case side2 => exact HC0.out); rintro e w' ⟨rfl, ⟨nd, rfl⟩⟩; refine ⟨_, rfl, ?_⟩))
          go_roundg k1
          case measure => have := HK1.out; omega
          case rel => exact ⟨(x5_1), (wrap64 (x6_1 + 1)), (by first | rfl | (simp; done) | (simp [*]; done)), H', ⟨by have := HK1.out; omega⟩, ⟨by (with_reducible repeat (first | apply Kd.R_alloc | apply Kd.R_drewN | apply Kd.R_drew)); exact HO_5.out⟩, ⟨by repeat (first | (with_reducible first | exact HB.out | apply below_alloc | apply pw_below_drewN | apply below_drew1) | exact HB.out)⟩⟩
      · rw [if_neg c3] at H
        have c3b0 : decide (x6_1 < (l0.length : Int)) = false := decide_eq_false c3
        clear c3
        obtain rfl := Option.some.inj H
        go_wp2
        go_ret
        exact ⟨_, by first | rfl | (simp [errW_none, errW_some] <;> rfl) | (simp [*, errW_none, errW_some] <;> rfl), by (with_reducible repeat (first | apply Kd.R_alloc | apply Kd.R_drewN | apply Kd.R_drew)); exact HO_5.out, by repeat (first | (with_reducible first | exact HB.out | apply below_alloc | apply pw_below_drewN | apply below_drew1) | exact HB.out)⟩

end Go.Proofs.Ytaomlfnffnapmaa.PFlowNexts
