/- The pool (layer 2): Take. -/
import Derived.Test.YtbngmkopgoelbaaDoorSlPo2
set_option linter.unusedVariables false
set_option linter.unusedSimpArgs false
namespace Go.Proofs.YtbngmkopgoelbaaDoor
open Go.RowKit

theorem not_word (x : Nat) (hx : x < 18446744073709551616) : bits BinOp.xor IntKind.u64 IntKind.u64.max (x : Int) = ((18446744073709551615 - x : Nat) : Int) := by
  rw [show IntKind.u64.max = ((18446744073709551615 : Nat) : Int) from rfl, u64_xor_nat _ _ (by decide) hx]
  congr 1
  apply Nat.eq_of_testBit_eq
  intro i
  have e : 18446744073709551615 - x = 2 ^ 64 - (x + 1) := by omega
  have e0 : (18446744073709551615 : Nat) = 2 ^ 64 - (0 + 1) := by decide
  rw [Nat.testBit_xor, e, Nat.testBit_two_pow_sub_succ (show x < 2 ^ 64 from hx), e0, Nat.testBit_two_pow_sub_succ (by decide)]
  by_cases h : i < 64
  · simp [h]
  · have : x.testBit i = false := Nat.testBit_lt_two_pow (Nat.lt_of_lt_of_le (show x < 2 ^ 64 from hx) (Nat.pow_le_pow_right (by decide) (show 64 ≤ i by omega)))
    simp [h, this]

theorem Take_low {w : World} {p n : Nat} {f : Nat → Bool} (h : Po w p n f) (T : Tb w) (a : Nat) (ha : a < n) (h64 : a < 64) (hf : f a = false) (hl : ∀ i, i < a → f i = true) :
    Calls Tryd.prog 29 #[.pointer (some ⟨p, 0, none⟩)] w fun e w' => e = .returned (.tuple #[.int .i64 (a : Int), .int .i64 0]) ∧ Po w' p n (fun i => f i || i == a) ∧ w.grownBy w' (some p) := by
  have c0 := h.c0
  have c1 := h.c1
  have fr1 := h.frozen 1
  have HP := Lib.hid h
  have HT := Lib.hid T
  have hn := h.len
  have hn0 : 0 < n := by omega
  have hw := wd_lt64 f
  have hc := wd_ctz f a h64 hf hl
  have hne := wd_not_ne f a h64 hf
  have hs : IntKind.u64.signed = false := rfl
  have hx := not_word _ hw
  have hY : 18446744073709551615 - wd f 64 < 18446744073709551616 := by omega
  generalize 18446744073709551615 - wd f 64 = Y at *
  have hyb : ((Y : Int) != 0) = true := by rw [bne_iff_ne]; omega
  have HC := Lib.hid hc
  have HY := Lib.hid hY
  clear h T hl hc hne hY hw
  have HF := Lib.hid hf
  clear hf
  go_enter Tryd.func29, Tryd.ntmps29
  go_wp2_with fail
  refine wp_loop_rounds 1 ?_
  rw [rounds_succ]
  go_wp2_with fail
  refine (PLen_calls HP.out).mono ?_
  rintro e w' ⟨rfl, rfl⟩
  have hq : (a : Int) % 64 = a := by omega
  go_wp2_with fail
  refine (tz64 Y HY.out _ HT.out).mono ?_
  rintro e w' ⟨rfl, rfl⟩
  rw [HC.out]
  go_wp2
  go_region
  all_goals go_wp2
  all_goals go_ret2
  refine ⟨rfl, ?_, HP.out.grown1 1 _⟩
  rw [set_word f a h64]
  refine HP.out.set1 _ rfl (fun i hi' => ?_) (fun i hi' => ?_)
  · have : (64 + i == a) = false := beq_eq_false_iff_ne.2 (by omega)
    simp [this]
  · have : (i == a) = false := beq_eq_false_iff_ne.2 (by omega)
    simp [HP.out.out i hi', this]

/-- A full word, turned about. -/
theorem full_word (g : Nat → Bool) (h : ∀ i, i < 64 → g i = true) : bits BinOp.xor IntKind.u64 IntKind.u64.max ((wd g 64 : Nat) : Int) = 0 := by
  rw [wd_full g h]
  rfl

set_option maxHeartbeats 400000 in
theorem Take_high {w : World} {p n : Nat} {f : Nat → Bool} (h : Po w p n f) (T : Tb w) (r : Nat) (ha : 64 + r < n) (hf : f (64 + r) = false) (hl : ∀ i, i < 64 + r → f i = true) :
    Calls Tryd.prog 29 #[.pointer (some ⟨p, 0, none⟩)] w fun e w' => e = .returned (.tuple #[.int .i64 ((64 + r : Nat) : Int), .int .i64 0]) ∧ Po w' p n (fun i => f i || i == 64 + r) ∧ w.grownBy w' (some p) := by
  have c0 := h.c0
  have c1 := h.c1
  have c2 := h.c2
  have fr2 := h.frozen 2
  have HP := Lib.hid h
  have HT := Lib.hid T
  have hn := h.len
  have hn0 : 0 < n := by omega
  have hn1 : 64 < n := by omega
  have hw := wd_lt64 (hi f)
  have hr : r < 64 := by omega
  have hc := wd_ctz (hi f) r hr hf (fun i hi' => hl (64 + i) (by omega))
  have hne := wd_not_ne (hi f) r hr hf
  have hs : IntKind.u64.signed = false := rfl
  have hx0 := full_word f (fun i hi' => hl i (by omega))
  have hx := not_word _ hw
  have hY : 18446744073709551615 - wd (hi f) 64 < 18446744073709551616 := by omega
  generalize 18446744073709551615 - wd (hi f) 64 = Y at *
  have hyb : ((Y : Int) != 0) = true := by rw [bne_iff_ne]; omega
  have HC := Lib.hid hc
  have HY := Lib.hid hY
  clear h T hl hc hne hY hw
  have HF := Lib.hid hf
  clear hf
  have hq : (64 + (r : Int)) % 64 = (r : Int) := by omega
  go_enter Tryd.func29, Tryd.ntmps29
  go_wp2_with fail
  refine wp_loop_rounds 2 ?_
  rw [rounds_succ]
  go_wp2_with fail
  refine (PLen_calls HP.out).mono ?_
  rintro e w' ⟨rfl, rfl⟩
  go_wp2_with fail
  refine (tz64 0 (by decide) _ HT.out).mono ?_
  rintro e w' ⟨rfl, rfl⟩
  rw [show Lib.ctz 64 0 = 64 from rfl]
  go_wp2_with fail
  rw [rounds_succ]
  go_wp2_with fail
  refine (PLen_calls HP.out).mono ?_
  rintro e w' ⟨rfl, rfl⟩
  go_wp2_with fail
  refine (tz64 Y HY.out _ HT.out).mono ?_
  rintro e w' ⟨rfl, rfl⟩
  rw [HC.out]
  go_wp2
  go_region
  all_goals go_wp2
  all_goals go_ret2
  refine ⟨rfl, ?_, HP.out.grown1 2 _⟩
  rw [set_word (hi f) r hr]
  refine HP.out.set2 _ ?_ (fun i hi' => ?_) (fun i hi' => ?_)
  · congr 2
    funext i
    have : (64 + i == 64 + r) = (i == r) := by rw [Bool.eq_iff_iff, beq_iff_eq, beq_iff_eq]; omega
    simp [hi, this]
  · have : (i == 64 + r) = false := beq_eq_false_iff_ne.2 (by omega)
    simp [this]
  · have : (i == 64 + r) = false := beq_eq_false_iff_ne.2 (by omega)
    simp [HP.out.out i hi', this]

set_option maxHeartbeats 400000 in
theorem Take_full {w : World} {p n : Nat} {f : Nat → Bool} (h : Po w p n f) (T : Tb w) (hl : ∀ i, i < n → f i = true) :
    Calls Tryd.prog 29 #[.pointer (some ⟨p, 0, none⟩)] w fun e w' => e = .returned (.tuple #[.int .i64 0, .int .i64 5]) ∧ w = w' := by
  have c0 := h.c0
  have c1 := h.c1
  have c2 := h.c2
  have HP := Lib.hid h
  have HT := Lib.hid T
  have hn := h.len
  have hs : IntKind.u64.signed = false := rfl
  have HL := Lib.hid hl
  clear h T hl
  rcases Nat.eq_zero_or_pos n with rfl | hn0
  · go_enter Tryd.func29, Tryd.ntmps29
    go_wp2_with fail
    refine wp_loop_rounds 1 ?_
    rw [rounds_succ]
    go_wp2_with fail
    refine (PLen_calls HP.out).mono ?_
    rintro e w' ⟨rfl, rfl⟩
    go_wp2
    go_ret2
    exact ⟨rfl, rfl⟩
  by_cases hn1 : n < 64
  · have hw := wd_lt64 f
    have hc := wd_ctz f n hn1 (HP.out.out n (Nat.le_refl _)) HL.out
    have hne := wd_not_ne f n hn1 (HP.out.out n (Nat.le_refl _))
    have hx := not_word _ hw
    have hY : 18446744073709551615 - wd f 64 < 18446744073709551616 := by omega
    generalize 18446744073709551615 - wd f 64 = Y at *
    have hyb : ((Y : Int) != 0) = true := by rw [bne_iff_ne]; omega
    have HC := Lib.hid hc
    have HY := Lib.hid hY
    clear hc hne hY hw
    go_enter Tryd.func29, Tryd.ntmps29
    go_wp2_with fail
    refine wp_loop_rounds 2 ?_
    rw [rounds_succ]
    go_wp2_with fail
    refine (PLen_calls HP.out).mono ?_
    rintro e w' ⟨rfl, rfl⟩
    go_wp2_with fail
    refine (tz64 Y HY.out _ HT.out).mono ?_
    rintro e w' ⟨rfl, rfl⟩
    rw [HC.out]
    go_wp2_with fail
    rw [rounds_succ]
    go_wp2_with fail
    refine (PLen_calls HP.out).mono ?_
    rintro e w' ⟨rfl, rfl⟩
    go_wp2
    go_ret2
    exact ⟨rfl, rfl⟩
  by_cases hn2 : n = 64
  · subst hn2
    have hx0 := full_word f HL.out
    go_enter Tryd.func29, Tryd.ntmps29
    go_wp2_with fail
    refine wp_loop_rounds 2 ?_
    rw [rounds_succ]
    go_wp2_with fail
    refine (PLen_calls HP.out).mono ?_
    rintro e w' ⟨rfl, rfl⟩
    go_wp2_with fail
    refine (tz64 0 (by decide) _ HT.out).mono ?_
    rintro e w' ⟨rfl, rfl⟩
    rw [show Lib.ctz 64 0 = 64 from rfl]
    go_wp2_with fail
    rw [rounds_succ]
    go_wp2_with fail
    refine (PLen_calls HP.out).mono ?_
    rintro e w' ⟨rfl, rfl⟩
    go_wp2
    go_ret2
    exact ⟨rfl, rfl⟩
  have hx0 := full_word f (fun i hi' => HL.out i (by omega))
  have hn3 : 64 < n := by omega
  by_cases hn4 : n = 128
  · subst hn4
    have hx1 := full_word (hi f) (fun i hi' => HL.out (64 + i) (by omega))
    clear hn1 hn2
    go_enter Tryd.func29, Tryd.ntmps29
    go_wp2_with fail
    refine wp_loop_rounds 3 ?_
    rw [rounds_succ]
    go_wp2_with fail
    refine (PLen_calls HP.out).mono ?_
    rintro e w' ⟨rfl, rfl⟩
    go_wp2_with fail
    refine (tz64 0 (by decide) _ HT.out).mono ?_
    rintro e w' ⟨rfl, rfl⟩
    rw [show Lib.ctz 64 0 = 64 from rfl]
    go_wp2_with fail
    rw [rounds_succ]
    go_wp2_with fail
    refine (PLen_calls HP.out).mono ?_
    rintro e w' ⟨rfl, rfl⟩
    go_wp2_with fail
    refine (tz64 0 (by decide) _ HT.out).mono ?_
    rintro e w' ⟨rfl, rfl⟩
    rw [show Lib.ctz 64 0 = 64 from rfl]
    go_wp2_with fail
    rw [rounds_succ]
    go_wp2_with fail
    refine (PLen_calls HP.out).mono ?_
    rintro e w' ⟨rfl, rfl⟩
    go_wp2
    go_ret2
    exact ⟨rfl, rfl⟩
  · have hr : n - 64 < 64 := by omega
    have hw := wd_lt64 (hi f)
    have hc := wd_ctz (hi f) (n - 64) hr (HP.out.out _ (by omega)) (fun i hi' => HL.out (64 + i) (by omega))
    have hne := wd_not_ne (hi f) (n - 64) hr (HP.out.out _ (by omega))
    have hx := not_word _ hw
    have hY : 18446744073709551615 - wd (hi f) 64 < 18446744073709551616 := by omega
    generalize 18446744073709551615 - wd (hi f) 64 = Y at *
    have hyb : ((Y : Int) != 0) = true := by rw [bne_iff_ne]; omega
    obtain ⟨r, rfl⟩ : ∃ r, n = 64 + r := ⟨n - 64, by omega⟩
    rw [Nat.add_sub_cancel_left] at hc
    have HC := Lib.hid hc
    have HY := Lib.hid hY
    clear hc hne hY hw hn1 hn2 hn4
    go_enter Tryd.func29, Tryd.ntmps29
    go_wp2_with fail
    refine wp_loop_rounds 3 ?_
    rw [rounds_succ]
    go_wp2_with fail
    refine (PLen_calls HP.out).mono ?_
    rintro e w' ⟨rfl, rfl⟩
    go_wp2_with fail
    refine (tz64 0 (by decide) _ HT.out).mono ?_
    rintro e w' ⟨rfl, rfl⟩
    rw [show Lib.ctz 64 0 = 64 from rfl]
    go_wp2_with fail
    rw [rounds_succ]
    go_wp2_with fail
    refine (PLen_calls HP.out).mono ?_
    rintro e w' ⟨rfl, rfl⟩
    go_wp2_with fail
    refine (tz64 Y HY.out _ HT.out).mono ?_
    rintro e w' ⟨rfl, rfl⟩
    rw [HC.out]
    go_wp2_with fail
    rw [rounds_succ]
    go_wp2_with fail
    refine (PLen_calls HP.out).mono ?_
    rintro e w' ⟨rfl, rfl⟩
    go_wp2
    go_ret2
    exact ⟨rfl, rfl⟩

theorem Take_at {w : World} {p n : Nat} {f : Nat → Bool} (h : Po w p n f) (T : Tb w) (a : Nat) (ha : a < n) (hf : f a = false) (hl : ∀ i, i < a → f i = true) :
    Calls Tryd.prog 29 #[.pointer (some ⟨p, 0, none⟩)] w fun e w' => e = .returned (.tuple #[.int .i64 (a : Int), .int .i64 0]) ∧ Po w' p n (fun i => f i || i == a) ∧ w.grownBy w' (some p) := by
  by_cases h64 : a < 64
  · exact Take_low h T a ha h64 hf hl
  · obtain ⟨r, rfl⟩ : ∃ r, a = 64 + r := ⟨a - 64, by omega⟩
    exact Take_high h T r ha hf hl

theorem Take_nil (w : World) :
    Calls Tryd.prog 29 #[.pointer none] w fun e w' => e = .returned (.tuple #[.int .i64 0, .int .i64 5]) ∧ w = w' := by
  go_enter Tryd.func29, Tryd.ntmps29
  go_wp2_with fail
  refine wp_loop_rounds 1 ?_
  rw [rounds_succ]
  go_wp2_with fail
  refine (PLen_nil _).mono ?_
  rintro e w' ⟨rfl, rfl⟩
  go_wp2
  go_ret2
  exact ⟨rfl, rfl⟩

theorem Give_nil (page : Int) (w : World) :
    Calls Tryd.prog 36 #[.pointer none, .int .i64 page] w fun e w' => e = .returned (.int .i64 1) ∧ w = w' := by
  by_cases h0 : page < 0
  · go_enter Tryd.func36, Tryd.ntmps36
    go_wp2
    go_ret
    exact ⟨rfl, rfl⟩
  · go_enter Tryd.func36, Tryd.ntmps36
    go_wp2_with fail
    refine (PLen_nil _).mono ?_
    rintro e w' ⟨rfl, rfl⟩
    go_wp2
    go_ret
    exact ⟨rfl, rfl⟩
end Go.Proofs.YtbngmkopgoelbaaDoor
