import Derived.Test.YtlomgbackphmmaaDoorPInsnReadsx0
namespace Go.Proofs.YtlomgbackphmmaaDoor.PInsnReads
open Go.RowKit Go.Proofs.YtlomgbackphmmaaDoorW.PrintWords Go.Proofs.YtlomgbackphmmaaDoorW.PrintLast Go.Proofs.YtlomgbackphmmaaDoorW.PrintMore
attribute [local go_sem] max2_int min2_int max_two min_two max_three min_three max_four min_four   -- for this text's walks alone
set_option linter.unusedVariables false
set_option linter.unusedSimpArgs false

/-! ### turnbuckleref06_Parts: function 25 -/
def turnbuckleref06_Parts.f (a0 : Int) : Option (ByteArray × ByteArray) := if a0 = 1 then (some ((⟨#[109, 111, 118]⟩ : ByteArray), (⟨#[65, 114, 66, 114]⟩ : ByteArray))) else (if a0 = 2 then (some ((⟨#[105, 109, 109]⟩ : ByteArray), (⟨#[65, 114, 73, 110]⟩ : ByteArray))) else (if a0 = 3 then (some ((⟨#[]⟩ : ByteArray), (⟨#[65, 114, 66, 114]⟩ : ByteArray))) else (if a0 = 4 then (some ((⟨#[105]⟩ : ByteArray), (⟨#[65, 114, 73, 110]⟩ : ByteArray))) else (if a0 = 5 then (some ((⟨#[106, 109, 112]⟩ : ByteArray), (⟨#[73, 43]⟩ : ByteArray))) else (if a0 = 6 then (some ((⟨#[106]⟩ : ByteArray), (⟨#[65, 114, 66, 114, 73, 43]⟩ : ByteArray))) else (if a0 = 7 then (some ((⟨#[106, 105]⟩ : ByteArray), (⟨#[65, 114, 66, 110, 73, 43]⟩ : ByteArray))) else (if a0 = 8 then (some ((⟨#[115, 97, 118, 101]⟩ : ByteArray), (⟨#[67, 115, 65, 114]⟩ : ByteArray))) else (if a0 = 9 then (some ((⟨#[108, 111, 97, 100]⟩ : ByteArray), (⟨#[65, 114, 67, 115]⟩ : ByteArray))) else (if a0 = 10 then (some ((⟨#[103, 101, 116]⟩ : ByteArray), (⟨#[65, 114, 66, 114, 67, 102, 73, 110]⟩ : ByteArray))) else (if a0 = 11 then (some ((⟨#[103, 101, 116, 120]⟩ : ByteArray), (⟨#[65, 114, 66, 114, 67, 102, 73, 120]⟩ : ByteArray))) else (if a0 = 12 then (some ((⟨#[112, 117, 116]⟩ : ByteArray), (⟨#[66, 114, 67, 102, 73, 110, 65, 114]⟩ : ByteArray))) else (if a0 = 13 then (some ((⟨#[112, 117, 116, 120]⟩ : ByteArray), (⟨#[66, 114, 67, 102, 73, 120, 65, 114]⟩ : ByteArray))) else (if a0 = 14 then (some ((⟨#[99, 97, 108, 108]⟩ : ByteArray), (⟨#[67, 119, 73, 110]⟩ : ByteArray))) else (some ((⟨#[101, 120, 105, 116]⟩ : ByteArray), (⟨#[]⟩ : ByteArray))))))))))))))))
set_option maxHeartbeats 8000000 in
set_option maxRecDepth 100000 in
theorem turnbuckleref06_Parts.calls (a0 : Int) (r1 : ByteArray) (r2 : ByteArray) (w : World) (h : turnbuckleref06_Parts.f a0 = some (r1, r2)) :
    Calls Tryd.prog 25 #[.int .i64 a0] w fun e w' => e = .returned (.tuple #[.string r1, .string r2]) ∧ Drawn0 w w' := by
  have H : (if a0 = 1 then (some ((⟨#[109, 111, 118]⟩ : ByteArray), (⟨#[65, 114, 66, 114]⟩ : ByteArray))) else (if a0 = 2 then (some ((⟨#[105, 109, 109]⟩ : ByteArray), (⟨#[65, 114, 73, 110]⟩ : ByteArray))) else (if a0 = 3 then (some ((⟨#[]⟩ : ByteArray), (⟨#[65, 114, 66, 114]⟩ : ByteArray))) else (if a0 = 4 then (some ((⟨#[105]⟩ : ByteArray), (⟨#[65, 114, 73, 110]⟩ : ByteArray))) else (if a0 = 5 then (some ((⟨#[106, 109, 112]⟩ : ByteArray), (⟨#[73, 43]⟩ : ByteArray))) else (if a0 = 6 then (some ((⟨#[106]⟩ : ByteArray), (⟨#[65, 114, 66, 114, 73, 43]⟩ : ByteArray))) else (if a0 = 7 then (some ((⟨#[106, 105]⟩ : ByteArray), (⟨#[65, 114, 66, 110, 73, 43]⟩ : ByteArray))) else (if a0 = 8 then (some ((⟨#[115, 97, 118, 101]⟩ : ByteArray), (⟨#[67, 115, 65, 114]⟩ : ByteArray))) else (if a0 = 9 then (some ((⟨#[108, 111, 97, 100]⟩ : ByteArray), (⟨#[65, 114, 67, 115]⟩ : ByteArray))) else (if a0 = 10 then (some ((⟨#[103, 101, 116]⟩ : ByteArray), (⟨#[65, 114, 66, 114, 67, 102, 73, 110]⟩ : ByteArray))) else (if a0 = 11 then (some ((⟨#[103, 101, 116, 120]⟩ : ByteArray), (⟨#[65, 114, 66, 114, 67, 102, 73, 120]⟩ : ByteArray))) else (if a0 = 12 then (some ((⟨#[112, 117, 116]⟩ : ByteArray), (⟨#[66, 114, 67, 102, 73, 110, 65, 114]⟩ : ByteArray))) else (if a0 = 13 then (some ((⟨#[112, 117, 116, 120]⟩ : ByteArray), (⟨#[66, 114, 67, 102, 73, 120, 65, 114]⟩ : ByteArray))) else (if a0 = 14 then (some ((⟨#[99, 97, 108, 108]⟩ : ByteArray), (⟨#[67, 119, 73, 110]⟩ : ByteArray))) else (some ((⟨#[101, 120, 105, 116]⟩ : ByteArray), (⟨#[]⟩ : ByteArray))))))))))))))))) = some (r1, r2) := h
  clear h
  by_cases c2 : a0 = 1
  · rw [if_pos c2] at H
    have c2b0 : (a0 == 1) = true := beq_iff_eq.mpr c2
    have c2b1 : (a0 != 1) = false := bne_eq_false_iff_eq.mpr c2
    clear c2
    simp only [Option.some.injEq, Prod.mk.injEq] at H
    obtain ⟨rfl, rfl⟩ := H
    go_enter Tryd.func25, Tryd.ntmps25
    go_wp2
    go_ret2
    exact ⟨by first | rfl | (simp; done) | (simp [*]; done), by repeat (first | exact Drawn0.refl _ | apply Drawn0.step)⟩
  · rw [if_neg c2] at H
    have c2b0 : (a0 == 1) = false := beq_eq_false_iff_ne.mpr c2
    have c2b1 : (a0 != 1) = true := bne_iff_ne.mpr c2
    by_cases c3 : a0 = 2
    · rw [if_pos c3] at H
      have c3b0 : (a0 == 2) = true := beq_iff_eq.mpr c3
      have c3b1 : (a0 != 2) = false := bne_eq_false_iff_eq.mpr c3
      clear c3
      simp only [Option.some.injEq, Prod.mk.injEq] at H
      obtain ⟨rfl, rfl⟩ := H
      go_enter Tryd.func25, Tryd.ntmps25
      go_wp2
      go_ret2
      exact ⟨by first | rfl | (simp; done) | (simp [*]; done), by repeat (first | exact Drawn0.refl _ | apply Drawn0.step)⟩
    · rw [if_neg c3] at H
      have c3b0 : (a0 == 2) = false := beq_eq_false_iff_ne.mpr c3
      have c3b1 : (a0 != 2) = true := bne_iff_ne.mpr c3
      by_cases c4 : a0 = 3
      · rw [if_pos c4] at H
        have c4b0 : (a0 == 3) = true := beq_iff_eq.mpr c4
        have c4b1 : (a0 != 3) = false := bne_eq_false_iff_eq.mpr c4
        clear c4
        simp only [Option.some.injEq, Prod.mk.injEq] at H
        obtain ⟨rfl, rfl⟩ := H
        go_enter Tryd.func25, Tryd.ntmps25
        go_wp2
        go_ret2
        exact ⟨by first | rfl | (simp; done) | (simp [*]; done), by repeat (first | exact Drawn0.refl _ | apply Drawn0.step)⟩
      · rw [if_neg c4] at H
        have c4b0 : (a0 == 3) = false := beq_eq_false_iff_ne.mpr c4
        have c4b1 : (a0 != 3) = true := bne_iff_ne.mpr c4
        by_cases c5 : a0 = 4
        · rw [if_pos c5] at H
          have c5b0 : (a0 == 4) = true := beq_iff_eq.mpr c5
          have c5b1 : (a0 != 4) = false := bne_eq_false_iff_eq.mpr c5
          clear c5
          simp only [Option.some.injEq, Prod.mk.injEq] at H
          obtain ⟨rfl, rfl⟩ := H
          go_enter Tryd.func25, Tryd.ntmps25
          go_wp2
          go_ret2
          exact ⟨by first | rfl | (simp; done) | (simp [*]; done), by repeat (first | exact Drawn0.refl _ | apply Drawn0.step)⟩
        · rw [if_neg c5] at H
          have c5b0 : (a0 == 4) = false := beq_eq_false_iff_ne.mpr c5
          have c5b1 : (a0 != 4) = true := bne_iff_ne.mpr c5
          by_cases c6 : a0 = 5
          · rw [if_pos c6] at H
            have c6b0 : (a0 == 5) = true := beq_iff_eq.mpr c6
            have c6b1 : (a0 != 5) = false := bne_eq_false_iff_eq.mpr c6
            clear c6
            simp only [Option.some.injEq, Prod.mk.injEq] at H
            obtain ⟨rfl, rfl⟩ := H
            go_enter Tryd.func25, Tryd.ntmps25
            go_wp2
            go_ret2
            exact ⟨by first | rfl | (simp; done) | (simp [*]; done), by repeat (first | exact Drawn0.refl _ | apply Drawn0.step)⟩
          · rw [if_neg c6] at H
            have c6b0 : (a0 == 5) = false := beq_eq_false_iff_ne.mpr c6
            have c6b1 : (a0 != 5) = true := bne_iff_ne.mpr c6
            by_cases c7 : a0 = 6
            · rw [if_pos c7] at H
              have c7b0 : (a0 == 6) = true := beq_iff_eq.mpr c7
              have c7b1 : (a0 != 6) = false := bne_eq_false_iff_eq.mpr c7
              clear c7
              simp only [Option.some.injEq, Prod.mk.injEq] at H
              obtain ⟨rfl, rfl⟩ := H
              go_enter Tryd.func25, Tryd.ntmps25
              go_wp2
              go_ret2
              exact ⟨by first | rfl | (simp; done) | (simp [*]; done), by repeat (first | exact Drawn0.refl _ | apply Drawn0.step)⟩
            · rw [if_neg c7] at H
              have c7b0 : (a0 == 6) = false := beq_eq_false_iff_ne.mpr c7
              have c7b1 : (a0 != 6) = true := bne_iff_ne.mpr c7
              by_cases c8 : a0 = 7
              · rw [if_pos c8] at H
                have c8b0 : (a0 == 7) = true := beq_iff_eq.mpr c8
                have c8b1 : (a0 != 7) = false := bne_eq_false_iff_eq.mpr c8
                clear c8
                simp only [Option.some.injEq, Prod.mk.injEq] at H
                obtain ⟨rfl, rfl⟩ := H
                go_enter Tryd.func25, Tryd.ntmps25
                go_wp2
                go_ret2
                exact ⟨by first | rfl | (simp; done) | (simp [*]; done), by repeat (first | exact Drawn0.refl _ | apply Drawn0.step)⟩
              · rw [if_neg c8] at H
                have c8b0 : (a0 == 7) = false := beq_eq_false_iff_ne.mpr c8
                have c8b1 : (a0 != 7) = true := bne_iff_ne.mpr c8
                by_cases c9 : a0 = 8
                · rw [if_pos c9] at H
                  have c9b0 : (a0 == 8) = true := beq_iff_eq.mpr c9
                  have c9b1 : (a0 != 8) = false := bne_eq_false_iff_eq.mpr c9
                  clear c9
                  simp only [Option.some.injEq, Prod.mk.injEq] at H
                  obtain ⟨rfl, rfl⟩ := H
                  go_enter Tryd.func25, Tryd.ntmps25
                  go_wp2
                  go_ret2
                  exact ⟨by first | rfl | (simp; done) | (simp [*]; done), by repeat (first | exact Drawn0.refl _ | apply Drawn0.step)⟩
                · rw [if_neg c9] at H
                  have c9b0 : (a0 == 8) = false := beq_eq_false_iff_ne.mpr c9
                  have c9b1 : (a0 != 8) = true := bne_iff_ne.mpr c9
                  by_cases c10 : a0 = 9
                  · rw [if_pos c10] at H
                    have c10b0 : (a0 == 9) = true := beq_iff_eq.mpr c10
                    have c10b1 : (a0 != 9) = false := bne_eq_false_iff_eq.mpr c10
                    clear c10
                    simp only [Option.some.injEq, Prod.mk.injEq] at H
                    obtain ⟨rfl, rfl⟩ := H
                    go_enter Tryd.func25, Tryd.ntmps25
                    go_wp2
                    go_ret2
                    exact ⟨by first | rfl | (simp; done) | (simp [*]; done), by repeat (first | exact Drawn0.refl _ | apply Drawn0.step)⟩
                  · rw [if_neg c10] at H
                    have c10b0 : (a0 == 9) = false := beq_eq_false_iff_ne.mpr c10
                    have c10b1 : (a0 != 9) = true := bne_iff_ne.mpr c10
                    by_cases c11 : a0 = 10
                    · rw [if_pos c11] at H
                      have c11b0 : (a0 == 10) = true := beq_iff_eq.mpr c11
                      have c11b1 : (a0 != 10) = false := bne_eq_false_iff_eq.mpr c11
                      clear c11
                      simp only [Option.some.injEq, Prod.mk.injEq] at H
                      obtain ⟨rfl, rfl⟩ := H
                      go_enter Tryd.func25, Tryd.ntmps25
                      go_wp2
                      go_ret2
                      exact ⟨by first | rfl | (simp; done) | (simp [*]; done), by repeat (first | exact Drawn0.refl _ | apply Drawn0.step)⟩
                    · rw [if_neg c11] at H
                      have c11b0 : (a0 == 10) = false := beq_eq_false_iff_ne.mpr c11
                      have c11b1 : (a0 != 10) = true := bne_iff_ne.mpr c11
                      by_cases c12 : a0 = 11
                      · rw [if_pos c12] at H
                        have c12b0 : (a0 == 11) = true := beq_iff_eq.mpr c12
                        have c12b1 : (a0 != 11) = false := bne_eq_false_iff_eq.mpr c12
                        clear c12
                        simp only [Option.some.injEq, Prod.mk.injEq] at H
                        obtain ⟨rfl, rfl⟩ := H
                        go_enter Tryd.func25, Tryd.ntmps25
                        go_wp2
                        go_ret2
                        exact ⟨by first | rfl | (simp; done) | (simp [*]; done), by repeat (first | exact Drawn0.refl _ | apply Drawn0.step)⟩
                      · rw [if_neg c12] at H
                        have c12b0 : (a0 == 11) = false := beq_eq_false_iff_ne.mpr c12
                        have c12b1 : (a0 != 11) = true := bne_iff_ne.mpr c12
                        by_cases c13 : a0 = 12
                        · rw [if_pos c13] at H
                          have c13b0 : (a0 == 12) = true := beq_iff_eq.mpr c13
                          have c13b1 : (a0 != 12) = false := bne_eq_false_iff_eq.mpr c13
                          clear c13
                          simp only [Option.some.injEq, Prod.mk.injEq] at H
                          obtain ⟨rfl, rfl⟩ := H
                          go_enter Tryd.func25, Tryd.ntmps25
                          go_wp2
                          go_ret2
                          exact ⟨by first | rfl | (simp; done) | (simp [*]; done), by repeat (first | exact Drawn0.refl _ | apply Drawn0.step)⟩
                        · rw [if_neg c13] at H
                          have c13b0 : (a0 == 12) = false := beq_eq_false_iff_ne.mpr c13
                          have c13b1 : (a0 != 12) = true := bne_iff_ne.mpr c13
                          by_cases c14 : a0 = 13
                          · rw [if_pos c14] at H
                            have c14b0 : (a0 == 13) = true := beq_iff_eq.mpr c14
                            have c14b1 : (a0 != 13) = false := bne_eq_false_iff_eq.mpr c14
                            clear c14
                            simp only [Option.some.injEq, Prod.mk.injEq] at H
                            obtain ⟨rfl, rfl⟩ := H
                            go_enter Tryd.func25, Tryd.ntmps25
                            go_wp2
                            go_ret2
                            exact ⟨by first | rfl | (simp; done) | (simp [*]; done), by repeat (first | exact Drawn0.refl _ | apply Drawn0.step)⟩
                          · rw [if_neg c14] at H
                            have c14b0 : (a0 == 13) = false := beq_eq_false_iff_ne.mpr c14
                            have c14b1 : (a0 != 13) = true := bne_iff_ne.mpr c14
                            by_cases c15 : a0 = 14
                            · rw [if_pos c15] at H
                              have c15b0 : (a0 == 14) = true := beq_iff_eq.mpr c15
                              have c15b1 : (a0 != 14) = false := bne_eq_false_iff_eq.mpr c15
                              clear c15
                              simp only [Option.some.injEq, Prod.mk.injEq] at H
                              obtain ⟨rfl, rfl⟩ := H
                              go_enter Tryd.func25, Tryd.ntmps25
                              go_wp2
                              go_ret2
                              exact ⟨by first | rfl | (simp; done) | (simp [*]; done), by repeat (first | exact Drawn0.refl _ | apply Drawn0.step)⟩
                            · rw [if_neg c15] at H
                              have c15b0 : (a0 == 14) = false := beq_eq_false_iff_ne.mpr c15
                              have c15b1 : (a0 != 14) = true := bne_iff_ne.mpr c15
                              simp only [Option.some.injEq, Prod.mk.injEq] at H
                              obtain ⟨rfl, rfl⟩ := H
                              go_enter Tryd.func25, Tryd.ntmps25
                              go_wp2
                              go_ret2
                              exact ⟨by first | rfl | (simp; done) | (simp [*]; done), by repeat (first | exact Drawn0.refl _ | apply Drawn0.step)⟩

/-! ### turnbuckleref06_Words: function 26 -/
mutual
def turnbuckleref06_Words.j0 : Nat → Int → Bool → Option (List ByteArray)
  | 0, _, _ => none
  | k + 1, x0, x8 => if x8 = true then (some (([(⟨#[97, 100, 100]⟩ : ByteArray), (⟨#[115, 117, 98]⟩ : ByteArray), (⟨#[109, 117, 108]⟩ : ByteArray), (⟨#[100, 105, 118]⟩ : ByteArray), (⟨#[109, 111, 100]⟩ : ByteArray), (⟨#[97, 110, 100]⟩ : ByteArray), (⟨#[111, 114]⟩ : ByteArray), (⟨#[120, 111, 114]⟩ : ByteArray), (⟨#[115, 104, 108]⟩ : ByteArray), (⟨#[115, 104, 114]⟩ : ByteArray), (⟨#[115, 97, 114]⟩ : ByteArray)] : List ByteArray))) else (if x0 = 6 then (turnbuckleref06_Words.j1 k x0 true) else (turnbuckleref06_Words.j1 k x0 (x0 == 7)))
def turnbuckleref06_Words.j1 : Nat → Int → Bool → Option (List ByteArray)
  | 0, _, _ => none
  | k + 1, x0, x15 => if x15 = true then (some (([(⟨#[101, 113]⟩ : ByteArray), (⟨#[110, 101]⟩ : ByteArray), (⟨#[108, 116]⟩ : ByteArray), (⟨#[108, 101]⟩ : ByteArray), (⟨#[103, 116]⟩ : ByteArray), (⟨#[103, 101]⟩ : ByteArray), (⟨#[115, 108, 116]⟩ : ByteArray), (⟨#[115, 103, 101]⟩ : ByteArray), (⟨#[115, 101, 116]⟩ : ByteArray)] : List ByteArray))) else (if x0 = 14 then (some (([(⟨#[110, 101, 119]⟩ : ByteArray), (⟨#[100, 114, 111, 112]⟩ : ByteArray), (⟨#[97, 99, 113, 117, 105, 114, 101]⟩ : ByteArray), (⟨#[108, 111, 111, 107, 117, 112]⟩ : ByteArray), (⟨#[105, 110, 115, 101, 114, 116]⟩ : ByteArray), (⟨#[100, 101, 108, 101, 116, 101]⟩ : ByteArray), (⟨#[108, 111, 99, 107]⟩ : ByteArray), (⟨#[117, 110, 108, 111, 99, 107]⟩ : ByteArray), (⟨#[112, 117, 115, 104, 102, 114, 111, 110, 116]⟩ : ByteArray), (⟨#[112, 117, 115, 104, 98, 97, 99, 107]⟩ : ByteArray), (⟨#[112, 111, 112, 102, 114, 111, 110, 116]⟩ : ByteArray), (⟨#[112, 111, 112, 98, 97, 99, 107]⟩ : ByteArray), (⟨#[102, 114, 111, 110, 116]⟩ : ByteArray), (⟨#[116, 114, 101, 101, 97, 100, 100]⟩ : ByteArray), (⟨#[116, 114, 101, 101, 102, 105, 114, 115, 116]⟩ : ByteArray), (⟨#[116, 114, 101, 101, 108, 101, 102, 116]⟩ : ByteArray), (⟨#[116, 114, 101, 101, 114, 105, 103, 104, 116]⟩ : ByteArray), (⟨#[116, 114, 101, 101, 103, 111, 110, 101]⟩ : ByteArray), (⟨#[115, 119, 97, 112]⟩ : ByteArray), (⟨#[112, 101, 101, 107]⟩ : ByteArray), (⟨#[114, 99, 117, 108, 111, 99, 107]⟩ : ByteArray), (⟨#[114, 99, 117, 117, 110, 108, 111, 99, 107]⟩ : ByteArray)] : List ByteArray))) else (some ([] : List ByteArray)))
end
def turnbuckleref06_Words.f (k : Nat) (a0 : Int) : Option (List ByteArray) := if a0 = 3 then (turnbuckleref06_Words.j0 k a0 true) else (turnbuckleref06_Words.j0 k a0 (a0 == 4))
theorem turnbuckleref06_Words.mono_l : ∀ k, (∀ y0 y1, LeO (turnbuckleref06_Words.j0 k y0 y1) (turnbuckleref06_Words.j0 (k + 1) y0 y1)) ∧ (∀ y0 y1, LeO (turnbuckleref06_Words.j1 k y0 y1) (turnbuckleref06_Words.j1 (k + 1) y0 y1))
  | 0 => ⟨fun _ _ r h => by simp [turnbuckleref06_Words.j0] at h, fun _ _ r h => by simp [turnbuckleref06_Words.j1] at h⟩
  | k + 1 => by
    obtain ⟨ih0, ih1⟩ := turnbuckleref06_Words.mono_l k
    refine ⟨?_, ?_⟩
    · intro y0 y1
      unfold turnbuckleref06_Words.j0
      repeat' first
      | (with_reducible exact ih0 _ _)
      | (with_reducible exact ih1 _ _)
      | (with_reducible exact LeO.refl _)
      | (with_reducible exact LeO.none _)
      | (with_reducible refine LeO.ite ?_ ?_)
      | (with_reducible refine LeO.bind ?_ (fun _ => ?_))
      | exact ih0 _ _
      | exact ih1 _ _
      | exact LeO.none _
      | refine LeO.ite ?_ ?_
      | refine LeO.bind ?_ (fun _ => ?_)
    · intro y0 y1
      unfold turnbuckleref06_Words.j1
      repeat' first
      | (with_reducible exact ih0 _ _)
      | (with_reducible exact ih1 _ _)
      | (with_reducible exact LeO.refl _)
      | (with_reducible exact LeO.none _)
      | (with_reducible refine LeO.ite ?_ ?_)
      | (with_reducible refine LeO.bind ?_ (fun _ => ?_))
      | exact ih0 _ _
      | exact ih1 _ _
      | exact LeO.none _
      | refine LeO.ite ?_ ?_
      | refine LeO.bind ?_ (fun _ => ?_)
theorem turnbuckleref06_Words.mono : ∀ a0 k, LeO (turnbuckleref06_Words.f k a0) (turnbuckleref06_Words.f (k + 1) a0) := by
  intro a0 k
  obtain ⟨ih0, ih1⟩ := turnbuckleref06_Words.mono_l k
  unfold turnbuckleref06_Words.f
  repeat' first
      | (with_reducible exact ih0 _ _)
      | (with_reducible exact ih1 _ _)
      | (with_reducible exact LeO.refl _)
      | (with_reducible exact LeO.none _)
      | (with_reducible refine LeO.ite ?_ ?_)
      | (with_reducible refine LeO.bind ?_ (fun _ => ?_))
      | exact ih0 _ _
      | exact ih1 _ _
      | exact LeO.none _
      | refine LeO.ite ?_ ?_
      | refine LeO.bind ?_ (fun _ => ?_)
set_option maxHeartbeats 8000000 in
set_option maxRecDepth 100000 in
theorem turnbuckleref06_Words.calls (k : Nat) (a0 : Int) (r : List ByteArray) (w : World) (h : turnbuckleref06_Words.f k a0 = some r) :
    Calls Tryd.prog 26 #[.int .i64 a0] w fun e w' => ∃ v0_ : Value, e = .returned (v0_) ∧ Kd.R Kd.string 9 w' w.heap.size (fun _ => True) v0_ r ∧ Below w.heap.size w w' := by
  have HB := Aside0.mk (Below.refl w.heap.size w)
  have H : (if a0 = 3 then (turnbuckleref06_Words.j0 k a0 true) else (turnbuckleref06_Words.j0 k a0 (a0 == 4))) = some r := h
  clear h
  have HC2 := Aside0.mk H
  clear H
  go_enter Tryd.func26, Tryd.ntmps26
  go_upto_region 1 with (fail)
  go_cut [8] (fun v8 wc => ∃ (kq : Nat) (x8_1 : Bool), v8 = .bool x8_1 ∧ Aside0 (turnbuckleref06_Words.j0 kq a0 x8_1 = some r) ∧ Aside0 (kq ≤ k) ∧ Aside0 (Below w.heap.size w wc))
  case first =>
    have H := HC2.out
    clear HC2
    by_cases c3 : a0 = 3
    · rw [if_pos c3] at H
      have c3b0 : (a0 == 3) = true := beq_iff_eq.mpr c3
      have c3b1 : (a0 != 3) = false := bne_eq_false_iff_eq.mpr c3
      clear c3
      (first | rw [c3b0] | (simp only [i64_w, i32_w]; rw [c3b0]) | skip)
      have H' := Aside0.mk H
      clear H
      go_wp2
      go_meet
      case rel => exact ⟨_, (true), (by first | rfl | (simp; done) | (simp [*]; done)), H', ⟨by first | omega | exact Nat.le_refl _⟩, ⟨by repeat (first | (with_reducible first | exact HB.out | apply below_alloc | apply pw_below_drewN | apply below_drew1) | exact HB.out)⟩⟩
    · rw [if_neg c3] at H
      have c3b0 : (a0 == 3) = false := beq_eq_false_iff_ne.mpr c3
      have c3b1 : (a0 != 3) = true := bne_iff_ne.mpr c3
      (first | rw [c3b0] | (simp only [i64_w, i32_w]; rw [c3b0]) | skip)
      have H' := Aside0.mk H
      clear H
      go_wp2
      go_meet
      case rel => exact ⟨_, ((a0 == 4)), (by first | rfl | (simp; done) | (simp [*]; done)), H', ⟨by first | omega | exact Nat.le_refl _⟩, ⟨by repeat (first | (with_reducible first | exact HB.out | apply below_alloc | apply pw_below_drewN | apply below_drew1) | exact HB.out)⟩⟩
  case rest =>
    clear HC2
    try clear c2
    try clear p2
    try clear c3
    try clear c3b0
    try clear c3b1
    obtain ⟨kq, x8_1, rfl, HA, HJ1, HB⟩ := hcut
    cases kq with
    | zero => exact absurd HA.out (by simp [turnbuckleref06_Words.j0])
    | succ kj1 =>
      have H := HA.out
      clear HA
      simp only [turnbuckleref06_Words.j0] at H
      by_cases c4 : x8_1 = true
      · subst c4
        have H1 : (some (([(⟨#[97, 100, 100]⟩ : ByteArray), (⟨#[115, 117, 98]⟩ : ByteArray), (⟨#[109, 117, 108]⟩ : ByteArray), (⟨#[100, 105, 118]⟩ : ByteArray), (⟨#[109, 111, 100]⟩ : ByteArray), (⟨#[97, 110, 100]⟩ : ByteArray), (⟨#[111, 114]⟩ : ByteArray), (⟨#[120, 111, 114]⟩ : ByteArray), (⟨#[115, 104, 108]⟩ : ByteArray), (⟨#[115, 104, 114]⟩ : ByteArray), (⟨#[115, 97, 114]⟩ : ByteArray)] : List ByteArray))) = some r := by rw [if_pos rfl] at H; exact H
        clear H
        have H := H1
        clear H1
        obtain ⟨y149, hy149⟩ : ∃ y_ : List ByteArray, y_ = (([(⟨#[97, 100, 100]⟩ : ByteArray), (⟨#[115, 117, 98]⟩ : ByteArray), (⟨#[109, 117, 108]⟩ : ByteArray), (⟨#[100, 105, 118]⟩ : ByteArray), (⟨#[109, 111, 100]⟩ : ByteArray), (⟨#[97, 110, 100]⟩ : ByteArray), (⟨#[111, 114]⟩ : ByteArray), (⟨#[120, 111, 114]⟩ : ByteArray), (⟨#[115, 104, 108]⟩ : ByteArray), (⟨#[115, 104, 114]⟩ : ByteArray), (⟨#[115, 97, 114]⟩ : ByteArray)] : List ByteArray)) := ⟨_, rfl⟩
        replace H : (some y149) = some r := by first | (rw [hy149]; with_reducible exact H) | (have H2_ := (Option.bind_some _ _).symm.trans H; rw [hy149]; with_reducible exact H2_) | (have H2_ := (Option.bind_some _ _).symm.trans H; with_reducible exact H2_) | with_reducible exact H | (rw [hy149]; exact H) | exact H
        have Ny149 := Aside0.mk hy149
        clear hy149
        obtain rfl := Option.some.inj H
        go_wp2_with (first | ((with_reducible refine gate_dst (N := 9) rfl ?_); refine Kd.R_lit Kd.string _ 9 ?hg (N := 9) ?hd (xs := ([(⟨#[97, 100, 100]⟩ : ByteArray), (⟨#[115, 117, 98]⟩ : ByteArray), (⟨#[109, 117, 108]⟩ : ByteArray), (⟨#[100, 105, 118]⟩ : ByteArray), (⟨#[109, 111, 100]⟩ : ByteArray), (⟨#[97, 110, 100]⟩ : ByteArray), (⟨#[111, 114]⟩ : ByteArray), (⟨#[120, 111, 114]⟩ : ByteArray), (⟨#[115, 104, 108]⟩ : ByteArray), (⟨#[115, 104, 114]⟩ : ByteArray), (⟨#[115, 97, 114]⟩ : ByteArray)] : List ByteArray)) (inner := [.string (⟨#[97, 100, 100]⟩ : ByteArray), .string (⟨#[115, 117, 98]⟩ : ByteArray), .string (⟨#[109, 117, 108]⟩ : ByteArray), .string (⟨#[100, 105, 118]⟩ : ByteArray), .string (⟨#[109, 111, 100]⟩ : ByteArray), .string (⟨#[97, 110, 100]⟩ : ByteArray), .string (⟨#[111, 114]⟩ : ByteArray), .string (⟨#[120, 111, 114]⟩ : ByteArray), .string (⟨#[115, 104, 108]⟩ : ByteArray), .string (⟨#[115, 104, 114]⟩ : ByteArray), .string (⟨#[115, 97, 114]⟩ : ByteArray)]) (ok := fun _ => True) (okp := fun _ => True) ?hr ?hp (fun _ hk => hk) trivial (Below.refl _ _) (Nat.le_refl _) (by simp) ?_; (case hd => rfl); (case hg => rfl); (case hr => first | (go_simp; done) | (go_simp; rfl)); (case hp => exact (Reps.one (show Kd.M Kd.string _ _ _ (⟨#[97, 100, 100]⟩ : ByteArray) [.string (⟨#[97, 100, 100]⟩ : ByteArray)] from rfl) (Reps.one (show Kd.M Kd.string _ _ _ (⟨#[115, 117, 98]⟩ : ByteArray) [.string (⟨#[115, 117, 98]⟩ : ByteArray)] from rfl) (Reps.one (show Kd.M Kd.string _ _ _ (⟨#[109, 117, 108]⟩ : ByteArray) [.string (⟨#[109, 117, 108]⟩ : ByteArray)] from rfl) (Reps.one (show Kd.M Kd.string _ _ _ (⟨#[100, 105, 118]⟩ : ByteArray) [.string (⟨#[100, 105, 118]⟩ : ByteArray)] from rfl) (Reps.one (show Kd.M Kd.string _ _ _ (⟨#[109, 111, 100]⟩ : ByteArray) [.string (⟨#[109, 111, 100]⟩ : ByteArray)] from rfl) (Reps.one (show Kd.M Kd.string _ _ _ (⟨#[97, 110, 100]⟩ : ByteArray) [.string (⟨#[97, 110, 100]⟩ : ByteArray)] from rfl) (Reps.one (show Kd.M Kd.string _ _ _ (⟨#[111, 114]⟩ : ByteArray) [.string (⟨#[111, 114]⟩ : ByteArray)] from rfl) (Reps.one (show Kd.M Kd.string _ _ _ (⟨#[120, 111, 114]⟩ : ByteArray) [.string (⟨#[120, 111, 114]⟩ : ByteArray)] from rfl) (Reps.one (show Kd.M Kd.string _ _ _ (⟨#[115, 104, 108]⟩ : ByteArray) [.string (⟨#[115, 104, 108]⟩ : ByteArray)] from rfl) (Reps.one (show Kd.M Kd.string _ _ _ (⟨#[115, 104, 114]⟩ : ByteArray) [.string (⟨#[115, 104, 114]⟩ : ByteArray)] from rfl) (Reps.one (show Kd.M Kd.string _ _ _ (⟨#[115, 97, 114]⟩ : ByteArray) [.string (⟨#[115, 97, 114]⟩ : ByteArray)] from rfl) (Reps.none _ _))))))))))))); intro v150 w5 ho6 hb hg_ hnew_; clear hg_ hnew_; (first | rw [← Ny149.out] at ho6 | (simp only [Int.reduceToNat] at ho6; rw [← Ny149.out] at ho6)); have n0_ := Aside0.mk (Kd.R_lower ho6 (below_size (by repeat (first | (with_reducible first | exact HB.out | apply below_alloc | apply pw_below_drewN | apply below_drew1) | exact HB.out)))); have n1_ := Aside0.mk (below_step (by repeat (first | (with_reducible first | exact HB.out | apply below_alloc | apply pw_below_drewN | apply below_drew1) | exact HB.out)) hb); clear HB; have HO151 := n0_; have HB := n1_; clear n0_ n1_; clear hb ho6))
        go_ret
        exact ⟨_, by first | rfl | (simp [errW_none, errW_some] <;> rfl) | (simp [*, errW_none, errW_some] <;> rfl), by (with_reducible repeat (first | apply Kd.R_alloc | apply Kd.R_drewN | apply Kd.R_drew)); exact HO151.out, by repeat (first | (with_reducible first | exact HB.out | apply below_alloc | apply pw_below_drewN | apply below_drew1) | exact HB.out)⟩
      · replace c4 := Bool.eq_false_iff.mpr c4
        subst c4
        have H1 : (if a0 = 6 then (turnbuckleref06_Words.j1 kj1 a0 true) else (turnbuckleref06_Words.j1 kj1 a0 (a0 == 7))) = some r := by rw [if_neg (show ¬ (false = true) by decide)] at H; exact H
        clear H
        have H := H1
        clear H1
        have HC7 := Aside0.mk H
        clear H
        go_upto_region 3 with (fail)
        go_cut [15] (fun v15 wc => ∃ (kq : Nat) (x15_6 : Bool), v15 = .bool x15_6 ∧ Aside0 (turnbuckleref06_Words.j1 kq a0 x15_6 = some r) ∧ Aside0 (kq ≤ kj1) ∧ Aside0 (Below w.heap.size w wc))
        case first =>
          have H := HC7.out
          clear HC7
          by_cases c8 : a0 = 6
          · rw [if_pos c8] at H
            have c8b0 : (a0 == 6) = true := beq_iff_eq.mpr c8
            have c8b1 : (a0 != 6) = false := bne_eq_false_iff_eq.mpr c8
            clear c8
            (first | rw [c8b0] | (simp only [i64_w, i32_w]; rw [c8b0]) | skip)
            have H' := Aside0.mk H
            clear H
            go_wp2
            go_meet
            case rel => exact ⟨_, (true), (by first | rfl | (simp; done) | (simp [*]; done)), H', ⟨by have := HJ1.out; first | omega | exact Nat.le_refl _⟩, ⟨by repeat (first | (with_reducible first | exact HB.out | apply below_alloc | apply pw_below_drewN | apply below_drew1) | exact HB.out)⟩⟩
          · rw [if_neg c8] at H
            have c8b0 : (a0 == 6) = false := beq_eq_false_iff_ne.mpr c8
            have c8b1 : (a0 != 6) = true := bne_iff_ne.mpr c8
            (first | rw [c8b0] | (simp only [i64_w, i32_w]; rw [c8b0]) | skip)
            have H' := Aside0.mk H
            clear H
            go_wp2
            go_meet
            case rel => exact ⟨_, ((a0 == 7)), (by first | rfl | (simp; done) | (simp [*]; done)), H', ⟨by have := HJ1.out; first | omega | exact Nat.le_refl _⟩, ⟨by repeat (first | (with_reducible first | exact HB.out | apply below_alloc | apply pw_below_drewN | apply below_drew1) | exact HB.out)⟩⟩
        case rest =>
          clear HC7
          try clear c2
          try clear p2
          try clear c3
          try clear c3b0
          try clear c3b1
          try clear c4
          try clear c8
          try clear c8b0
          try clear c8b1
          try clear p2
          obtain ⟨kq, x15_6, rfl, HA, HJ6, HB⟩ := hcut
          cases kq with
          | zero => exact absurd HA.out (by simp [turnbuckleref06_Words.j1])
          | succ kj6 =>
            have H := HA.out
            clear HA
            simp only [turnbuckleref06_Words.j1] at H
            by_cases c9 : x15_6 = true
            · subst c9
              have H1 : (some (([(⟨#[101, 113]⟩ : ByteArray), (⟨#[110, 101]⟩ : ByteArray), (⟨#[108, 116]⟩ : ByteArray), (⟨#[108, 101]⟩ : ByteArray), (⟨#[103, 116]⟩ : ByteArray), (⟨#[103, 101]⟩ : ByteArray), (⟨#[115, 108, 116]⟩ : ByteArray), (⟨#[115, 103, 101]⟩ : ByteArray), (⟨#[115, 101, 116]⟩ : ByteArray)] : List ByteArray))) = some r := by rw [if_pos rfl] at H; exact H
              clear H
              have H := H1
              clear H1
              obtain ⟨y152, hy152⟩ : ∃ y_ : List ByteArray, y_ = (([(⟨#[101, 113]⟩ : ByteArray), (⟨#[110, 101]⟩ : ByteArray), (⟨#[108, 116]⟩ : ByteArray), (⟨#[108, 101]⟩ : ByteArray), (⟨#[103, 116]⟩ : ByteArray), (⟨#[103, 101]⟩ : ByteArray), (⟨#[115, 108, 116]⟩ : ByteArray), (⟨#[115, 103, 101]⟩ : ByteArray), (⟨#[115, 101, 116]⟩ : ByteArray)] : List ByteArray)) := ⟨_, rfl⟩
              replace H : (some y152) = some r := by first | (rw [hy152]; with_reducible exact H) | (have H2_ := (Option.bind_some _ _).symm.trans H; rw [hy152]; with_reducible exact H2_) | (have H2_ := (Option.bind_some _ _).symm.trans H; with_reducible exact H2_) | with_reducible exact H | (rw [hy152]; exact H) | exact H
              have Ny152 := Aside0.mk hy152
              clear hy152
              obtain rfl := Option.some.inj H
              go_wp2_with (first | ((with_reducible refine gate_dst (N := 16) rfl ?_); refine Kd.R_lit Kd.string _ 9 ?hg (N := 16) ?hd (xs := ([(⟨#[101, 113]⟩ : ByteArray), (⟨#[110, 101]⟩ : ByteArray), (⟨#[108, 116]⟩ : ByteArray), (⟨#[108, 101]⟩ : ByteArray), (⟨#[103, 116]⟩ : ByteArray), (⟨#[103, 101]⟩ : ByteArray), (⟨#[115, 108, 116]⟩ : ByteArray), (⟨#[115, 103, 101]⟩ : ByteArray), (⟨#[115, 101, 116]⟩ : ByteArray)] : List ByteArray)) (inner := [.string (⟨#[101, 113]⟩ : ByteArray), .string (⟨#[110, 101]⟩ : ByteArray), .string (⟨#[108, 116]⟩ : ByteArray), .string (⟨#[108, 101]⟩ : ByteArray), .string (⟨#[103, 116]⟩ : ByteArray), .string (⟨#[103, 101]⟩ : ByteArray), .string (⟨#[115, 108, 116]⟩ : ByteArray), .string (⟨#[115, 103, 101]⟩ : ByteArray), .string (⟨#[115, 101, 116]⟩ : ByteArray)]) (ok := fun _ => True) (okp := fun _ => True) ?hr ?hp (fun _ hk => hk) trivial (Below.refl _ _) (Nat.le_refl _) (by simp) ?_; (case hd => rfl); (case hg => rfl); (case hr => first | (go_simp; done) | (go_simp; rfl)); (case hp => exact (Reps.one (show Kd.M Kd.string _ _ _ (⟨#[101, 113]⟩ : ByteArray) [.string (⟨#[101, 113]⟩ : ByteArray)] from rfl) (Reps.one (show Kd.M Kd.string _ _ _ (⟨#[110, 101]⟩ : ByteArray) [.string (⟨#[110, 101]⟩ : ByteArray)] from rfl) (Reps.one (show Kd.M Kd.string _ _ _ (⟨#[108, 116]⟩ : ByteArray) [.string (⟨#[108, 116]⟩ : ByteArray)] from rfl) (Reps.one (show Kd.M Kd.string _ _ _ (⟨#[108, 101]⟩ : ByteArray) [.string (⟨#[108, 101]⟩ : ByteArray)] from rfl) (Reps.one (show Kd.M Kd.string _ _ _ (⟨#[103, 116]⟩ : ByteArray) [.string (⟨#[103, 116]⟩ : ByteArray)] from rfl) (Reps.one (show Kd.M Kd.string _ _ _ (⟨#[103, 101]⟩ : ByteArray) [.string (⟨#[103, 101]⟩ : ByteArray)] from rfl) (Reps.one (show Kd.M Kd.string _ _ _ (⟨#[115, 108, 116]⟩ : ByteArray) [.string (⟨#[115, 108, 116]⟩ : ByteArray)] from rfl) (Reps.one (show Kd.M Kd.string _ _ _ (⟨#[115, 103, 101]⟩ : ByteArray) [.string (⟨#[115, 103, 101]⟩ : ByteArray)] from rfl) (Reps.one (show Kd.M Kd.string _ _ _ (⟨#[115, 101, 116]⟩ : ByteArray) [.string (⟨#[115, 101, 116]⟩ : ByteArray)] from rfl) (Reps.none _ _))))))))))); intro v153 w10 ho11 hb hg_ hnew_; clear hg_ hnew_; (first | rw [← Ny152.out] at ho11 | (simp only [Int.reduceToNat] at ho11; rw [← Ny152.out] at ho11)); have n0_ := Aside0.mk (Kd.R_lower ho11 (below_size (by repeat (first | (with_reducible first | exact HB.out | apply below_alloc | apply pw_below_drewN | apply below_drew1) | exact HB.out)))); have n1_ := Aside0.mk (below_step (by repeat (first | (with_reducible first | exact HB.out | apply below_alloc | apply pw_below_drewN | apply below_drew1) | exact HB.out)) hb); clear HB; have HO154 := n0_; have HB := n1_; clear n0_ n1_; clear hb ho11))
              go_ret
              exact ⟨_, by first | rfl | (simp [errW_none, errW_some] <;> rfl) | (simp [*, errW_none, errW_some] <;> rfl), by (with_reducible repeat (first | apply Kd.R_alloc | apply Kd.R_drewN | apply Kd.R_drew)); exact HO154.out, by repeat (first | (with_reducible first | exact HB.out | apply below_alloc | apply pw_below_drewN | apply below_drew1) | exact HB.out)⟩
            · replace c9 := Bool.eq_false_iff.mpr c9
              subst c9
              have H1 : (if a0 = 14 then (some (([(⟨#[110, 101, 119]⟩ : ByteArray), (⟨#[100, 114, 111, 112]⟩ : ByteArray), (⟨#[97, 99, 113, 117, 105, 114, 101]⟩ : ByteArray), (⟨#[108, 111, 111, 107, 117, 112]⟩ : ByteArray), (⟨#[105, 110, 115, 101, 114, 116]⟩ : ByteArray), (⟨#[100, 101, 108, 101, 116, 101]⟩ : ByteArray), (⟨#[108, 111, 99, 107]⟩ : ByteArray), (⟨#[117, 110, 108, 111, 99, 107]⟩ : ByteArray), (⟨#[112, 117, 115, 104, 102, 114, 111, 110, 116]⟩ : ByteArray), (⟨#[112, 117, 115, 104, 98, 97, 99, 107]⟩ : ByteArray), (⟨#[112, 111, 112, 102, 114, 111, 110, 116]⟩ : ByteArray), (⟨#[112, 111, 112, 98, 97, 99, 107]⟩ : ByteArray), (⟨#[102, 114, 111, 110, 116]⟩ : ByteArray), (⟨#[116, 114, 101, 101, 97, 100, 100]⟩ : ByteArray), (⟨#[116, 114, 101, 101, 102, 105, 114, 115, 116]⟩ : ByteArray), (⟨#[116, 114, 101, 101, 108, 101, 102, 116]⟩ : ByteArray), (⟨#[116, 114, 101, 101, 114, 105, 103, 104, 116]⟩ : ByteArray), (⟨#[116, 114, 101, 101, 103, 111, 110, 101]⟩ : ByteArray), (⟨#[115, 119, 97, 112]⟩ : ByteArray), (⟨#[112, 101, 101, 107]⟩ : ByteArray), (⟨#[114, 99, 117, 108, 111, 99, 107]⟩ : ByteArray), (⟨#[114, 99, 117, 117, 110, 108, 111, 99, 107]⟩ : ByteArray)] : List ByteArray))) else (some ([] : List ByteArray))) = some r := by rw [if_neg (show ¬ (false = true) by decide)] at H; exact H
              clear H
              have H := H1
              clear H1
              by_cases c12 : a0 = 14
              · rw [if_pos c12] at H
                have c12b0 : (a0 == 14) = true := beq_iff_eq.mpr c12
                have c12b1 : (a0 != 14) = false := bne_eq_false_iff_eq.mpr c12
                clear c12
                obtain ⟨y155, hy155⟩ : ∃ y_ : List ByteArray, y_ = (([(⟨#[110, 101, 119]⟩ : ByteArray), (⟨#[100, 114, 111, 112]⟩ : ByteArray), (⟨#[97, 99, 113, 117, 105, 114, 101]⟩ : ByteArray), (⟨#[108, 111, 111, 107, 117, 112]⟩ : ByteArray), (⟨#[105, 110, 115, 101, 114, 116]⟩ : ByteArray), (⟨#[100, 101, 108, 101, 116, 101]⟩ : ByteArray), (⟨#[108, 111, 99, 107]⟩ : ByteArray), (⟨#[117, 110, 108, 111, 99, 107]⟩ : ByteArray), (⟨#[112, 117, 115, 104, 102, 114, 111, 110, 116]⟩ : ByteArray), (⟨#[112, 117, 115, 104, 98, 97, 99, 107]⟩ : ByteArray), (⟨#[112, 111, 112, 102, 114, 111, 110, 116]⟩ : ByteArray), (⟨#[112, 111, 112, 98, 97, 99, 107]⟩ : ByteArray), (⟨#[102, 114, 111, 110, 116]⟩ : ByteArray), (⟨#[116, 114, 101, 101, 97, 100, 100]⟩ : ByteArray), (⟨#[116, 114, 101, 101, 102, 105, 114, 115, 116]⟩ : ByteArray), (⟨#[116, 114, 101, 101, 108, 101, 102, 116]⟩ : ByteArray), (⟨#[116, 114, 101, 101, 114, 105, 103, 104, 116]⟩ : ByteArray), (⟨#[116, 114, 101, 101, 103, 111, 110, 101]⟩ : ByteArray), (⟨#[115, 119, 97, 112]⟩ : ByteArray), (⟨#[112, 101, 101, 107]⟩ : ByteArray), (⟨#[114, 99, 117, 108, 111, 99, 107]⟩ : ByteArray), (⟨#[114, 99, 117, 117, 110, 108, 111, 99, 107]⟩ : ByteArray)] : List ByteArray)) := ⟨_, rfl⟩
                replace H : (some y155) = some r := by first | (rw [hy155]; with_reducible exact H) | (have H2_ := (Option.bind_some _ _).symm.trans H; rw [hy155]; with_reducible exact H2_) | (have H2_ := (Option.bind_some _ _).symm.trans H; with_reducible exact H2_) | with_reducible exact H | (rw [hy155]; exact H) | exact H
                have Ny155 := Aside0.mk hy155
                clear hy155
                obtain rfl := Option.some.inj H
                go_wp2_with (first | ((with_reducible refine gate_dst (N := 19) rfl ?_); refine Kd.R_lit Kd.string _ 9 ?hg (N := 19) ?hd (xs := ([(⟨#[110, 101, 119]⟩ : ByteArray), (⟨#[100, 114, 111, 112]⟩ : ByteArray), (⟨#[97, 99, 113, 117, 105, 114, 101]⟩ : ByteArray), (⟨#[108, 111, 111, 107, 117, 112]⟩ : ByteArray), (⟨#[105, 110, 115, 101, 114, 116]⟩ : ByteArray), (⟨#[100, 101, 108, 101, 116, 101]⟩ : ByteArray), (⟨#[108, 111, 99, 107]⟩ : ByteArray), (⟨#[117, 110, 108, 111, 99, 107]⟩ : ByteArray), (⟨#[112, 117, 115, 104, 102, 114, 111, 110, 116]⟩ : ByteArray), (⟨#[112, 117, 115, 104, 98, 97, 99, 107]⟩ : ByteArray), (⟨#[112, 111, 112, 102, 114, 111, 110, 116]⟩ : ByteArray), (⟨#[112, 111, 112, 98, 97, 99, 107]⟩ : ByteArray), (⟨#[102, 114, 111, 110, 116]⟩ : ByteArray), (⟨#[116, 114, 101, 101, 97, 100, 100]⟩ : ByteArray), (⟨#[116, 114, 101, 101, 102, 105, 114, 115, 116]⟩ : ByteArray), (⟨#[116, 114, 101, 101, 108, 101, 102, 116]⟩ : ByteArray), (⟨#[116, 114, 101, 101, 114, 105, 103, 104, 116]⟩ : ByteArray), (⟨#[116, 114, 101, 101, 103, 111, 110, 101]⟩ : ByteArray), (⟨#[115, 119, 97, 112]⟩ : ByteArray), (⟨#[112, 101, 101, 107]⟩ : ByteArray), (⟨#[114, 99, 117, 108, 111, 99, 107]⟩ : ByteArray), (⟨#[114, 99, 117, 117, 110, 108, 111, 99, 107]⟩ : ByteArray)] : List ByteArray)) (inner := [.string (⟨#[110, 101, 119]⟩ : ByteArray), .string (⟨#[100, 114, 111, 112]⟩ : ByteArray), .string (⟨#[97, 99, 113, 117, 105, 114, 101]⟩ : ByteArray), .string (⟨#[108, 111, 111, 107, 117, 112]⟩ : ByteArray), .string (⟨#[105, 110, 115, 101, 114, 116]⟩ : ByteArray), .string (⟨#[100, 101, 108, 101, 116, 101]⟩ : ByteArray), .string (⟨#[108, 111, 99, 107]⟩ : ByteArray), .string (⟨#[117, 110, 108, 111, 99, 107]⟩ : ByteArray), .string (⟨#[112, 117, 115, 104, 102, 114, 111, 110, 116]⟩ : ByteArray), .string (⟨#[112, 117, 115, 104, 98, 97, 99, 107]⟩ : ByteArray), .string (⟨#[112, 111, 112, 102, 114, 111, 110, 116]⟩ : ByteArray), .string (⟨#[112, 111, 112, 98, 97, 99, 107]⟩ : ByteArray), .string (⟨#[102, 114, 111, 110, 116]⟩ : ByteArray), .string (⟨#[116, 114, 101, 101, 97, 100, 100]⟩ : ByteArray), .string (⟨#[116, 114, 101, 101, 102, 105, 114, 115, 116]⟩ : ByteArray), .string (⟨#[116, 114, 101, 101, 108, 101, 102, 116]⟩ : ByteArray), .string (⟨#[116, 114, 101, 101, 114, 105, 103, 104, 116]⟩ : ByteArray), .string (⟨#[116, 114, 101, 101, 103, 111, 110, 101]⟩ : ByteArray), .string (⟨#[115, 119, 97, 112]⟩ : ByteArray), .string (⟨#[112, 101, 101, 107]⟩ : ByteArray), .string (⟨#[114, 99, 117, 108, 111, 99, 107]⟩ : ByteArray), .string (⟨#[114, 99, 117, 117, 110, 108, 111, 99, 107]⟩ : ByteArray)]) (ok := fun _ => True) (okp := fun _ => True) ?hr ?hp (fun _ hk => hk) trivial (Below.refl _ _) (Nat.le_refl _) (by simp) ?_; (case hd => rfl); (case hg => rfl); (case hr => first | (go_simp; done) | (go_simp; rfl)); (case hp => exact (Reps.one (show Kd.M Kd.string _ _ _ (⟨#[110, 101, 119]⟩ : ByteArray) [.string (⟨#[110, 101, 119]⟩ : ByteArray)] from rfl) (Reps.one (show Kd.M Kd.string _ _ _ (⟨#[100, 114, 111, 112]⟩ : ByteArray) [.string (⟨#[100, 114, 111, 112]⟩ : ByteArray)] from rfl) (Reps.one (show Kd.M Kd.string _ _ _ (⟨#[97, 99, 113, 117, 105, 114, 101]⟩ : ByteArray) [.string (⟨#[97, 99, 113, 117, 105, 114, 101]⟩ : ByteArray)] from rfl) (Reps.one (show Kd.M Kd.string _ _ _ (⟨#[108, 111, 111, 107, 117, 112]⟩ : ByteArray) [.string (⟨#[108, 111, 111, 107, 117, 112]⟩ : ByteArray)] from rfl) (Reps.one (show Kd.M Kd.string _ _ _ (⟨#[105, 110, 115, 101, 114, 116]⟩ : ByteArray) [.string (⟨#[105, 110, 115, 101, 114, 116]⟩ : ByteArray)] from rfl) (Reps.one (show Kd.M Kd.string _ _ _ (⟨#[100, 101, 108, 101, 116, 101]⟩ : ByteArray) [.string (⟨#[100, 101, 108, 101, 116, 101]⟩ : ByteArray)] from rfl) (Reps.one (show Kd.M Kd.string _ _ _ (⟨#[108, 111, 99, 107]⟩ : ByteArray) [.string (⟨#[108, 111, 99, 107]⟩ : ByteArray)] from rfl) (Reps.one (show Kd.M Kd.string _ _ _ (⟨#[117, 110, 108, 111, 99, 107]⟩ : ByteArray) [.string (⟨#[117, 110, 108, 111, 99, 107]⟩ : ByteArray)] from rfl) (Reps.one (show Kd.M Kd.string _ _ _ (⟨#[112, 117, 115, 104, 102, 114, 111, 110, 116]⟩ : ByteArray) [.string (⟨#[112, 117, 115, 104, 102, 114, 111, 110, 116]⟩ : ByteArray)] from rfl) (Reps.one (show Kd.M Kd.string _ _ _ (⟨#[112, 117, 115, 104, 98, 97, 99, 107]⟩ : ByteArray) [.string (⟨#[112, 117, 115, 104, 98, 97, 99, 107]⟩ : ByteArray)] from rfl) (Reps.one (show Kd.M Kd.string _ _ _ (⟨#[112, 111, 112, 102, 114, 111, 110, 116]⟩ : ByteArray) [.string (⟨#[112, 111, 112, 102, 114, 111, 110, 116]⟩ : ByteArray)] from rfl) (Reps.one (show Kd.M Kd.string _ _ _ (⟨#[112, 111, 112, 98, 97, 99, 107]⟩ : ByteArray) [.string (⟨#[112, 111, 112, 98, 97, 99, 107]⟩ : ByteArray)] from rfl) (Reps.one (show Kd.M Kd.string _ _ _ (⟨#[102, 114, 111, 110, 116]⟩ : ByteArray) [.string (⟨#[102, 114, 111, 110, 116]⟩ : ByteArray)] from rfl) (Reps.one (show Kd.M Kd.string _ _ _ (⟨#[116, 114, 101, 101, 97, 100, 100]⟩ : ByteArray) [.string (⟨#[116, 114, 101, 101, 97, 100, 100]⟩ : ByteArray)] from rfl) (Reps.one (show Kd.M Kd.string _ _ _ (⟨#[116, 114, 101, 101, 102, 105, 114, 115, 116]⟩ : ByteArray) [.string (⟨#[116, 114, 101, 101, 102, 105, 114, 115, 116]⟩ : ByteArray)] from rfl) (Reps.one (show Kd.M Kd.string _ _ _ (⟨#[116, 114, 101, 101, 108, 101, 102, 116]⟩ : ByteArray) [.string (⟨#[116, 114, 101, 101, 108, 101, 102, 116]⟩ : ByteArray)] from rfl) (Reps.one (show Kd.M Kd.string _ _ _ (⟨#[116, 114, 101, 101, 114, 105, 103, 104, 116]⟩ : ByteArray) [.string (⟨#[116, 114, 101, 101, 114, 105, 103, 104, 116]⟩ : ByteArray)] from rfl) (Reps.one (show Kd.M Kd.string _ _ _ (⟨#[116, 114, 101, 101, 103, 111, 110, 101]⟩ : ByteArray) [.string (⟨#[116, 114, 101, 101, 103, 111, 110, 101]⟩ : ByteArray)] from rfl) (Reps.one (show Kd.M Kd.string _ _ _ (⟨#[115, 119, 97, 112]⟩ : ByteArray) [.string (⟨#[115, 119, 97, 112]⟩ : ByteArray)] from rfl) (Reps.one (show Kd.M Kd.string _ _ _ (⟨#[112, 101, 101, 107]⟩ : ByteArray) [.string (⟨#[112, 101, 101, 107]⟩ : ByteArray)] from rfl) (Reps.one (show Kd.M Kd.string _ _ _ (⟨#[114, 99, 117, 108, 111, 99, 107]⟩ : ByteArray) [.string (⟨#[114, 99, 117, 108, 111, 99, 107]⟩ : ByteArray)] from rfl) (Reps.one (show Kd.M Kd.string _ _ _ (⟨#[114, 99, 117, 117, 110, 108, 111, 99, 107]⟩ : ByteArray) [.string (⟨#[114, 99, 117, 117, 110, 108, 111, 99, 107]⟩ : ByteArray)] from rfl) (Reps.none _ _)))))))))))))))))))))))); intro v156 w13 ho14 hb hg_ hnew_; clear hg_ hnew_; (first | rw [← Ny155.out] at ho14 | (simp only [Int.reduceToNat] at ho14; rw [← Ny155.out] at ho14)); have n0_ := Aside0.mk (Kd.R_lower ho14 (below_size (by repeat (first | (with_reducible first | exact HB.out | apply below_alloc | apply pw_below_drewN | apply below_drew1) | exact HB.out)))); have n1_ := Aside0.mk (below_step (by repeat (first | (with_reducible first | exact HB.out | apply below_alloc | apply pw_below_drewN | apply below_drew1) | exact HB.out)) hb); clear HB; have HO157 := n0_; have HB := n1_; clear n0_ n1_; clear hb ho14))
                go_ret
                exact ⟨_, by first | rfl | (simp [errW_none, errW_some] <;> rfl) | (simp [*, errW_none, errW_some] <;> rfl), by (with_reducible repeat (first | apply Kd.R_alloc | apply Kd.R_drewN | apply Kd.R_drew)); exact HO157.out, by repeat (first | (with_reducible first | exact HB.out | apply below_alloc | apply pw_below_drewN | apply below_drew1) | exact HB.out)⟩
              · rw [if_neg c12] at H
                have c12b0 : (a0 == 14) = false := beq_eq_false_iff_ne.mpr c12
                have c12b1 : (a0 != 14) = true := bne_iff_ne.mpr c12
                obtain rfl := Option.some.inj H
                go_wp2
                go_ret
                exact ⟨_, by first | rfl | (simp [errW_none, errW_some] <;> rfl) | (simp [*, errW_none, errW_some] <;> rfl), by first | exact Kd.R_nil _ _ _ _ _ | exact Kd.N_nil _ _ _ _ _ | exact Kd.V_nil _ _ _ _ _ | exact Kd.Q_nil _ _ _ _ _ | exact Kd.S_nil _ _ _ _ _, by repeat (first | (with_reducible first | exact HB.out | apply below_alloc | apply pw_below_drewN | apply below_drew1) | exact HB.out)⟩

/-! ### turnbuckleref06_value: function 27 -/
def turnbuckleref06_value.f (a0_0 : Int) (a0_1 : Int) (a0_2 : Int) (a0_3 : Int) (a0_4 : Int) (a1 : Int) : Option (Int) := if a1 = 65 then (some ((a0_1) % 4294967296)) else (if a1 = 66 then (some ((a0_2) % 4294967296)) else (if a1 = 67 then (some ((a0_3) % 4294967296)) else (some a0_4)))
set_option maxHeartbeats 8000000 in
set_option maxRecDepth 100000 in
theorem turnbuckleref06_value.calls (a0_0 : Int) (a0_1 : Int) (a0_2 : Int) (a0_3 : Int) (a0_4 : Int) (a1 : Int) (r : Int) (w : World) (h : turnbuckleref06_value.f a0_0 a0_1 a0_2 a0_3 a0_4 a1 = some r) :
    Calls Tryd.prog 27 #[.agg #[.int .u8 a0_0, .int .u8 a0_1, .int .u8 a0_2, .int .u8 a0_3, .int .u32 a0_4], .int .u8 a1] w fun e w' => e = .returned (.int .u32 r) ∧ Below w.heap.size w w' := by
  have hu24 := Tryd.underlying24
  have HB := Aside0.mk (Below.refl w.heap.size w)
  have H : (if a1 = 65 then (some ((a0_1) % 4294967296)) else (if a1 = 66 then (some ((a0_2) % 4294967296)) else (if a1 = 67 then (some ((a0_3) % 4294967296)) else (some a0_4)))) = some r := h
  clear h
  by_cases c3 : a1 = 65
  · rw [if_pos c3] at H
    have c3b0 : (a1 == 65) = true := beq_iff_eq.mpr c3
    have c3b1 : (a1 != 65) = false := bne_eq_false_iff_eq.mpr c3
    clear c3
    obtain rfl := Option.some.inj H
    go_enter Tryd.func27, Tryd.ntmps27
    go_wp2_with (first | ((with_reducible refine gate_dst (N := 2) rfl ?_); refine box_event ?hg (N := 2) ?hd (cs := #[.int .u8 a0_0, .int .u8 a0_1, .int .u8 a0_2, .int .u8 a0_3, .int .u32 a0_4]) (t := 24) ?hr ?_; (case hd => rfl); (case hg => rfl); (case hr => first | (go_simp; done) | (go_simp; rfl)); intro gb158 hg w4 hbox hb; have n0_ := Aside0.mk (below_step (by repeat (first | (with_reducible first | exact HB.out | apply below_alloc | apply pw_below_drewN | apply below_drew1) | exact HB.out)) hb); have n1_ := Aside0.mk (hbox); have n2_ := Aside0.mk ((by rw [hg]; exact (below_size (by repeat (first | (with_reducible first | exact HB.out | apply below_alloc | apply pw_below_drewN | apply below_drew1) | exact HB.out))) : w.heap.size ≤ gb158)); have n3_ := Aside0.mk ((by rw [hg]; exact (below_size (by repeat (first | (with_reducible first | exact HB.out | apply below_alloc | apply pw_below_drewN | apply below_drew1) | exact HB.out))) : w.heap.size ≤ gb158)); clear HB; have HB := n0_; have BK158 := n1_; have GW158 := n2_; have GE158 := n3_; clear n0_ n1_ n2_ n3_; clear hb hbox hg; have hcz5_0 : w4.cell? ⟨gb158, 0, none⟩ = some (.int .u8 a0_0) := (blk_cell BK158.out 0).trans rfl; have hcz5_1 : w4.cell? ⟨gb158, 1, none⟩ = some (.int .u8 a0_1) := (blk_cell BK158.out 1).trans rfl; have hcz5_2 : w4.cell? ⟨gb158, 2, none⟩ = some (.int .u8 a0_2) := (blk_cell BK158.out 2).trans rfl; have hcz5_3 : w4.cell? ⟨gb158, 3, none⟩ = some (.int .u8 a0_3) := (blk_cell BK158.out 3).trans rfl; have hcz5_4 : w4.cell? ⟨gb158, 4, none⟩ = some (.int .u32 a0_4) := (blk_cell BK158.out 4).trans rfl; have hfz5_0 := blk_frozen BK158.out 0; have hfz5_1 := blk_frozen BK158.out 1; have hfz5_2 := blk_frozen BK158.out 2; have hfz5_3 := blk_frozen BK158.out 3; have hfz5_4 := blk_frozen BK158.out 4))
    go_ret
    exact ⟨by first | rfl | (simp [errW_none, errW_some] <;> rfl) | (simp [*, errW_none, errW_some] <;> rfl), by repeat (first | (with_reducible first | exact HB.out | apply below_alloc | apply pw_below_drewN | apply below_drew1 | refine below_set ?_ GE158.out) | exact HB.out)⟩
  · rw [if_neg c3] at H
    have c3b0 : (a1 == 65) = false := beq_eq_false_iff_ne.mpr c3
    have c3b1 : (a1 != 65) = true := bne_iff_ne.mpr c3
    by_cases c6 : a1 = 66
    · rw [if_pos c6] at H
      have c6b0 : (a1 == 66) = true := beq_iff_eq.mpr c6
      have c6b1 : (a1 != 66) = false := bne_eq_false_iff_eq.mpr c6
      clear c6
      obtain rfl := Option.some.inj H
      go_enter Tryd.func27, Tryd.ntmps27
      go_wp2_with (first | ((with_reducible refine gate_dst (N := 2) rfl ?_); refine box_event ?hg (N := 2) ?hd (cs := #[.int .u8 a0_0, .int .u8 a0_1, .int .u8 a0_2, .int .u8 a0_3, .int .u32 a0_4]) (t := 24) ?hr ?_; (case hd => rfl); (case hg => rfl); (case hr => first | (go_simp; done) | (go_simp; rfl)); intro gb158 hg w7 hbox hb; have n0_ := Aside0.mk (below_step (by repeat (first | (with_reducible first | exact HB.out | apply below_alloc | apply pw_below_drewN | apply below_drew1) | exact HB.out)) hb); have n1_ := Aside0.mk (hbox); have n2_ := Aside0.mk ((by rw [hg]; exact (below_size (by repeat (first | (with_reducible first | exact HB.out | apply below_alloc | apply pw_below_drewN | apply below_drew1) | exact HB.out))) : w.heap.size ≤ gb158)); have n3_ := Aside0.mk ((by rw [hg]; exact (below_size (by repeat (first | (with_reducible first | exact HB.out | apply below_alloc | apply pw_below_drewN | apply below_drew1) | exact HB.out))) : w.heap.size ≤ gb158)); clear HB; have HB := n0_; have BK158 := n1_; have GW158 := n2_; have GE158 := n3_; clear n0_ n1_ n2_ n3_; clear hb hbox hg; have hcz8_0 : w7.cell? ⟨gb158, 0, none⟩ = some (.int .u8 a0_0) := (blk_cell BK158.out 0).trans rfl; have hcz8_1 : w7.cell? ⟨gb158, 1, none⟩ = some (.int .u8 a0_1) := (blk_cell BK158.out 1).trans rfl; have hcz8_2 : w7.cell? ⟨gb158, 2, none⟩ = some (.int .u8 a0_2) := (blk_cell BK158.out 2).trans rfl; have hcz8_3 : w7.cell? ⟨gb158, 3, none⟩ = some (.int .u8 a0_3) := (blk_cell BK158.out 3).trans rfl; have hcz8_4 : w7.cell? ⟨gb158, 4, none⟩ = some (.int .u32 a0_4) := (blk_cell BK158.out 4).trans rfl; have hfz8_0 := blk_frozen BK158.out 0; have hfz8_1 := blk_frozen BK158.out 1; have hfz8_2 := blk_frozen BK158.out 2; have hfz8_3 := blk_frozen BK158.out 3; have hfz8_4 := blk_frozen BK158.out 4))
      go_ret
      exact ⟨by first | rfl | (simp [errW_none, errW_some] <;> rfl) | (simp [*, errW_none, errW_some] <;> rfl), by repeat (first | (with_reducible first | exact HB.out | apply below_alloc | apply pw_below_drewN | apply below_drew1 | refine below_set ?_ GE158.out) | exact HB.out)⟩
    · rw [if_neg c6] at H
      have c6b0 : (a1 == 66) = false := beq_eq_false_iff_ne.mpr c6
      have c6b1 : (a1 != 66) = true := bne_iff_ne.mpr c6
      by_cases c9 : a1 = 67
      · rw [if_pos c9] at H
        have c9b0 : (a1 == 67) = true := beq_iff_eq.mpr c9
        have c9b1 : (a1 != 67) = false := bne_eq_false_iff_eq.mpr c9
        clear c9
        obtain rfl := Option.some.inj H
        go_enter Tryd.func27, Tryd.ntmps27
        go_wp2_with (first | ((with_reducible refine gate_dst (N := 2) rfl ?_); refine box_event ?hg (N := 2) ?hd (cs := #[.int .u8 a0_0, .int .u8 a0_1, .int .u8 a0_2, .int .u8 a0_3, .int .u32 a0_4]) (t := 24) ?hr ?_; (case hd => rfl); (case hg => rfl); (case hr => first | (go_simp; done) | (go_simp; rfl)); intro gb158 hg w10 hbox hb; have n0_ := Aside0.mk (below_step (by repeat (first | (with_reducible first | exact HB.out | apply below_alloc | apply pw_below_drewN | apply below_drew1) | exact HB.out)) hb); have n1_ := Aside0.mk (hbox); have n2_ := Aside0.mk ((by rw [hg]; exact (below_size (by repeat (first | (with_reducible first | exact HB.out | apply below_alloc | apply pw_below_drewN | apply below_drew1) | exact HB.out))) : w.heap.size ≤ gb158)); have n3_ := Aside0.mk ((by rw [hg]; exact (below_size (by repeat (first | (with_reducible first | exact HB.out | apply below_alloc | apply pw_below_drewN | apply below_drew1) | exact HB.out))) : w.heap.size ≤ gb158)); clear HB; have HB := n0_; have BK158 := n1_; have GW158 := n2_; have GE158 := n3_; clear n0_ n1_ n2_ n3_; clear hb hbox hg; have hcz11_0 : w10.cell? ⟨gb158, 0, none⟩ = some (.int .u8 a0_0) := (blk_cell BK158.out 0).trans rfl; have hcz11_1 : w10.cell? ⟨gb158, 1, none⟩ = some (.int .u8 a0_1) := (blk_cell BK158.out 1).trans rfl; have hcz11_2 : w10.cell? ⟨gb158, 2, none⟩ = some (.int .u8 a0_2) := (blk_cell BK158.out 2).trans rfl; have hcz11_3 : w10.cell? ⟨gb158, 3, none⟩ = some (.int .u8 a0_3) := (blk_cell BK158.out 3).trans rfl; have hcz11_4 : w10.cell? ⟨gb158, 4, none⟩ = some (.int .u32 a0_4) := (blk_cell BK158.out 4).trans rfl; have hfz11_0 := blk_frozen BK158.out 0; have hfz11_1 := blk_frozen BK158.out 1; have hfz11_2 := blk_frozen BK158.out 2; have hfz11_3 := blk_frozen BK158.out 3; have hfz11_4 := blk_frozen BK158.out 4))
        go_ret
        exact ⟨by first | rfl | (simp [errW_none, errW_some] <;> rfl) | (simp [*, errW_none, errW_some] <;> rfl), by repeat (first | (with_reducible first | exact HB.out | apply below_alloc | apply pw_below_drewN | apply below_drew1 | refine below_set ?_ GE158.out) | exact HB.out)⟩
      · rw [if_neg c9] at H
        have c9b0 : (a1 == 67) = false := beq_eq_false_iff_ne.mpr c9
        have c9b1 : (a1 != 67) = true := bne_iff_ne.mpr c9
        obtain rfl := Option.some.inj H
        go_enter Tryd.func27, Tryd.ntmps27
        go_wp2_with (first | ((with_reducible refine gate_dst (N := 2) rfl ?_); refine box_event ?hg (N := 2) ?hd (cs := #[.int .u8 a0_0, .int .u8 a0_1, .int .u8 a0_2, .int .u8 a0_3, .int .u32 a0_4]) (t := 24) ?hr ?_; (case hd => rfl); (case hg => rfl); (case hr => first | (go_simp; done) | (go_simp; rfl)); intro gb158 hg w12 hbox hb; have n0_ := Aside0.mk (below_step (by repeat (first | (with_reducible first | exact HB.out | apply below_alloc | apply pw_below_drewN | apply below_drew1) | exact HB.out)) hb); have n1_ := Aside0.mk (hbox); have n2_ := Aside0.mk ((by rw [hg]; exact (below_size (by repeat (first | (with_reducible first | exact HB.out | apply below_alloc | apply pw_below_drewN | apply below_drew1) | exact HB.out))) : w.heap.size ≤ gb158)); have n3_ := Aside0.mk ((by rw [hg]; exact (below_size (by repeat (first | (with_reducible first | exact HB.out | apply below_alloc | apply pw_below_drewN | apply below_drew1) | exact HB.out))) : w.heap.size ≤ gb158)); clear HB; have HB := n0_; have BK158 := n1_; have GW158 := n2_; have GE158 := n3_; clear n0_ n1_ n2_ n3_; clear hb hbox hg; have hcz13_0 : w12.cell? ⟨gb158, 0, none⟩ = some (.int .u8 a0_0) := (blk_cell BK158.out 0).trans rfl; have hcz13_1 : w12.cell? ⟨gb158, 1, none⟩ = some (.int .u8 a0_1) := (blk_cell BK158.out 1).trans rfl; have hcz13_2 : w12.cell? ⟨gb158, 2, none⟩ = some (.int .u8 a0_2) := (blk_cell BK158.out 2).trans rfl; have hcz13_3 : w12.cell? ⟨gb158, 3, none⟩ = some (.int .u8 a0_3) := (blk_cell BK158.out 3).trans rfl; have hcz13_4 : w12.cell? ⟨gb158, 4, none⟩ = some (.int .u32 a0_4) := (blk_cell BK158.out 4).trans rfl; have hfz13_0 := blk_frozen BK158.out 0; have hfz13_1 := blk_frozen BK158.out 1; have hfz13_2 := blk_frozen BK158.out 2; have hfz13_3 := blk_frozen BK158.out 3; have hfz13_4 := blk_frozen BK158.out 4))
        go_ret
        exact ⟨by first | rfl | (simp [errW_none, errW_some] <;> rfl) | (simp [*, errW_none, errW_some] <;> rfl), by repeat (first | (with_reducible first | exact HB.out | apply below_alloc | apply pw_below_drewN | apply below_drew1 | refine below_set ?_ GE158.out) | exact HB.out)⟩

/-! ### turnbuckleref06_fits: function 31 -/
def turnbuckleref06_fits.j0 : Nat → Int → Int → Int → Bool → Option (Bool)
  | 0, _, _, _, _ => none
  | k + 1, x0, x2, x7, x8 => if x8 = true then (some (decide (x0 ≤ 9))) else (if x7 = 115 then (some (decide (x0 ≤ 7))) else (if x7 = 102 then (some (decide (x0 ≤ 11))) else (if x7 = 43 then (if x0 ≥ 1 then (some (decide (x0 ≤ 127))) else (some false)) else (if x7 = 119 then (if x0 ≥ 1 then (some (decide ((wrap64 (x0)) ≤ x2))) else (some false)) else (some true)))))
def turnbuckleref06_fits.f (k : Nat) (a0 : Int) (a1 : Int) (a2 : Int) : Option (Bool) := if a1 = 114 then (turnbuckleref06_fits.j0 k a0 a2 a1 (a1 == 114)) else (turnbuckleref06_fits.j0 k a0 a2 a1 (a1 == 120))
theorem turnbuckleref06_fits.mono_l : ∀ k, (∀ y0 y1 y2 y3, LeO (turnbuckleref06_fits.j0 k y0 y1 y2 y3) (turnbuckleref06_fits.j0 (k + 1) y0 y1 y2 y3))
  | 0 => fun _ _ _ _ r h => by simp [turnbuckleref06_fits.j0] at h
  | k + 1 => by
    have ih0 := turnbuckleref06_fits.mono_l k
    · intro y0 y1 y2 y3
      unfold turnbuckleref06_fits.j0
      repeat' first
      | (with_reducible exact ih0 _ _ _ _)
      | (with_reducible exact LeO.refl _)
      | (with_reducible exact LeO.none _)
      | (with_reducible refine LeO.ite ?_ ?_)
      | (with_reducible refine LeO.bind ?_ (fun _ => ?_))
      | exact ih0 _ _ _ _
      | exact LeO.none _
      | refine LeO.ite ?_ ?_
      | refine LeO.bind ?_ (fun _ => ?_)
theorem turnbuckleref06_fits.mono : ∀ a0 a1 a2 k, LeO (turnbuckleref06_fits.f k a0 a1 a2) (turnbuckleref06_fits.f (k + 1) a0 a1 a2) := by
  intro a0 a1 a2 k
  have ih0 := turnbuckleref06_fits.mono_l k
  unfold turnbuckleref06_fits.f
  repeat' first
      | (with_reducible exact ih0 _ _ _ _)
      | (with_reducible exact LeO.refl _)
      | (with_reducible exact LeO.none _)
      | (with_reducible refine LeO.ite ?_ ?_)
      | (with_reducible refine LeO.bind ?_ (fun _ => ?_))
      | exact ih0 _ _ _ _
      | exact LeO.none _
      | refine LeO.ite ?_ ?_
      | refine LeO.bind ?_ (fun _ => ?_)
set_option maxHeartbeats 8000000 in
set_option maxRecDepth 100000 in
theorem turnbuckleref06_fits.calls (k : Nat) (a0 : Int) (a1 : Int) (a2 : Int) (r : Bool) (w : World) (h : turnbuckleref06_fits.f k a0 a1 a2 = some r) :
    Calls Tryd.prog 31 #[.int .u32 a0, .int .u8 a1, .int .i64 a2] w fun e w' => e = .returned (.bool r) ∧ Drawn0 w w' := by
  have H : (if a1 = 114 then (turnbuckleref06_fits.j0 k a0 a2 a1 (a1 == 114)) else (turnbuckleref06_fits.j0 k a0 a2 a1 (a1 == 120))) = some r := h
  clear h
  have HC4 := Aside0.mk H
  clear H
  go_enter Tryd.func31, Tryd.ntmps31
  go_upto_if 8 with (fail)
  go_cut [8] (fun v8 wc => ∃ (kq : Nat) (x8_3 : Bool), v8 = .bool x8_3 ∧ Aside0 (turnbuckleref06_fits.j0 kq a0 a2 a1 x8_3 = some r) ∧ Aside0 (kq ≤ k) ∧ Drawn0 w wc)
  case first =>
    have H := HC4.out
    clear HC4
    by_cases c5 : a1 = 114
    · rw [if_pos c5] at H
      have c5b0 : (a1 == 114) = true := beq_iff_eq.mpr c5
      have c5b1 : (a1 != 114) = false := bne_eq_false_iff_eq.mpr c5
      clear c5
      (first | rw [c5b0] | (simp only [i64_w, i32_w]; rw [c5b0]) | skip)
      have H' := Aside0.mk H
      clear H
      go_wp2
      go_meet
      case rel => exact ⟨_, ((a1 == 114)), (by first | rfl | (simp; done) | (simp [*]; done)), H', ⟨by first | omega | exact Nat.le_refl _⟩, by repeat (first | exact Drawn0.refl _ | apply Drawn0.step)⟩
    · rw [if_neg c5] at H
      have c5b0 : (a1 == 114) = false := beq_eq_false_iff_ne.mpr c5
      have c5b1 : (a1 != 114) = true := bne_iff_ne.mpr c5
      (first | rw [c5b0] | (simp only [i64_w, i32_w]; rw [c5b0]) | skip)
      have H' := Aside0.mk H
      clear H
      go_wp2
      go_meet
      case rel => exact ⟨_, ((a1 == 120)), (by first | rfl | (simp; done) | (simp [*]; done)), H', ⟨by first | omega | exact Nat.le_refl _⟩, by repeat (first | exact Drawn0.refl _ | apply Drawn0.step)⟩
  case rest =>
    clear HC4
    try clear p2
    try clear c3
    try clear c5
    try clear c5b0
    try clear c5b1
    obtain ⟨kq, x8_3, rfl, HA, HJ3, ⟨mc3, rfl⟩⟩ := hcut
    cases kq with
    | zero => exact absurd HA.out (by simp [turnbuckleref06_fits.j0])
    | succ kj3 =>
      have H := HA.out
      clear HA
      simp only [turnbuckleref06_fits.j0] at H
      by_cases c6 : x8_3 = true
      · subst c6
        have H1 : (some (decide (a0 ≤ 9))) = some r := by rw [if_pos rfl] at H; exact H
        clear H
        have H := H1
        clear H1
        obtain rfl := Option.some.inj H
        go_wp2
        go_ret
        exact ⟨by first | rfl | (simp; done) | (simp [*]; done), by repeat (first | exact Drawn0.refl _ | apply Drawn0.step)⟩
      · replace c6 := Bool.eq_false_iff.mpr c6
        subst c6
        have H1 : (if a1 = 115 then (some (decide (a0 ≤ 7))) else (if a1 = 102 then (some (decide (a0 ≤ 11))) else (if a1 = 43 then (if a0 ≥ 1 then (some (decide (a0 ≤ 127))) else (some false)) else (if a1 = 119 then (if a0 ≥ 1 then (some (decide ((wrap64 (a0)) ≤ a2))) else (some false)) else (some true))))) = some r := by rw [if_neg (show ¬ (false = true) by decide)] at H; exact H
        clear H
        have H := H1
        clear H1
        by_cases c7 : a1 = 115
        · rw [if_pos c7] at H
          have c7b0 : (a1 == 115) = true := beq_iff_eq.mpr c7
          have c7b1 : (a1 != 115) = false := bne_eq_false_iff_eq.mpr c7
          clear c7
          obtain rfl := Option.some.inj H
          go_wp2
          go_ret
          exact ⟨by first | rfl | (simp; done) | (simp [*]; done), by repeat (first | exact Drawn0.refl _ | apply Drawn0.step)⟩
        · rw [if_neg c7] at H
          have c7b0 : (a1 == 115) = false := beq_eq_false_iff_ne.mpr c7
          have c7b1 : (a1 != 115) = true := bne_iff_ne.mpr c7
          by_cases c8 : a1 = 102
          · rw [if_pos c8] at H
            have c8b0 : (a1 == 102) = true := beq_iff_eq.mpr c8
            have c8b1 : (a1 != 102) = false := bne_eq_false_iff_eq.mpr c8
            clear c8
            obtain rfl := Option.some.inj H
            go_wp2
            go_ret
            exact ⟨by first | rfl | (simp; done) | (simp [*]; done), by repeat (first | exact Drawn0.refl _ | apply Drawn0.step)⟩
          · rw [if_neg c8] at H
            have c8b0 : (a1 == 102) = false := beq_eq_false_iff_ne.mpr c8
            have c8b1 : (a1 != 102) = true := bne_iff_ne.mpr c8
            by_cases c9 : a1 = 43
            · rw [if_pos c9] at H
              have c9b0 : (a1 == 43) = true := beq_iff_eq.mpr c9
              have c9b1 : (a1 != 43) = false := bne_eq_false_iff_eq.mpr c9
              clear c9
              by_cases c10 : a0 ≥ 1
              · rw [if_pos c10] at H
                have c10b0 : decide (1 ≤ a0) = true := decide_eq_true c10
                clear c10
                obtain rfl := Option.some.inj H
                go_wp2
                go_ret
                exact ⟨by first | rfl | (simp; done) | (simp [*]; done), by repeat (first | exact Drawn0.refl _ | apply Drawn0.step)⟩
              · rw [if_neg c10] at H
                have c10b0 : decide (1 ≤ a0) = false := decide_eq_false c10
                clear c10
                obtain rfl := Option.some.inj H
                go_wp2
                go_ret
                exact ⟨by first | rfl | (simp; done) | (simp [*]; done), by repeat (first | exact Drawn0.refl _ | apply Drawn0.step)⟩
            · rw [if_neg c9] at H
              have c9b0 : (a1 == 43) = false := beq_eq_false_iff_ne.mpr c9
              have c9b1 : (a1 != 43) = true := bne_iff_ne.mpr c9
              by_cases c11 : a1 = 119
              · rw [if_pos c11] at H
                have c11b0 : (a1 == 119) = true := beq_iff_eq.mpr c11
                have c11b1 : (a1 != 119) = false := bne_eq_false_iff_eq.mpr c11
                clear c11
                by_cases c12 : a0 ≥ 1
                · rw [if_pos c12] at H
                  have c12b0 : decide (1 ≤ a0) = true := decide_eq_true c12
                  clear c12
                  obtain rfl := Option.some.inj H
                  go_wp2
                  go_ret
                  exact ⟨by first | rfl | (simp; done) | (simp [*]; done), by repeat (first | exact Drawn0.refl _ | apply Drawn0.step)⟩
                · rw [if_neg c12] at H
                  have c12b0 : decide (1 ≤ a0) = false := decide_eq_false c12
                  clear c12
                  obtain rfl := Option.some.inj H
                  go_wp2
                  go_ret
                  exact ⟨by first | rfl | (simp; done) | (simp [*]; done), by repeat (first | exact Drawn0.refl _ | apply Drawn0.step)⟩
              · rw [if_neg c11] at H
                have c11b0 : (a1 == 119) = false := beq_eq_false_iff_ne.mpr c11
                have c11b1 : (a1 != 119) = true := bne_iff_ne.mpr c11
                obtain rfl := Option.some.inj H
                go_wp2
                go_ret
                exact ⟨by first | rfl | (simp; done) | (simp [*]; done), by repeat (first | exact Drawn0.refl _ | apply Drawn0.step)⟩

end Go.Proofs.YtlomgbackphmmaaDoor.PInsnReads
