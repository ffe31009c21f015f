/- Layer 1: the document's examples hold. -/
import Derived.Test.YtdanncfnndcbbaaAr5
set_option linter.unusedVariables false
set_option linter.unusedSimpArgs false
namespace Go.Proofs.Ytdanncfnndcbbaa
open Go.RowKit

theorem ex1 : strOfNums (cutA (stA (zeros 16) 4 4 305419896) 4 4) = ⟨#[120, 86, 52, 18]⟩ := by decide +kernel
theorem ex2 : ldA (stA (zeros 16) 4 4 305419896) 4 2 = 22136 := by decide +kernel
theorem ex3 : nErr (zeros 16).length 4 4 = 0 := by decide +kernel
theorem ex4 : rErr (stA (zeros 16) 4 4 305419896).length 4 4 = 0 := by decide +kernel
theorem ex5 : nErr (stA (zeros 16) 4 4 305419896).length 4 2 = 0 := by decide +kernel
theorem ex6 : nErr (stA (zeros 16) 4 4 305419896).length 15 2 = 4 := by decide +kernel
theorem ex7 : nErr (stA (zeros 16) 4 4 305419896).length 0 3 = 1 := by decide +kernel

theorem ex8 : (cutA (stA (zeros 16) 4 4 305419896) 4 4).length = 4 := by decide +kernel

theorem shown_calls (w : World) : Calls Try.prog 9 #[] w fun e w' => e = .returned (.bool true) ∧ Kept w w' := by
  go_enter Try.func9, Try.ntmps9
  go_wp2_with fail
  refine (New_st (Kept.refl w) 16 (by omega) (by omega)).mono ?_
  rintro e w1 ⟨p, d, rfl, S1⟩
  replace S1 : One w w1 p d (zeros 16) := S1
  go_wp2_with fail
  refine (Store_st S1 4 4 305419896 (by omega)).mono ?_
  rintro e w2 ⟨rfl, S2⟩
  rw [ex3]
  go_wp2_with fail
  refine (Bytes_st S2 4 4 (by omega)).mono ?_
  rintro e w3 ⟨g, rfl, hk3, S3⟩
  rw [ex4, ex8]
  have K3 := Lib.hid hk3
  clear hk3
  go_wp2_with fail
  refine (Load_any 4 2 _ S3.ar).mono ?_
  rintro e w4 ⟨rfl, hB4⟩
  rw [ex2, ex5]
  have S4 := S3.then_ hB4
  have K4 := Lib.hid (K3.out.below hB4)
  clear hB4
  go_wp2_with fail
  refine (Load_any 15 2 _ S4.ar).mono ?_
  rintro e w5 ⟨rfl, hB5⟩
  rw [ex6]
  have S5 := S4.then_ hB5
  have K5 := Lib.hid (K4.out.below hB5)
  clear hB5
  go_wp2_with fail
  refine (Load_any 0 3 _ S5.ar).mono ?_
  rintro e w6 ⟨rfl, hB6⟩
  rw [ex7]
  have S6 := S5.then_ hB6
  have K6 := Lib.hid (K5.out.below hB6)
  clear hB6
  have hcv := K6.out.text (cutA (stA (zeros 16) 4 4 305419896) 4 4).length
  rw [ex1, ex8] at hcv
  go_wp2
  go_ret
  exact ⟨rfl, S6.kept⟩
end Go.Proofs.Ytdanncfnndcbbaa
