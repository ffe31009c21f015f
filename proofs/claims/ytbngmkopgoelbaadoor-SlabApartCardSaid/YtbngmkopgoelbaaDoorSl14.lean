/- The slab (layer 3): the document's example holds. -/
import Derived.Test.YtbngmkopgoelbaaDoorSl13
set_option linter.unusedVariables false
set_option linter.unusedSimpArgs false
namespace Go.Proofs.YtbngmkopgoelbaaDoor
open Go.RowKit

def E1 : Nat → Ap := upd none0 1 ⟨16, (blks 1 16).tail⟩
def E2 : Nat → Ap := upd E1 1 ⟨16, (blks 1 16).tail.tail⟩
def E3 : Nat → Ap := upd E2 2 ⟨32, (blks 2 32).tail⟩
def E4 : Nat → Ap := frd E3 512
def E5 : Nat → Ap := upd E4 1 ⟨16, (E4 1).fl.tail⟩
theorem ex1 : allc none0 4 (cls 10) = some (512, E1) := by kernel_rfl
theorem ex2 : allc E1 4 (cls 16) = some (528, E2) := by kernel_rfl
theorem ex3 : allc E2 4 (cls 17) = some (1024, E3) := by kernel_rfl
theorem ex4 : tkn E3 512 = true := by kernel_rfl
theorem ex5 : allc E4 4 (cls 3) = some (512, E5) := by kernel_rfl
theorem ex6 : tI E5 528 = true := by kernel_rfl
theorem ex7 : (E5 ((528 : Int).toNat / 512)).c = 16 := by kernel_rfl
theorem ex8 : tI E5 529 = false := by kernel_rfl
theorem ex9 : usd E5 4 = 64 := by kernel_rfl

theorem Kept.frame {w0 w w1 : World} {s pa pd pp n : Nat} {A : Nat → Ap} {bs : List Int} (S : St w0 w s pa pd pp n A bs) (h : Fr (S3 s pd pp) w w1) : Kept w0 w1 := S.kept.fr h S.s3

set_option maxRecDepth 100000 in
set_option maxHeartbeats 1000000 in
theorem shown_calls (w : World) (T : Tb w) : Calls Tryd.prog 9 #[] w fun e w' => e = .returned (.bool true) ∧ Kept w w' := by
  have HT := Lib.hid T
  clear T
  go_enter Tryd.func9, Tryd.ntmps9
  go_wp2_with fail
  refine (SNew_st (Kept.refl w) HT.out 4 (by omega) (by omega)).mono ?_
  rintro e w1 ⟨s, pa, pd, pp, rfl, S1, _⟩
  have H1 := Lib.hid S1
  clear S1
  go_wp2_with fail
  refine (Alloc_some H1.out 10 512 (by omega) (by omega) ex1).mono ?_
  rintro e w2 ⟨rfl, b2, S2, _, _, _⟩
  have H2 := Lib.hid S2
  clear S2
  go_wp2_with fail
  refine (Alloc_some H2.out 16 528 (by omega) (by omega) ex2).mono ?_
  rintro e w3 ⟨rfl, b3, S3', _, _, _⟩
  have H3 := Lib.hid S3'
  clear S3'
  go_wp2_with fail
  refine (Alloc_some H3.out 17 1024 (by omega) (by omega) ex3).mono ?_
  rintro e w4 ⟨rfl, b4, S4, _, _, _⟩
  have H4 := Lib.hid S4
  clear S4
  go_wp2_with fail
  refine (Free_yes H4.out 512 ex4).mono ?_
  rintro e w5 ⟨rfl, b5, S5, _, _⟩
  have H5 := Lib.hid S5
  clear S5
  go_wp2_with fail
  refine (Alloc_some H5.out 3 512 (by omega) (by omega) ex5).mono ?_
  rintro e w6 ⟨rfl, b6, S6, _, _, _⟩
  have H6 := Lib.hid S6
  clear S6
  go_wp2_with fail
  refine (Block_st H6.out 528).mono ?_
  rintro e w7 ⟨rfl, hB7⟩
  rw [ex6, ex7, if_pos rfl]
  have H7 := Lib.hid (H6.out.then_ hB7)
  clear hB7
  go_wp2_with fail
  refine (Block_st H7.out 529).mono ?_
  rintro e w8 ⟨rfl, hB8⟩
  rw [ex8, if_neg (by decide)]
  have H8 := Lib.hid (H7.out.then_ hB8)
  clear hB8
  go_wp2_with fail
  refine (Used_st H8.out).mono ?_
  rintro e w9 ⟨rfl, rfl⟩
  rw [ex9]
  go_wp2
  go_ret
  exact ⟨rfl, H8.out.kept⟩
end Go.Proofs.YtbngmkopgoelbaaDoor
