/- SlabNobody: a slab that is nil has nothing. -/
import Derived.Test.YtbngmkopgoelbaaDoorSl14
set_option linter.unusedVariables false
set_option linter.unusedSimpArgs false
namespace Go.Proofs.YtbngmkopgoelbaaDoor
open Go.RowKit

theorem Free_nil (at_ : Int) (w : World) :
    Calls Tryd.prog 13 #[.pointer none, .int .i64 at_] w fun e w' => e = .returned (.int .i64 1) ∧ Below w.heap.size w w' := by
  refine Free_no _ _ ((Block_nil at_ w).mono ?_)
  rintro e w' ⟨h, rfl⟩
  exact ⟨h, Below.refl _ _⟩
/-- What nil answers to Alloc. -/
def nilErr (m : Int) : Int := if m < 1 ∨ 256 < m then 1 else 5
theorem Alloc_nil' (m : Int) (w : World) :
    Calls Tryd.prog 11 #[.pointer none, .int .i64 m] w fun e w' => e = .returned (.tuple #[.int .i64 0, .int .i64 (nilErr m)]) ∧ w = w' := by
  unfold nilErr
  by_cases h : m < 1 ∨ 256 < m
  · rw [if_pos h]; exact Alloc_bad _ m w h
  · rw [if_neg h]; exact Alloc_nil m w (by omega)

set_option maxHeartbeats 1000000 in
theorem SlabNobody_calls (m at_ : Int) (w : World) (T : Tb w) :
    Calls Tryd.prog 7 #[.int .i64 m, .int .i64 at_] w fun e w' => e = .returned (.bool true) ∧ Kept w w' := by
  by_cases h1 : m < 1
  · have he : nilErr m = 1 := by unfold nilErr; rw [if_pos (.inl h1)]
    have HE := Lib.hid he
    clear he
    go_enter Tryd.func7, Tryd.ntmps7
    go_wp2_with fail
    refine (shown_calls _ T).mono ?_
    rintro e w1 ⟨rfl, K1⟩
    have HK := Lib.hid K1
    clear K1
    go_wp2_with fail
    refine (Alloc_nil' m _).mono ?_
    rintro e w2 ⟨rfl, rfl⟩
    rw [HE.out]
    go_wp2_with fail
    refine (Block_nil at_ _).mono ?_
    rintro e w2 ⟨rfl, rfl⟩
    go_wp2_with fail
    refine (Free_nil at_ _).mono ?_
    rintro e w2 ⟨rfl, hB⟩
    have HK2 := Lib.hid (HK.out.then_ hB)
    clear hB
    go_wp2_with fail
    refine (Used_nil _).mono ?_
    rintro e w3 ⟨rfl, rfl⟩
    go_wp2_with fail
    refine (Pages_nil _).mono ?_
    rintro e w3 ⟨rfl, rfl⟩
    go_wp2_with fail
    refine (SArena_nil _).mono ?_
    rintro e w3 ⟨rfl, rfl⟩
    go_wp2
    go_ret
    exact ⟨rfl, HK2.out⟩
  by_cases h2 : 256 < m
  · have he : nilErr m = 1 := by unfold nilErr; rw [if_pos (.inr h2)]
    have HE := Lib.hid he
    clear he
    go_enter Tryd.func7, Tryd.ntmps7
    go_wp2_with fail
    refine (shown_calls _ T).mono ?_
    rintro e w1 ⟨rfl, K1⟩
    have HK := Lib.hid K1
    clear K1
    go_wp2_with fail
    refine (Alloc_nil' m _).mono ?_
    rintro e w2 ⟨rfl, rfl⟩
    rw [HE.out]
    go_wp2_with fail
    refine (Block_nil at_ _).mono ?_
    rintro e w2 ⟨rfl, rfl⟩
    go_wp2_with fail
    refine (Free_nil at_ _).mono ?_
    rintro e w2 ⟨rfl, hB⟩
    have HK2 := Lib.hid (HK.out.then_ hB)
    clear hB
    go_wp2_with fail
    refine (Used_nil _).mono ?_
    rintro e w3 ⟨rfl, rfl⟩
    go_wp2_with fail
    refine (Pages_nil _).mono ?_
    rintro e w3 ⟨rfl, rfl⟩
    go_wp2_with fail
    refine (SArena_nil _).mono ?_
    rintro e w3 ⟨rfl, rfl⟩
    go_wp2
    go_ret
    exact ⟨rfl, HK2.out⟩
  · have he : nilErr m = 5 := by unfold nilErr; rw [if_neg (by omega)]
    have HE := Lib.hid he
    clear he
    go_enter Tryd.func7, Tryd.ntmps7
    go_wp2_with fail
    refine (shown_calls _ T).mono ?_
    rintro e w1 ⟨rfl, K1⟩
    have HK := Lib.hid K1
    clear K1
    go_wp2_with fail
    refine (Alloc_nil' m _).mono ?_
    rintro e w2 ⟨rfl, rfl⟩
    rw [HE.out]
    go_wp2_with fail
    refine (Block_nil at_ _).mono ?_
    rintro e w2 ⟨rfl, rfl⟩
    go_wp2_with fail
    refine (Free_nil at_ _).mono ?_
    rintro e w2 ⟨rfl, hB⟩
    have HK2 := Lib.hid (HK.out.then_ hB)
    clear hB
    go_wp2_with fail
    refine (Used_nil _).mono ?_
    rintro e w3 ⟨rfl, rfl⟩
    go_wp2_with fail
    refine (Pages_nil _).mono ?_
    rintro e w3 ⟨rfl, rfl⟩
    go_wp2_with fail
    refine (SArena_nil _).mono ?_
    rintro e w3 ⟨rfl, rfl⟩
    go_wp2
    go_ret
    exact ⟨rfl, HK2.out⟩
end Go.Proofs.YtbngmkopgoelbaaDoor
