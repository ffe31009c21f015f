/- PoolNobody: a pool that is nil, or that nobody made, has no pages. -/
import Derived.Test.YtiamohjonljdnaaDoorPool5
set_option linter.unusedVariables false
set_option linter.unusedSimpArgs false
namespace Go.Proofs.YtiamohjonljdnaaDoor
open Go.RowKit

theorem pool_zero (w : World) : Po (w.alloc (.cells #[.int .i64 0, .int .u64 0, .int .u64 0] 50)) w.heap.size 0 (fun _ => false) := by
  refine ⟨?_, by omega, fun _ _ => rfl⟩
  rw [wd_none, wd_none']
  exact heap_alloc_new w _

set_option maxHeartbeats 1000000 in
theorem PoolNobody_calls (page : Int) (w : World) (T : Tb w) (hp : page ≤ 9223372036854775807) :
    Calls Tryd.prog 6 #[.int .i64 page] w fun e w' => e = .returned (.bool true) ∧ Kept w w' := by
  have hpg : page < 0 ∨ ((0 : Nat) : Int) ≤ page := by omega
  have HPG := Lib.hid hpg
  have htk : tak (fun _ => false) page = false := by unfold tak; simp
  have HTK := Lib.hid htk
  clear hpg htk
  go_enter Tryd.func6, Tryd.ntmps6
  go_wp2_with fail
  refine (shown_calls _ T).mono ?_
  rintro e w1 ⟨rfl, K1⟩
  have Z := Lib.hid (pool_zero w1)
  have K2 := K1.then_ ((Below.refl _ w1).alloc (Nat.le_refl _) (.cells #[.int .i64 0, .int .u64 0, .int .u64 0] 50))
  have S2 : Pw w (w1.alloc (.cells #[.int .i64 0, .int .u64 0, .int .u64 0] 50)) w1.heap.size 0 (fun _ => false) := ⟨K2, Z.out, K1.below.size, T⟩
  go_wp2_with fail
  refine wp_loop_rounds 3 ?_
  rw [rounds_succ]
  go_wp2_with fail
  refine (Take_nil _).mono ?_
  rintro e w' ⟨rfl, rfl⟩
  go_wp2_with fail
  refine (TakeRun_nil 1 _ (by omega)).mono ?_
  rintro e w' ⟨rfl, rfl⟩
  go_wp2_with fail
  refine (PLen_nil _).mono ?_
  rintro e w' ⟨rfl, rfl⟩
  go_wp2_with fail
  refine (PFree_nil _).mono ?_
  rintro e w' ⟨rfl, rfl⟩
  go_wp2_with fail
  refine (Taken_nil page _).mono ?_
  rintro e w' ⟨rfl, rfl⟩
  go_wp2_with fail
  refine (Give_nil page _).mono ?_
  rintro e w' ⟨rfl, rfl⟩
  go_wp2_with fail
  rw [rounds_succ]
  go_wp2_with fail
  refine (Take_st_full S2 (fun i hi => by omega)).mono ?_
  rintro e w3 ⟨rfl, S3⟩
  go_wp2_with fail
  refine (Run_st_none S3 1 (by omega) (by omega) (fun b hb => by omega)).mono ?_
  rintro e w4 ⟨rfl, S4⟩
  go_wp2_with fail
  refine (PLen_st S4).mono ?_
  rintro e w5 ⟨rfl, S5⟩
  go_wp2_with fail
  refine (PFree_st S5).mono ?_
  rintro e w6 ⟨rfl, S6⟩
  rw [show ((0 : Nat) : Int) - ((cnt (fun _ => false) 0 : Nat) : Int) = 0 from rfl]
  go_wp2_with fail
  refine (Taken_st S6 page).mono ?_
  rintro e w7 ⟨rfl, S7⟩
  rw [HTK.out]
  go_wp2_with fail
  refine (Give_st_bad S7 page HPG.out).mono ?_
  rintro e w8 ⟨rfl, S8⟩
  go_wp2_with fail
  rw [rounds_succ]
  go_wp2
  go_ret
  exact ⟨rfl, S8.kept⟩
end Go.Proofs.YtiamohjonljdnaaDoor
