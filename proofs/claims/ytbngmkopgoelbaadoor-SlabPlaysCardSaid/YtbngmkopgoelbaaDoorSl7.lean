import Derived.Test.YtbngmkopgoelbaaDoorSl5
/- The slab (layer 3): Block. -/
set_option linter.unusedVariables false
set_option linter.unusedSimpArgs false
namespace Go.Proofs.YtbngmkopgoelbaaDoor
open Go.RowKit

theorem Block_nil (at_ : Int) (w : World) :
    Calls Tryd.prog 12 #[.pointer none, .int .i64 at_] w fun e w' => e = .returned (.tuple #[.int .i64 0, .bool false]) ∧ w = w' := by
  by_cases h : at_ < 512
  · go_enter Tryd.func12, Tryd.ntmps12
    go_wp2
    go_ret2
    exact ⟨rfl, rfl⟩
  · have h1 : ¬ at_ < 0 := by omega
    go_enter Tryd.func12, Tryd.ntmps12
    go_wp2_with fail
    refine (SArena_nil _).mono ?_
    rintro e w1 ⟨rfl, rfl⟩
    go_wp2_with fail
    refine (Len_nil _).mono ?_
    rintro e w1 ⟨rfl, rfl⟩
    go_wp2
    go_ret2
    exact ⟨rfl, rfl⟩

theorem bit_quiet (a c : Nat) (hC : isC c) (ha : a < 65536) {y : Int} (hy : ((2 ^ (a % 512 / c) : Nat) : Int) = y) (W : World) (m : Nat) :
    Calls Tryd.prog 34 #[.int .i64 (a : Int), .int .i64 (c : Int)] (W.drewN m) fun e w'' => e = .returned (.int .u32 y) ∧ ∃ m, w'' = W.drewN m := by
  refine Calls.quiet_of_same ((bit_calls a c _ hC ha).mono ?_)
  rintro e w' ⟨h1, rfl⟩
  rw [hy] at h1
  exact ⟨h1, rfl⟩

section
variable {w : World} {s pa pd pp n : Nat} {bs : List Int} {f : Nat → Bool} {P : Nat → Pg} {u : Int}
theorem Block_out (S : Sm w s pa pd pp n bs f P u) (at_ : Int) (h : at_ < 512 ∨ (bs.length : Int) ≤ at_) :
    Calls Tryd.prog 12 #[.pointer (some ⟨s, 0, none⟩), .int .i64 at_] w fun e w' => e = .returned (.tuple #[.int .i64 0, .bool false]) ∧ Below w.heap.size w w' := by
  have HS := Lib.hid S
  clear S
  by_cases h1 : at_ < 512
  · clear h
    go_enter Tryd.func12, Tryd.ntmps12
    go_wp2
    go_ret2
    exact ⟨rfl, Below.refl _ _⟩
  · have h2 : (bs.length : Int) ≤ at_ := by omega
    clear h
    go_enter Tryd.func12, Tryd.ntmps12
    go_wp2_with fail
    refine (SArena_calls HS.out.sb).mono ?_
    rintro e w1 ⟨rfl, rfl⟩
    go_wp2_with fail
    refine (Len_calls HS.out.ar).mono ?_
    rintro e w1 ⟨rfl, rfl⟩
    go_wp2
    go_ret2
    exact ⟨rfl, Below.refl _ _⟩

set_option maxRecDepth 100000 in
set_option maxHeartbeats 400000 in
theorem Block_in (S : Sm w s pa pd pp n bs f P u) (a p : Nat) (c : Nat) (t k g : Int) (h0 : 512 ≤ a) (h1 : a < bs.length) (hp : p = a / 512) (hp1 : p < 128) (hP : P p = ⟨c, t, k, g⟩) (hC : isC c) (v : Int) (hv : bits .and .u32 t ((2 ^ (a % 512 / c) : Nat) : Int) = v) (hac : a % c = 0) :
    Calls Tryd.prog 12 #[.pointer (some ⟨s, 0, none⟩), .int .i64 (a : Int)] w fun e w' => e = .returned (if v = 0 then .tuple #[.int .i64 0, .bool false] else .tuple #[.int .i64 c, .bool true]) ∧ Below w.heap.size w w' := by
  have HS := Lib.hid S
  have hl := S.ar.len
  have hcells := S.sb.pg p hp1
  rw [hP] at hcells
  obtain ⟨c0, c1, c2, c3⟩ := hcells
  dsimp only at c0 c1 c2 c3
  have hcp := hC.pos
  have e1 : ¬ ((a : Int) < 512) := by omega
  have e2 : ¬ ((bs.length : Int) ≤ (a : Int)) := by omega
  have e3 : (a : Int) / 512 = (p : Int) := by omega
  have e5 : (c : Int) ≠ 0 := by omega
  have e6 : ((c : Int) == 0) = false := beq_eq_false_iff_ne.2 e5
  have e7 : (a : Int) % (c : Int) = 0 := by omega
  have hpi : (p : Int) < 128 := by omega
  have ha : a < 65536 := by omega
  obtain ⟨y, hy, hbit⟩ : ∃ y : Int, ((2 ^ (a % 512 / c) : Nat) : Int) = y ∧ ∀ (W : World) (m : Nat), Calls Tryd.prog 34 #[.int .i64 (a : Int), .int .i64 (c : Int)] (W.drewN m) fun e w'' => e = .returned (.int .u32 y) ∧ ∃ m, w'' = W.drewN m := ⟨_, rfl, fun W m => bit_quiet a c hC ha rfl W m⟩
  rw [hy] at hv
  clear S hP hC hp hy hac
  by_cases hz : v = 0
  · subst hz
    go_enter Tryd.func12, Tryd.ntmps12
    go_wp2_with fail
    refine (SArena_calls HS.out.sb).mono ?_
    rintro e w1 ⟨rfl, rfl⟩
    go_wp2_with fail
    refine (Len_calls HS.out.ar).mono ?_
    rintro e w1 ⟨rfl, rfl⟩
    go_wp2_with fail
    go_big_quiet ((exact hbit _ _))
    go_wp2
    go_ret2
    exact ⟨rfl, below_drewN ((Below.refl _ _).alloc (Nat.le_refl _) _) _⟩
  · have hzb : (v == 0) = false := beq_eq_false_iff_ne.2 hz
    rw [if_neg hz]
    clear hz
    go_enter Tryd.func12, Tryd.ntmps12
    go_wp2_with fail
    refine (SArena_calls HS.out.sb).mono ?_
    rintro e w1 ⟨rfl, rfl⟩
    go_wp2_with fail
    refine (Len_calls HS.out.ar).mono ?_
    rintro e w1 ⟨rfl, rfl⟩
    go_wp2_with fail
    go_big_quiet ((exact hbit _ _))
    go_wp2
    go_ret2
    exact ⟨rfl, below_drewN ((Below.refl _ _).alloc (Nat.le_refl _) _) _⟩

set_option maxRecDepth 100000 in
set_option maxHeartbeats 400000 in
theorem Block_zero (S : Sm w s pa pd pp n bs f P u) (a p : Nat) (t k g : Int) (h0 : 512 ≤ a) (h1 : a < bs.length) (hp : p = a / 512) (hp1 : p < 128) (hP : P p = ⟨0, t, k, g⟩) :
    Calls Tryd.prog 12 #[.pointer (some ⟨s, 0, none⟩), .int .i64 (a : Int)] w fun e w' => e = .returned (.tuple #[.int .i64 0, .bool false]) ∧ Below w.heap.size w w' := by
  have HS := Lib.hid S
  have hl := S.ar.len
  have hcells := S.sb.pg p hp1
  rw [hP] at hcells
  obtain ⟨c0, c1, c2, c3⟩ := hcells
  dsimp only at c0 c1 c2 c3
  have e1 : ¬ ((a : Int) < 512) := by omega
  have e2 : ¬ ((bs.length : Int) ≤ (a : Int)) := by omega
  have e3 : (a : Int) / 512 = (p : Int) := by omega
  have hpi : (p : Int) < 128 := by omega
  clear S hP hp
  go_enter Tryd.func12, Tryd.ntmps12
  go_wp2_with fail
  refine (SArena_calls HS.out.sb).mono ?_
  rintro e w1 ⟨rfl, rfl⟩
  go_wp2_with fail
  refine (Len_calls HS.out.ar).mono ?_
  rintro e w1 ⟨rfl, rfl⟩
  go_wp2_with fail
  go_big_quiet (fail)
  go_wp2
  go_ret2
  exact ⟨rfl, below_drewN ((Below.refl _ _).alloc (Nat.le_refl _) _) _⟩

set_option maxRecDepth 100000 in
set_option maxHeartbeats 400000 in
theorem Block_off (S : Sm w s pa pd pp n bs f P u) (a p c : Nat) (t k g : Int) (h0 : 512 ≤ a) (h1 : a < bs.length) (hp : p = a / 512) (hp1 : p < 128) (hP : P p = ⟨c, t, k, g⟩) (hC : 1 ≤ c ∧ c ≤ 256) (hac : a % c ≠ 0) :
    Calls Tryd.prog 12 #[.pointer (some ⟨s, 0, none⟩), .int .i64 (a : Int)] w fun e w' => e = .returned (.tuple #[.int .i64 0, .bool false]) ∧ Below w.heap.size w w' := by
  have HS := Lib.hid S
  have hl := S.ar.len
  have hcells := S.sb.pg p hp1
  rw [hP] at hcells
  obtain ⟨c0, c1, c2, c3⟩ := hcells
  dsimp only at c0 c1 c2 c3
  have e1 : ¬ ((a : Int) < 512) := by omega
  have e2 : ¬ ((bs.length : Int) ≤ (a : Int)) := by omega
  have e3 : (a : Int) / 512 = (p : Int) := by omega
  have e5 : (c : Int) ≠ 0 := by omega
  have e6 : ((c : Int) == 0) = false := beq_eq_false_iff_ne.2 e5
  have e7 : (a : Int) % (c : Int) ≠ 0 := by omega
  have e8 : ((a : Int) % (c : Int) != 0) = true := by rw [bne_iff_ne]; exact e7
  have hpi : (p : Int) < 128 := by omega
  clear S hP hp hac e7
  go_enter Tryd.func12, Tryd.ntmps12
  go_wp2_with fail
  refine (SArena_calls HS.out.sb).mono ?_
  rintro e w1 ⟨rfl, rfl⟩
  go_wp2_with fail
  refine (Len_calls HS.out.ar).mono ?_
  rintro e w1 ⟨rfl, rfl⟩
  go_wp2_with fail
  go_big_quiet (fail)
  go_wp2
  go_ret2
  exact ⟨rfl, below_drewN ((Below.refl _ _).alloc (Nat.le_refl _) _) _⟩
end
end Go.Proofs.YtbngmkopgoelbaaDoor
