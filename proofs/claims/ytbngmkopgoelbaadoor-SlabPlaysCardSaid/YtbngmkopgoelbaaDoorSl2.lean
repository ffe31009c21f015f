import Derived.Test.YtbngmkopgoelbaaDoorSl1
/- The slab (layer 3): find, Pages. -/
set_option linter.unusedVariables false
set_option linter.unusedSimpArgs false
namespace Go.Proofs.YtbngmkopgoelbaaDoor
open Go.RowKit

/-- Does a page have one of a class free? -/
def HitP (P : Nat → Pg) (c : Int) (i : Nat) : Prop := (P i).c = c ∧ (P i).f ≠ 0

section
variable {w : World} {s pa pp : Nat} {P : Nat → Pg} {u : Int}
set_option maxHeartbeats 1000000 in
theorem find_hit (h : Sb w s pa pp P u) (c : Int) (r : Nat) (hr : r < 128) (hh : HitP P c r) (hn : ∀ j, j < r → ¬ HitP P c j) :
    Calls Tryd.prog 31 #[.pointer (some ⟨s, 0, none⟩), .int .i64 c] w fun e w' => e = .returned (.int .i64 (r : Int)) ∧ Below w.heap.size w w' := by
  have HS := Lib.hid h
  have HH := Lib.hid hh
  have HN := Lib.hid hn
  clear h hh hn
  go_enter Tryd.func31, Tryd.ntmps31
  go_wp2_with fail
  go_loopw [5, 6, 7] (fun _ _ i wr => ∃ k : Nat, k ≤ r ∧ i = .int .i64 (k : Int) ∧ Below w.heap.size w wr) (fun _ _ i _ => r - (intOf i).toNat)
  case atStart => exact ⟨0, by omega, rfl, Below.refl _ _⟩
  case round =>
    obtain ⟨k, hk, rfl, hB⟩ := hrel
    have HB := Lib.hid hB
    have S := HS.out.below hB
    obtain ⟨c0, c1, c2, c3⟩ := S.pg k (by omega)
    have hk1 : (k : Int) < 128 := by omega
    clear hB S
    by_cases hc : (P k).c = c
    · by_cases hf : (P k).f = 0
      · have hkr : k < r := by
          rcases Nat.lt_or_ge k r with h1 | h1
          · exact h1
          · obtain rfl : k = r := by omega
            exact absurd hf HH.out.2
        rw [hc] at c0
        rw [hf] at c3
        clear hc hf
        go_wp2
        go_roundw
        case rel => exact ⟨k + 1, by omega, by go_num, HB.out.alloc HB.out.size _⟩
        case measure => simp [intOf]; omega
      · have hkr : k = r := by
          rcases Nat.lt_or_ge k r with h1 | h1
          · exact absurd ⟨hc, hf⟩ (HN.out k h1)
          · omega
        subst hkr
        have hfb : ((P k).f != 0) = true := by rw [bne_iff_ne]; exact hf
        rw [hc] at c0
        clear hc hf
        go_wp2
        go_ret
        exact ⟨rfl, HB.out.alloc HB.out.size _⟩
    · have hcb : ((P k).c == c) = false := beq_eq_false_iff_ne.2 hc
      have hkr : k < r := by
        rcases Nat.lt_or_ge k r with h1 | h1
        · exact h1
        · obtain rfl : k = r := by omega
          exact absurd HH.out.1 hc
      clear hc
      go_wp2
      go_roundw
      case rel => exact ⟨k + 1, by omega, by go_num, HB.out.alloc HB.out.size _⟩
      case measure => simp [intOf]; omega

set_option maxHeartbeats 1000000 in
theorem find_none (h : Sb w s pa pp P u) (c : Int) (hn : ∀ j, j < 128 → ¬ HitP P c j) :
    Calls Tryd.prog 31 #[.pointer (some ⟨s, 0, none⟩), .int .i64 c] w fun e w' => e = .returned (.int .i64 0) ∧ Below w.heap.size w w' := by
  have HS := Lib.hid h
  have HN := Lib.hid hn
  clear h hn
  go_enter Tryd.func31, Tryd.ntmps31
  go_wp2_with fail
  go_loopw [5, 6, 7] (fun _ _ i wr => ∃ k : Nat, k ≤ 128 ∧ i = .int .i64 (k : Int) ∧ Below w.heap.size w wr) (fun _ _ i _ => 128 - (intOf i).toNat)
  case atStart => exact ⟨0, by omega, rfl, Below.refl _ _⟩
  case round =>
    obtain ⟨k, hk, rfl, hB⟩ := hrel
    have HB := Lib.hid hB
    by_cases hk2 : k = 128
    · subst hk2
      clear hB
      go_wp2
      go_ret
      exact ⟨rfl, HB.out⟩
    have S := HS.out.below hB
    obtain ⟨c0, c1, c2, c3⟩ := S.pg k (by omega)
    have hk1 : (k : Int) < 128 := by omega
    clear hB S
    by_cases hc : (P k).c = c
    · have hf : (P k).f = 0 := Classical.byContradiction fun hf => HN.out k (by omega) ⟨hc, hf⟩
      rw [hc] at c0
      rw [hf] at c3
      clear hc hf
      go_wp2
      go_roundw
      case rel => exact ⟨k + 1, by omega, by go_num, HB.out.alloc HB.out.size _⟩
      case measure => simp [intOf]; omega
    · have hcb : ((P k).c == c) = false := beq_eq_false_iff_ne.2 hc
      clear hc
      go_wp2
      go_roundw
      case rel => exact ⟨k + 1, by omega, by go_num, HB.out.alloc HB.out.size _⟩
      case measure => simp [intOf]; omega
end
end Go.Proofs.YtbngmkopgoelbaaDoor
