/- Lemmas of the claim TreePlays. -/
import Derived.Test.YthkppnkhiimaeaaTr6
/- The tree's functions (layer 11): what is asked of a tree. -/
set_option linter.unusedVariables false
set_option linter.unusedSimpArgs false
namespace Go.Proofs.Ythkppnkhiimaeaa
open Go.RowKit
section
variable {w0 w w1 : World} {p d : Nat} {bs : List Int} {r : Int} {X : Nat}
def nVal (bs : List Int) (n k : Int) : Int := if inn bs n 24 then gt bs (n + k) else 0
def nErrT (bs : List Int) (n : Int) : Int := if inn bs n 24 then 0 else 4
def rVal (bs : List Int) (r : Int) : Int := if inn bs r 8 then gt bs r else 0
def rErrT (bs : List Int) (r : Int) : Int := if inn bs r 8 then 0 else 4
theorem inn_bd {a n : Int} (h : inn bs a n = true) : 1 ≤ a ∧ a ≤ (bs.length : Int) - n := by
  simp only [inn, Bool.and_eq_true, decide_eq_true_eq] at h; exact h
theorem number_any (n k : Int) (w : World) (h : Ar w p d bs) (hk0 : 0 ≤ k) (hk : k ≤ 100) :
    Calls Try.prog 49 #[.pointer (some ⟨p, 0, none⟩), .int .i64 n, .int .i64 k] w fun e w' =>
      e = .returned (.tuple #[.int .i64 (nVal bs n k), .int .i64 (nErrT bs n)]) ∧ Ar w' p d bs ∧ w.grownBy w' (some d) := by
  have HL0 := Lib.hid (Lk.new h 0)
  obtain ⟨hc0, hd0⟩ := HL0.out.cell
  have hl := h.len
  clear h
  unfold nVal nErrT
  cases h1 : inn bs n 24
  · unfold inn at h1
    go_enter Try.func49, Try.ntmps49
    go_wp2_with fail
    refine (in_lk HL0.out n 24 (by omega) (by omega)).mono ?_
    rintro e w1 ⟨rfl, L1⟩
    rw [h1]
    have HL1 := Lib.hid L1
    clear L1
    go_wp2
    go_ret2
    exact ⟨rfl, HL1.out.ar, HL1.out.gr⟩
  · obtain ⟨e1, e2⟩ := inn_bd h1
    unfold inn at h1
    go_enter Try.func49, Try.ntmps49
    go_wp2_with fail
    refine (in_lk HL0.out n 24 (by omega) (by omega)).mono ?_
    rintro e w1 ⟨rfl, L1⟩
    rw [h1]
    obtain ⟨hc1, hd1⟩ := L1.cell
    have HL1 := Lib.hid L1
    clear L1 h1
    go_wp2_with fail
    refine (get_lk HL1.out (n + k)).mono ?_
    rintro e w2 ⟨rfl, L2⟩
    have HL2 := Lib.hid L2
    clear L2
    go_wp2
    go_ret2
    exact ⟨rfl, HL2.out.ar, HL2.out.gr⟩
theorem Root_any (r : Int) (w : World) (h : Ar w p d bs) :
    Calls Try.prog 14 #[.pointer (some ⟨p, 0, none⟩), .int .i64 r] w fun e w' =>
      e = .returned (.tuple #[.int .i64 (rVal bs r), .int .i64 (rErrT bs r)]) ∧ Ar w' p d bs ∧ w.grownBy w' (some d) := by
  have HL0 := Lib.hid (Lk.new h r)
  obtain ⟨hc0, hd0⟩ := HL0.out.cell
  have hl := h.len
  clear h
  unfold rVal rErrT
  cases h1 : inn bs r 8
  · unfold inn at h1
    go_enter Try.func14, Try.ntmps14
    go_wp2_with fail
    refine (in_lk HL0.out r 8 (by omega) (by omega)).mono ?_
    rintro e w1 ⟨rfl, L1⟩
    rw [h1]
    have HL1 := Lib.hid L1
    clear L1
    go_wp2
    go_ret2
    exact ⟨rfl, HL1.out.ar, HL1.out.gr⟩
  · unfold inn at h1
    go_enter Try.func14, Try.ntmps14
    go_wp2_with fail
    refine (in_lk HL0.out r 8 (by omega) (by omega)).mono ?_
    rintro e w1 ⟨rfl, L1⟩
    rw [h1]
    obtain ⟨hc1, hd1⟩ := L1.cell
    have HL1 := Lib.hid L1
    clear L1 h1
    go_wp2_with fail
    refine (top_lk HL1.out).mono ?_
    rintro e w2 ⟨rfl, L2⟩
    have HL2 := Lib.hid L2
    clear L2
    go_wp2
    go_ret2
    exact ⟨rfl, HL2.out.ar, HL2.out.gr⟩
theorem Child_any (n : Int) (right : Bool) (w : World) (h : Ar w p d bs) :
    Calls Try.prog 30 #[.pointer (some ⟨p, 0, none⟩), .int .i64 n, .bool right] w fun e w' =>
      e = .returned (.tuple #[.int .i64 (nVal bs n (if right then 4 else 0)), .int .i64 (nErrT bs n)]) ∧ Ar w' p d bs ∧ w.grownBy w' (some d) := by
  have HA := Lib.hid h
  clear h
  cases right
  all_goals
    go_enter Try.func30, Try.ntmps30
    go_wp2_with fail
    refine (number_any n _ _ HA.out (by omega) (by omega)).mono ?_
    rintro e w1 ⟨rfl, hA, hg⟩
    have HA1 := Lib.hid hA
    have HG1 := Lib.hid hg
    clear hA hg
    go_wp2
    go_ret2
    exact ⟨by simp, HA1.out, HG1.out⟩
theorem Owner_any (n : Int) (w : World) (h : Ar w p d bs) :
    Calls Try.prog 31 #[.pointer (some ⟨p, 0, none⟩), .int .i64 n] w fun e w' =>
      e = .returned (.tuple #[.int .i64 (nVal bs n 12), .int .i64 (nErrT bs n)]) ∧ Ar w' p d bs ∧ w.grownBy w' (some d) := by
  have HA := Lib.hid h
  clear h
  go_enter Try.func31, Try.ntmps31
  go_wp2_with fail
  refine (number_any n 12 _ HA.out (by omega) (by omega)).mono ?_
  rintro e w1 ⟨rfl, hA, hg⟩
  have HA1 := Lib.hid hA
  have HG1 := Lib.hid hg
  clear hA hg
  go_wp2
  go_ret2
  exact ⟨rfl, HA1.out, HG1.out⟩
theorem Red_any (n : Int) (w : World) (h : Ar w p d bs) :
    Calls Try.prog 19 #[.pointer (some ⟨p, 0, none⟩), .int .i64 n] w fun e w' =>
      e = .returned (.tuple #[.bool (nVal bs n 16 == 1), .int .i64 (nErrT bs n)]) ∧ Ar w' p d bs ∧ w.grownBy w' (some d) := by
  have HA := Lib.hid h
  clear h
  obtain ⟨x, hx⟩ : ∃ x, nVal bs n 16 = x := ⟨_, rfl⟩
  rw [hx]
  have HX := Lib.hid hx
  clear hx
  obtain ⟨y, hy⟩ : ∃ y, (x == 1) = y := ⟨_, rfl⟩
  rw [hy]
  cases y
  all_goals
    go_enter Try.func19, Try.ntmps19
    go_wp2_with fail
    refine (number_any n 16 _ HA.out (by omega) (by omega)).mono ?_
    rintro e w1 ⟨rfl, hA, hg⟩
    rw [HX.out]
    have HA1 := Lib.hid hA
    have HG1 := Lib.hid hg
    clear hA hg
    go_wp2
    go_ret2
    exact ⟨rfl, HA1.out, HG1.out⟩
theorem First_any (r : Int) (w : World) (h : Ar w p d bs) :
    Calls Try.prog 21 #[.pointer (some ⟨p, 0, none⟩), .int .i64 r] w fun e w' =>
      e = .returned (.tuple #[.int .i64 (lowB bs 60 (rVal bs r)), .int .i64 (rErrT bs r)]) ∧ Ar w' p d bs ∧ w.grownBy w' (some d) := by
  have HA := Lib.hid h
  have hx0 : pl (rVal bs r) := by
    unfold rVal
    split
    · exact gt_range bs h.rng r
    · exact ⟨by omega, by omega⟩
  clear h
  obtain ⟨x, hx⟩ : ∃ x, rVal bs r = x := ⟨_, rfl⟩
  rw [hx] at hx0 ⊢
  have HX := Lib.hid hx
  have HP := Lib.hid hx0
  clear hx hx0
  go_enter Try.func21, Try.ntmps21
  go_wp2_with fail
  refine (Root_any r _ HA.out).mono ?_
  rintro e w1 ⟨rfl, hA, hg⟩
  rw [HX.out]
  have HA1 := Lib.hid hA
  have HG1 := Lib.hid hg
  clear hA hg
  go_wp2_with fail
  refine (lowest_any x _ HA1.out HP.out).mono ?_
  rintro e w2 ⟨rfl, hB⟩
  have HA2 := Lib.hid (HA1.out.below hB)
  have HG2 := Lib.hid (HG1.out.trans (only_of_below hB (some d)))
  clear hB
  go_wp2
  go_ret2
  exact ⟨rfl, HA2.out, HG2.out⟩
end
end Go.Proofs.Ythkppnkhiimaeaa
