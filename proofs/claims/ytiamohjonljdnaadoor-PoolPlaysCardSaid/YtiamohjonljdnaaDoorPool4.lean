/- The pool (layer 2): TakeRun. -/
import Derived.Test.YtiamohjonljdnaaDoorPool3
import Derived.WalkMore
set_option linter.unusedVariables false
set_option linter.unusedSimpArgs false
namespace Go.Proofs.YtiamohjonljdnaaDoor
open Go.RowKit

theorem Po.setLow {w : World} {p n : Nat} {f : Nat → Bool} (h : Po w p n f) (P : Nat) (h1 : P < 64) (h2 : P < n) :
    Po ((w.setCell ⟨p, 1, none⟩ (.int .u64 (bits BinOp.or IntKind.u64 ((wd f 64 : Nat) : Int) (IntKind.u64.wrap (2 ^ P))))).drew) p n (fun i => f i || i == P) := by
  rw [set_word f P h1]
  refine h.set1 _ rfl (fun i hi' => ?_) (fun i hi' => ?_)
  · have : (64 + i == P) = false := beq_eq_false_iff_ne.2 (by omega)
    simp [this]
  · have : (i == P) = false := beq_eq_false_iff_ne.2 (by omega)
    simp [h.out i hi', this]
theorem Po.setHigh {w : World} {p n : Nat} {f : Nat → Bool} (h : Po w p n f) (r : Nat) (h1 : r < 64) (h2 : 64 + r < n) :
    Po ((w.setCell ⟨p, 2, none⟩ (.int .u64 (bits BinOp.or IntKind.u64 ((wd (hi f) 64 : Nat) : Int) (IntKind.u64.wrap (2 ^ r))))).drew) p n (fun i => f i || i == 64 + r) := by
  rw [set_word (hi f) r h1]
  refine h.set2 _ ?_ (fun i hi' => ?_) (fun i hi' => ?_)
  · congr 2
    funext i
    have : (64 + i == 64 + r) = (i == r) := by rw [Bool.eq_iff_iff, beq_iff_eq, beq_iff_eq]; omega
    simp [hi, this]
  · have : (i == 64 + r) = false := beq_eq_false_iff_ne.2 (by omega)
    simp [this]
  · have : (i == 64 + r) = false := beq_eq_false_iff_ne.2 (by omega)
    simp [h.out i hi', this]

/-- Pages with those from a to b taken, too. -/
def upto (f : Nat → Bool) (a b : Nat) : Nat → Bool := fun i => f i || (decide (a ≤ i) && decide (i < b))
theorem upto_none (f : Nat → Bool) (a : Nat) : upto f a a = f := by
  funext i
  unfold upto
  by_cases h : a ≤ i ∧ i < a
  · omega
  · have : (decide (a ≤ i) && decide (i < a)) = false := by rw [Bool.and_eq_false_iff, decide_eq_false_iff_not, decide_eq_false_iff_not]; omega
    rw [this, Bool.or_false]
theorem upto_step (f : Nat → Bool) (a b : Nat) (h : a ≤ b) : (fun i => upto f a b i || i == b) = upto f a (b + 1) := by
  funext i
  unfold upto
  rw [Bool.or_assoc]
  congr 1
  rw [Bool.eq_iff_iff]
  simp only [Bool.or_eq_true, Bool.and_eq_true, decide_eq_true_eq, beq_iff_eq]
  omega

theorem TakeRun_bad (p : Value) (m : Int) (w : World) (h : m < 1) :
    Calls Tryd.prog 14 #[p, .int .i64 m] w fun e w' => e = .returned (.tuple #[.int .i64 0, .int .i64 1]) ∧ w = w' := by
  go_enter Tryd.func14, Tryd.ntmps14
  go_wp2
  go_step3
  go_wp2
  try rw [Exit.noGoto_ret]
  go_ret2
  exact ⟨rfl, rfl⟩

theorem tak_at {f : Nat → Bool} {P : Nat} : tak f (P : Int) = f P := by unfold tak; rw [decide_eq_true (by omega), Int.toNat_natCast]; rfl

/-- Every run of M begins with, or holds, a taken one: so none is found. -/
theorem TakeRun_none {w : World} {p n : Nat} {f : Nat → Bool} (h : Po w p n f) (m : Int) (hm : 1 ≤ m) (hm1 : m ≤ 9223372036854775807) (hno : ∀ b : Nat, (b : Int) + m ≤ n → ∃ j : Nat, (j : Int) < m ∧ f (b + j) = true) :
    Calls Tryd.prog 14 #[.pointer (some ⟨p, 0, none⟩), .int .i64 m] w fun e w' => e = .returned (.tuple #[.int .i64 0, .int .i64 5]) ∧ w = w' := by
  have HP := Lib.hid h
  have HN := Lib.hid hno
  have hn := h.len
  clear h hno
  by_cases hbig : (n : Int) < m
  · go_enter Tryd.func14, Tryd.ntmps14
    go_wp2
    go_step3
    go_wp2
    go_step3
    go_wp2
    refine wp_loop_rounds 1 ?_
    rw [rounds_succ]
    go_wp2_with fail
    refine (PLen_calls HP.out).mono ?_
    rintro e w' ⟨rfl, rfl⟩
    go_wp2
    try rw [Exit.noGoto_ret]
    go_ret2
    exact ⟨rfl, rfl⟩
  · obtain ⟨M, rfl⟩ := Int.eq_ofNat_of_zero_le (show 0 ≤ m by omega)
    have hMn : M ≤ n := by omega
    clear hbig
    go_enter Tryd.func14, Tryd.ntmps14
    go_wp2
    go_step3
    go_wp2
    go_step3
    go_wp2
    go_loopg [6] n (fun g v wr => ∃ k : Nat, k + g = n ∧ v = .int .i64 k ∧ w = wr)
    case atStart => exact ⟨0, by omega, rfl, rfl⟩
    case round =>
      obtain ⟨k, hk, rfl, rfl⟩ := hrel
      by_cases hfit : k + M ≤ n
      · obtain ⟨j0, hj0, hfj, hlow⟩ : ∃ j, j < M ∧ f (k + j) = true ∧ ∀ i, i < j → f (k + i) = false := by
          rcases least_or (fun i => !(f (k + i))) M with hall | ⟨j, h1, h2, h3⟩
          · obtain ⟨j, hj, hf⟩ := HN.out k (by omega)
            have := hall j (by omega)
            simp [hf] at this
          · exact ⟨j, h1, by simpa using h2, fun i hi' => by simpa using h3 i hi'⟩
        have HJ := Lib.hid hfj
        have HW := Lib.hid hlow
        clear hfj hlow
        have hdk : decide ((k : Int) ≤ (n : Int) - (M : Int)) = true := decide_eq_true (by omega)
        go_wp2_with fail
        refine (PLen_calls HP.out).mono ?_
        rintro e w' ⟨rfl, rfl⟩
        go_wp2_with fail
        refine (PLen_calls HP.out).mono ?_
        rintro e w' ⟨rfl, rfl⟩
        go_wp2_with fail
        go_loopg [6, 7] M (fun g s v wr => ∃ j : Nat, j + g = M ∧ j ≤ j0 ∧ s = .int .i64 k ∧ v = .int .i64 ((k + j : Nat) : Int) ∧ w = wr)
        case atStart => exact ⟨0, by omega, by omega, rfl, rfl, rfl⟩
        case round =>
          obtain ⟨j, hjg, hj, rfl, rfl, rfl⟩ := hrel
          by_cases he : j < j0
          · go_wp2_with fail
            rw [show (k : Int) + (j : Int) = ((k + j : Nat) : Int) from by omega]
            refine (Taken_calls HP.out _).mono ?_
            rintro e w' ⟨rfl, rfl⟩
            rw [tak_at, HW.out j he]
            go_wp2
            go_roundg (M - (j + 1))
            case measure => omega
            case rel => exact ⟨j + 1, by omega, by omega, rfl, by go_num, rfl⟩
          · obtain rfl : j = j0 := by omega
            go_wp2_with fail
            rw [show (k : Int) + (j : Int) = ((k + j : Nat) : Int) from by omega]
            refine (Taken_calls HP.out _).mono ?_
            rintro e w' ⟨rfl, rfl⟩
            rw [tak_at, HJ.out]
            go_wp2
            go_roundg (n - (k + j + 1))
            case measure => omega
            case rel => exact ⟨k + j + 1, by omega, by go_num, rfl⟩
      · go_wp2_with fail
        refine (PLen_calls HP.out).mono ?_
        rintro e w' ⟨rfl, rfl⟩
        go_wp2_with fail
        refine (PLen_calls HP.out).mono ?_
        rintro e w' ⟨rfl, rfl⟩
        go_wp2
        try rw [Exit.noGoto_ret]
        go_ret2
        exact ⟨rfl, rfl⟩

set_option maxHeartbeats 1000000 in
/-- The lowest run is taken. -/
theorem TakeRun_ok {w : World} {p n : Nat} {f : Nat → Bool} (h : Po w p n f) (M a : Nat) (hm : 1 ≤ M) (ha : a + M ≤ n) (hfree : ∀ j, j < M → f (a + j) = false) (hno : ∀ b, b < a → ∃ j, j < M ∧ f (b + j) = true) :
    Calls Tryd.prog 14 #[.pointer (some ⟨p, 0, none⟩), .int .i64 (M : Int)] w fun e w' => e = .returned (.tuple #[.int .i64 (a : Int), .int .i64 0]) ∧ Po w' p n (upto f a (a + M)) ∧ w.grownBy w' (some p) := by
  have HP := Lib.hid h
  have HN := Lib.hid hno
  have HF := Lib.hid hfree
  have hn := h.len
  clear h hno hfree
  go_enter Tryd.func14, Tryd.ntmps14
  go_wp2
  go_step3
  go_wp2
  go_step3
  go_wp2
  go_loopg [6] a (fun g v wr => ∃ k : Nat, k + g = a ∧ v = .int .i64 k ∧ w = wr)
  case atStart => exact ⟨0, by omega, rfl, rfl⟩
  case round =>
    obtain ⟨k, hk, rfl, rfl⟩ := hrel
    by_cases hka : k < a
    · obtain ⟨j0, hj0, hfj, hlow⟩ : ∃ j, j < M ∧ f (k + j) = true ∧ ∀ i, i < j → f (k + i) = false := by
        rcases least_or (fun i => !(f (k + i))) M with hall | ⟨j, h1, h2, h3⟩
        · obtain ⟨j, hj, hf⟩ := HN.out k hka
          have := hall j hj
          simp [hf] at this
        · exact ⟨j, h1, by simpa using h2, fun i hi' => by simpa using h3 i hi'⟩
      have hja : k + j0 < a := by
        rcases Nat.lt_or_ge (k + j0) a with h | h
        · exact h
        · have := HF.out (k + j0 - a) (by omega)
          rw [show a + (k + j0 - a) = k + j0 by omega, hfj] at this
          cases this
      have HJ := Lib.hid hfj
      have HW := Lib.hid hlow
      clear hfj hlow
      have hdk : decide ((k : Int) ≤ (n : Int) - (M : Int)) = true := decide_eq_true (by omega)
      go_wp2_with fail
      refine (PLen_calls HP.out).mono ?_
      rintro e w' ⟨rfl, rfl⟩
      go_wp2_with fail
      refine (PLen_calls HP.out).mono ?_
      rintro e w' ⟨rfl, rfl⟩
      go_wp2_with fail
      go_loopg [6, 7] M (fun g s v wr => ∃ j : Nat, j + g = M ∧ j ≤ j0 ∧ s = .int .i64 k ∧ v = .int .i64 ((k + j : Nat) : Int) ∧ w = wr)
      case atStart => exact ⟨0, by omega, by omega, rfl, rfl, rfl⟩
      case round =>
        obtain ⟨j, hjg, hj, rfl, rfl, rfl⟩ := hrel
        by_cases he : j < j0
        · go_wp2_with fail
          rw [show (k : Int) + (j : Int) = ((k + j : Nat) : Int) from by omega]
          refine (Taken_calls HP.out _).mono ?_
          rintro e w' ⟨rfl, rfl⟩
          rw [tak_at, HW.out j he]
          go_wp2
          go_roundg (M - (j + 1))
          case measure => omega
          case rel => exact ⟨j + 1, by omega, by omega, rfl, by go_num, rfl⟩
        · obtain rfl : j = j0 := by omega
          go_wp2_with fail
          rw [show (k : Int) + (j : Int) = ((k + j : Nat) : Int) from by omega]
          refine (Taken_calls HP.out _).mono ?_
          rintro e w' ⟨rfl, rfl⟩
          rw [tak_at, HJ.out]
          go_wp2
          go_roundg (a - (k + j + 1))
          case measure => omega
          case rel => exact ⟨k + j + 1, by omega, by go_num, rfl⟩
    · obtain rfl : k = a := by omega
      clear hka
      have hdk : decide ((k : Int) ≤ (n : Int) - (M : Int)) = true := decide_eq_true (by omega)
      go_wp2_with fail
      refine (PLen_calls HP.out).mono ?_
      rintro e w' ⟨rfl, rfl⟩
      go_wp2_with fail
      refine (PLen_calls HP.out).mono ?_
      rintro e w' ⟨rfl, rfl⟩
      go_wp2_with fail
      go_loopg [6, 7] M (fun g s v wr => ∃ j : Nat, j + g = M ∧ s = .int .i64 k ∧ v = .int .i64 ((k + j : Nat) : Int) ∧ w = wr)
      case atStart => exact ⟨0, by omega, rfl, rfl, rfl⟩
      case round =>
        obtain ⟨j, hjg, rfl, rfl, rfl⟩ := hrel
        by_cases he : j < M
        · go_wp2_with fail
          rw [show (k : Int) + (j : Int) = ((k + j : Nat) : Int) from by omega]
          refine (Taken_calls HP.out _).mono ?_
          rintro e w' ⟨rfl, rfl⟩
          rw [tak_at, HF.out j he]
          go_wp2
          go_roundg (M - (j + 1))
          case measure => omega
          case rel => exact ⟨j + 1, by omega, rfl, by go_num, rfl⟩
        · obtain rfl : j = M := by omega
          clear he
          go_wp2_with fail
          go_loopg [8] j (fun g v wr => ∃ i : Nat, i + g = j ∧ v = .int .i64 ((k + i : Nat) : Int) ∧ Po wr p n (upto f k (k + i)) ∧ w.grownBy wr (some p))
          case atStart => exact ⟨0, by omega, rfl, by rw [Nat.add_zero, upto_none]; exact HP.out, World.grownBy.refl _ _⟩
          case round =>
            obtain ⟨i, hig, rfl, hPo, hgr⟩ := hrel
            have HPo := Lib.hid hPo
            have HGr := Lib.hid hgr
            clear hPo hgr
            by_cases hi2 : i < j
            · have c1 := HPo.out.c1
              have c2 := HPo.out.c2
              have fr1 := HPo.out.frozen 1
              have fr2 := HPo.out.frozen 2
              by_cases hlo : k + i < 64
              · have hq : ((k : Int) + (i : Int)) / 64 = 0 := by omega
                have hr : ((k : Int) + (i : Int)) % 64 = ((k + i : Nat) : Int) := by omega
                go_wp2
                go_region
                all_goals go_wp2
                all_goals go_roundg (j - (i + 1))
                case measure => omega
                case rel =>
                  have hs := HPo.out.setLow (k + i) hlo (by omega)
                  rw [upto_step f k (k + i) (by omega)] at hs
                  exact ⟨i + 1, by omega, by go_num, hs, only_drew (only_setCell HGr.out (.inl rfl) _)⟩
              · obtain ⟨r, hr0⟩ : ∃ r, k + i = 64 + r := ⟨k + i - 64, by omega⟩
                have HR0 := Lib.hid hr0
                have hq : ((k : Int) + (i : Int)) / 64 = 1 := by omega
                have hr : ((k : Int) + (i : Int)) % 64 = (r : Int) := by omega
                clear hr0
                go_wp2
                go_region
                all_goals go_wp2
                all_goals go_roundg (j - (i + 1))
                case measure => omega
                case rel =>
                  have h0 := HR0.out
                  have hs := HPo.out.setHigh r (by omega) (by omega)
                  rw [← h0, upto_step f k (k + i) (by omega)] at hs
                  exact ⟨i + 1, by omega, by go_num, hs, only_drew (only_setCell HGr.out (.inl rfl) _)⟩
            · obtain rfl : i = j := by omega
              go_wp2
              try rw [Exit.noGoto_ret]
              go_ret2
              exact ⟨rfl, HPo.out, HGr.out⟩

theorem TakeRun_nil (m : Int) (w : World) (hm : 1 ≤ m) :
    Calls Tryd.prog 14 #[.pointer none, .int .i64 m] w fun e w' => e = .returned (.tuple #[.int .i64 0, .int .i64 5]) ∧ w = w' := by
  go_enter Tryd.func14, Tryd.ntmps14
  go_wp2
  go_step3
  go_wp2
  go_step3
  go_wp2
  refine wp_loop_rounds 1 ?_
  rw [rounds_succ]
  go_wp2_with fail
  refine (PLen_nil _).mono ?_
  rintro e w' ⟨rfl, rfl⟩
  go_wp2
  try rw [Exit.noGoto_ret]
  go_ret2
  exact ⟨rfl, rfl⟩
end Go.Proofs.YtiamohjonljdnaaDoor
