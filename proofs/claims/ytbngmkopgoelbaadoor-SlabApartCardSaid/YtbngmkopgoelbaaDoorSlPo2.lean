/- The pool (layer 2): what each function answers. -/
import Derived.Test.YtbngmkopgoelbaaDoorSlPo
set_option linter.unusedVariables false
set_option linter.unusedSimpArgs false
namespace Go.Proofs.YtbngmkopgoelbaaDoor
open Go.RowKit

def hi (f : Nat → Bool) : Nat → Bool := fun i => f (64 + i)

/-- A pool in memory: how many pages, and which ones are taken. -/
structure Po (w : World) (p n : Nat) (f : Nat → Bool) : Prop where
  blk : w.heap[p]? = some (.cells #[.int .i64 (n : Int), .int .u64 ((wd f 64 : Nat) : Int), .int .u64 ((wd (hi f) 64 : Nat) : Int)] 86 (0, 0))
  len : n ≤ 128
  out : ∀ i, n ≤ i → f i = false

theorem Po.lt {w : World} {p n : Nat} {f : Nat → Bool} (h : Po w p n f) : p < w.heap.size := by
  have hp := h.blk
  rcases Nat.lt_or_ge p w.heap.size with hlt | hge
  · exact hlt
  · rw [Array.getElem?_eq_none hge] at hp; cases hp
theorem Po.below {w w1 : World} {p n : Nat} {f : Nat → Bool} (h : Po w p n f) (hb : Below w.heap.size w w1) : Po w1 p n f := ⟨(hb.block p h.lt).trans h.blk, h.len, h.out⟩
theorem Po.c0 {w : World} {p n : Nat} {f : Nat → Bool} (h : Po w p n f) : w.cell? ⟨p, 0, none⟩ = some (.int .i64 (n : Int)) := by rw [cell_of_row w p 0 _ _ _ h.blk]; rfl
theorem Po.c1 {w : World} {p n : Nat} {f : Nat → Bool} (h : Po w p n f) : w.cell? ⟨p, 1, none⟩ = some (.int .u64 ((wd f 64 : Nat) : Int)) := by rw [cell_of_row w p 1 _ _ _ h.blk]; rfl
theorem Po.c2 {w : World} {p n : Nat} {f : Nat → Bool} (h : Po w p n f) : w.cell? ⟨p, 2, none⟩ = some (.int .u64 ((wd (hi f) 64 : Nat) : Int)) := by rw [cell_of_row w p 2 _ _ _ h.blk]; rfl
theorem Po.frozen {w : World} {p n : Nat} {f : Nat → Bool} (h : Po w p n f) (i : Nat) : w.frozen? ⟨p, i, none⟩ = false := by
  have := h.blk
  simp [World.frozen?, this]

theorem PLen_calls {w : World} {p n : Nat} {f : Nat → Bool} (h : Po w p n f) :
    Calls Tryd.prog 39 #[.pointer (some ⟨p, 0, none⟩)] w fun e w' => e = .returned (.int .i64 (n : Int)) ∧ w = w' := by
  have hc := h.c0
  clear h
  go_enter Tryd.func39, Tryd.ntmps39
  go_wp2
  go_ret
  exact ⟨rfl, rfl⟩
theorem PLen_nil (w : World) :
    Calls Tryd.prog 39 #[.pointer none] w fun e w' => e = .returned (.int .i64 0) ∧ w = w' := by
  go_enter Tryd.func39, Tryd.ntmps39
  go_wp2
  go_ret
  exact ⟨rfl, rfl⟩

theorem wd_none : wd (fun _ => false) 64 = 0 := by decide
theorem wd_none' : wd (hi (fun _ => false)) 64 = 0 := by decide

theorem PNew_ok (n : Nat) (w : World) (h1 : n ≤ 128) :
    Calls Tryd.prog 28 #[.int .i64 (n : Int)] w fun e w' => e = .returned (.tuple #[.pointer (some ⟨w.heap.size, 0, none⟩), .int .i64 0]) ∧ Po w' w.heap.size n (fun _ => false) ∧ Below w.heap.size w w' := by
  go_enter Tryd.func28, Tryd.ntmps28
  go_wp2
  go_ret2
  refine ⟨rfl, ⟨?_, h1, fun _ _ => rfl⟩, (Below.refl _ _).alloc (Nat.le_refl _) _⟩
  rw [wd_none, wd_none']
  exact heap_alloc_new w _

/-- What Taken tells. -/
def tak (f : Nat → Bool) (page : Int) : Bool := decide (0 ≤ page) && f page.toNat

theorem ask_bit (g : Nat → Bool) (r : Nat) (hr : r < 64) : (bits BinOp.and IntKind.u64 (((wd g 64 : Nat) : Int) / 2 ^ r) 1 == 1) = g r := by
  have hl := wd_lt64 g
  have e : ((wd g 64 : Nat) : Int) / 2 ^ r = ((wd g 64 / 2 ^ r : Nat) : Int) := by simp
  have hle : wd g 64 / 2 ^ r ≤ wd g 64 := Nat.div_le_self _ _
  rw [e, show (1 : Int) = ((1 : Nat) : Int) from rfl, u64_and_nat _ _ (by omega) (by decide), Nat.and_one_is_mod, wd_ask g r hr]
  cases g r <;> rfl

theorem Taken_calls {w : World} {p n : Nat} {f : Nat → Bool} (h : Po w p n f) (page : Int) :
    Calls Tryd.prog 43 #[.pointer (some ⟨p, 0, none⟩), .int .i64 page] w fun e w' => e = .returned (.bool (tak f page)) ∧ w = w' := by
  have HP := Lib.hid h
  have hn := h.len
  clear h
  by_cases h0 : page < 0
  · go_enter Tryd.func43, Tryd.ntmps43
    go_wp2
    go_ret
    refine ⟨ret_bool ?_, rfl⟩
    unfold tak
    rw [decide_eq_false (by omega)]
    rfl
  · obtain ⟨P, rfl⟩ := Int.eq_ofNat_of_zero_le (show 0 ≤ page by omega)
    have ht : tak f (P : Int) = f P := by unfold tak; rw [decide_eq_true (by omega), Int.toNat_natCast]; rfl
    have HT := Lib.hid ht
    clear ht h0
    by_cases h1 : P < n
    · by_cases h2 : P < 64
      · have hc := HP.out.c1
        have hq : (P : Int) / 64 = 0 := by omega
        have hr : (P : Int) % 64 = P := by omega
        go_enter Tryd.func43, Tryd.ntmps43
        go_wp2_with fail
        refine (PLen_calls HP.out).mono ?_
        rintro e w' ⟨rfl, rfl⟩
        go_wp2
        go_ret
        refine ⟨ret_bool ?_, rfl⟩
        rw [HT.out]
        exact ask_bit f P h2
      · obtain ⟨R, rfl⟩ : ∃ R, P = 64 + R := ⟨P - 64, by omega⟩
        have hc := HP.out.c2
        have hq : (64 + (R : Int)) / 64 = 1 := by omega
        have hr : (64 + (R : Int)) % 64 = (R : Int) := by omega
        go_enter Tryd.func43, Tryd.ntmps43
        go_wp2_with fail
        refine (PLen_calls HP.out).mono ?_
        rintro e w' ⟨rfl, rfl⟩
        go_wp2
        go_ret
        refine ⟨ret_bool ?_, rfl⟩
        rw [HT.out]
        exact ask_bit (hi f) R (by omega)
    · go_enter Tryd.func43, Tryd.ntmps43
      go_wp2_with fail
      refine (PLen_calls HP.out).mono ?_
      rintro e w' ⟨rfl, rfl⟩
      go_wp2
      go_ret
      refine ⟨ret_bool ?_, rfl⟩
      rw [HT.out, HP.out.out P (by omega)]

theorem Taken_nil (page : Int) (w : World) :
    Calls Tryd.prog 43 #[.pointer none, .int .i64 page] w fun e w' => e = .returned (.bool false) ∧ w = w' := by
  by_cases h0 : page < 0
  · go_enter Tryd.func43, Tryd.ntmps43
    go_wp2
    go_ret
    exact ⟨rfl, rfl⟩
  · go_enter Tryd.func43, Tryd.ntmps43
    go_wp2_with fail
    refine (PLen_nil _).mono ?_
    rintro e w' ⟨rfl, rfl⟩
    go_wp2
    go_ret
    exact ⟨rfl, rfl⟩

theorem only_drew {a w : World} {row : Option Nat} (h : a.grownBy w row) : a.grownBy w.drew row := ⟨h.os, h.tape, h.output, h.size, h.block⟩

theorem w2 {r : Nat} (h : r < 64) : IntKind.u64.wrap ((2 : Int) ^ r) = ((2 ^ r : Nat) : Int) := by
  have hp : 2 ^ r < 2 ^ 64 := Nat.pow_lt_pow_right (by omega) h
  rw [show ((2 : Int) ^ r) = ((2 ^ r : Nat) : Int) from by simp]
  exact wu (by omega)

/-- A store into one of the words. -/
theorem Po.set1 {w : World} {p n : Nat} {f f' : Nat → Bool} (h : Po w p n f) (x : Int) (hx : x = ((wd f' 64 : Nat) : Int)) (hh : ∀ i, i < 64 → f' (64 + i) = f (64 + i)) (ho : ∀ i, n ≤ i → f' i = false) :
    Po ((w.setCell ⟨p, 1, none⟩ (.int .u64 x)).drew) p n f' := by
  refine ⟨?_, h.len, ho⟩
  have hr := h.blk
  have e : wd (hi f') 64 = wd (hi f) 64 := wd_congr _ _ _ hh
  rw [e, hx.symm]
  show (w.setCell ⟨p, 1, none⟩ (.int .u64 x)).heap[p]? = _
  simp [World.setCell, Array.getElem?_modify, hr]
theorem Po.set2 {w : World} {p n : Nat} {f f' : Nat → Bool} (h : Po w p n f) (x : Int) (hx : x = ((wd (hi f') 64 : Nat) : Int)) (hh : ∀ i, i < 64 → f' i = f i) (ho : ∀ i, n ≤ i → f' i = false) :
    Po ((w.setCell ⟨p, 2, none⟩ (.int .u64 x)).drew) p n f' := by
  refine ⟨?_, h.len, ho⟩
  have hr := h.blk
  have e : wd f' 64 = wd f 64 := wd_congr _ _ _ hh
  rw [e, hx.symm]
  show (w.setCell ⟨p, 2, none⟩ (.int .u64 x)).heap[p]? = _
  simp [World.setCell, Array.getElem?_modify, hr]
theorem Po.grown1 {w : World} {p n : Nat} {f : Nat → Bool} (h : Po w p n f) (i : Nat) (u : Value) : w.grownBy ((w.setCell ⟨p, i, none⟩ u).drew) (some p) := only_drew (only_setCell (World.grownBy.refl _ _) (.inl rfl) u)

theorem clr_word (g : Nat → Bool) (r : Nat) (hr : r < 64) : bits BinOp.andNot IntKind.u64 ((wd g 64 : Nat) : Int) (IntKind.u64.wrap (2 ^ r)) = ((wd (fun i => g i && !(i == r)) 64 : Nat) : Int) := by
  have hp : 2 ^ r < 2 ^ 64 := Nat.pow_lt_pow_right (by omega) hr
  rw [w2 hr, u64_andNot_nat _ _ (wd_lt64 g) (by omega), wd_andNot g r hr]
theorem set_word (g : Nat → Bool) (r : Nat) (hr : r < 64) : bits BinOp.or IntKind.u64 ((wd g 64 : Nat) : Int) (IntKind.u64.wrap (2 ^ r)) = ((wd (fun i => g i || i == r) 64 : Nat) : Int) := by
  have hp : 2 ^ r < 2 ^ 64 := Nat.pow_lt_pow_right (by omega) hr
  rw [w2 hr, u64_or_nat _ _ (wd_lt64 g) (by omega), wd_or g r hr]

/-- Nothing but the pool has turned. -/
theorem Give_bad {w : World} {p n : Nat} {f : Nat → Bool} (h : Po w p n f) (page : Int) (hp : page < 0 ∨ n ≤ page) :
    Calls Tryd.prog 36 #[.pointer (some ⟨p, 0, none⟩), .int .i64 page] w fun e w' => e = .returned (.int .i64 1) ∧ w = w' := by
  have HP := Lib.hid h
  clear h
  by_cases h0 : page < 0
  · clear hp
    go_enter Tryd.func36, Tryd.ntmps36
    go_wp2
    go_ret
    exact ⟨rfl, rfl⟩
  · have h1 : (n : Int) ≤ page := by omega
    clear hp
    go_enter Tryd.func36, Tryd.ntmps36
    go_wp2_with fail
    refine (PLen_calls HP.out).mono ?_
    rintro e w' ⟨rfl, rfl⟩
    go_wp2
    go_ret
    exact ⟨rfl, rfl⟩
theorem Give_none {w : World} {p n : Nat} {f : Nat → Bool} (h : Po w p n f) (P : Nat) (hP : P < n) (hf : f P = false) :
    Calls Tryd.prog 36 #[.pointer (some ⟨p, 0, none⟩), .int .i64 (P : Int)] w fun e w' => e = .returned (.int .i64 6) ∧ w = w' := by
  have HP := Lib.hid h
  have ht : tak f (P : Int) = false := by unfold tak; rw [decide_eq_true (by omega), Int.toNat_natCast, hf]; rfl
  have HT := Lib.hid ht
  clear h hf ht
  go_enter Tryd.func36, Tryd.ntmps36
  go_wp2_with fail
  refine (PLen_calls HP.out).mono ?_
  rintro e w' ⟨rfl, rfl⟩
  go_wp2_with fail
  refine (Taken_calls HP.out (P : Int)).mono ?_
  rintro e w' ⟨rfl, rfl⟩
  rw [HT.out]
  go_wp2
  go_ret
  exact ⟨rfl, rfl⟩

theorem Give_ok {w : World} {p n : Nat} {f : Nat → Bool} (h : Po w p n f) (P : Nat) (hP : P < n) (hf : f P = true) :
    Calls Tryd.prog 36 #[.pointer (some ⟨p, 0, none⟩), .int .i64 (P : Int)] w fun e w' => e = .returned (.int .i64 0) ∧ Po w' p n (fun i => f i && !(i == P)) ∧ w.grownBy w' (some p) := by
  have HP := Lib.hid h
  have hn := h.len
  have ht : tak f (P : Int) = true := by unfold tak; rw [decide_eq_true (by omega), Int.toNat_natCast, hf]; rfl
  have HT := Lib.hid ht
  have fr1 := h.frozen 1
  have fr2 := h.frozen 2
  clear h hf ht
  by_cases h2 : P < 64
  · have hc := HP.out.c1
    have hq : (P : Int) / 64 = 0 := by omega
    have hr : (P : Int) % 64 = P := by omega
    go_enter Tryd.func36, Tryd.ntmps36
    go_wp2_with fail
    refine (PLen_calls HP.out).mono ?_
    rintro e w' ⟨rfl, rfl⟩
    go_wp2_with fail
    refine (Taken_calls HP.out (P : Int)).mono ?_
    rintro e w' ⟨rfl, rfl⟩
    rw [HT.out]
    go_wp2
    go_region
    all_goals go_wp2
    all_goals go_ret
    refine ⟨rfl, ?_, HP.out.grown1 1 _⟩
    rw [clr_word f P h2]
    refine HP.out.set1 _ rfl (fun i hi' => ?_) (fun i hi' => ?_)
    · have : (64 + i == P) = false := beq_eq_false_iff_ne.2 (by omega)
      simp [this]
    · simp [HP.out.out i hi']
  · obtain ⟨R, rfl⟩ : ∃ R, P = 64 + R := ⟨P - 64, by omega⟩
    have hc := HP.out.c2
    have hq : (64 + (R : Int)) / 64 = 1 := by omega
    have hr : (64 + (R : Int)) % 64 = (R : Int) := by omega
    go_enter Tryd.func36, Tryd.ntmps36
    go_wp2_with fail
    refine (PLen_calls HP.out).mono ?_
    rintro e w' ⟨rfl, rfl⟩
    go_wp2_with fail
    refine (Taken_calls HP.out _).mono ?_
    rintro e w' ⟨rfl, rfl⟩
    rw [show (64 + (R : Int)) = ((64 + R : Nat) : Int) from by omega, HT.out]
    go_wp2
    go_region
    all_goals go_wp2
    all_goals go_ret
    refine ⟨rfl, ?_, HP.out.grown1 2 _⟩
    rw [clr_word (hi f) R (by omega)]
    refine HP.out.set2 _ ?_ (fun i hi' => ?_) (fun i hi' => ?_)
    · congr 2
      funext i
      have : (64 + i == 64 + R) = (i == R) := by rw [Bool.eq_iff_iff, beq_iff_eq, beq_iff_eq]; omega
      simp [hi, this]
    · have : (i == 64 + R) = false := beq_eq_false_iff_ne.2 (by omega)
      simp [this]
    · simp [HP.out.out i hi']
end Go.Proofs.YtbngmkopgoelbaaDoor
