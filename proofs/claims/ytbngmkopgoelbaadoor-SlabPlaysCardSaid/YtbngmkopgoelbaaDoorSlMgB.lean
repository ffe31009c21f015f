import Derived.Lib.TrailingZeros
import Derived.Test.YtbngmkopgoelbaaDoorSlMgA
import Derived.Below
import Derived.Deep.Draws
import Derived.Laws.OwnMore
import Derived.Laws.Rows
import Derived.Laws.MakeOwn
import Derived.Laws.Slices
import Derived.OwnWalk
import Derived.WalkKit
import Derived.KernelRfl
import Derived.Deep.LoopGhost
import Derived.Deep.QuietTactic
import Derived.BigQuiet
import Derived.RegionTactic
import Derived.Lib.Hide
import Derived.IntWalk
import Derived.WalkSmall
import Derived.WalkSpells
import Derived.WalkLawsBesides
import Derived.Shelf.Spec.TrailingZeros
/- Plain: a word of 64 bits as a set; its lowest free bit; how many bits it has. -/
set_option linter.unusedVariables false
set_option linter.unusedSimpArgs false
namespace Go.Proofs.YtbngmkopgoelbaaDoor

/-- The word whose first k bits are g's. -/
def wd (g : Nat → Bool) : Nat → Nat
  | 0 => 0
  | k + 1 => wd g k + (if g k then 2 ^ k else 0)

theorem wd_lt (g : Nat → Bool) : ∀ k, wd g k < 2 ^ k
  | 0 => by simp [wd]
  | k + 1 => by
    have := wd_lt g k
    unfold wd
    rw [Nat.pow_succ]
    split <;> omega
theorem wd_lt64 (g : Nat → Bool) : wd g 64 < 18446744073709551616 := wd_lt g 64

theorem wd_bit (g : Nat → Bool) (i : Nat) : ∀ k, (wd g k).testBit i = (decide (i < k) && g i)
  | 0 => by simp [wd]
  | k + 1 => by
    unfold wd
    have hl := wd_lt g k
    have ih := wd_bit g i k
    by_cases hg : g k
    · rw [if_pos hg, Nat.add_comm]
      by_cases hi : i = k
      · subst hi
        rw [Nat.testBit_two_pow_add_eq, ih]
        simp [hg]
      · by_cases hlt : i < k
        · rw [Nat.testBit_two_pow_add_gt hlt, ih]
          simp [hlt, Nat.lt_succ_of_lt hlt]
        · have hk : k + 1 ≤ i := by omega
          have h2 : 2 ^ k + wd g k < 2 ^ i := by
            have : 2 ^ (k + 1) ≤ 2 ^ i := Nat.pow_le_pow_right (by omega) hk
            rw [Nat.pow_succ] at this
            omega
          rw [Nat.testBit_lt_two_pow h2]
          simp
          omega
    · rw [if_neg hg, Nat.add_zero, ih]
      by_cases hi : i = k
      · subst hi
        simp [hg]
      · have : (i < k + 1) ↔ i < k := by omega
        simp [this]

theorem wd_congr (g h : Nat → Bool) : ∀ k, (∀ i, i < k → g i = h i) → wd g k = wd h k
  | 0, _ => rfl
  | k + 1, e => by
    unfold wd
    rw [wd_congr g h k (fun i hi => e i (by omega)), e k (by omega)]

/-- One bit set. -/
theorem wd_or (g : Nat → Bool) (r : Nat) (hr : r < 64) : wd g 64 ||| 2 ^ r = wd (fun i => g i || i == r) 64 := by
  apply Nat.eq_of_testBit_eq
  intro i
  rw [Nat.testBit_or, wd_bit, wd_bit, Nat.testBit_two_pow]
  by_cases h : i = r
  · subst h; simp [hr]
  · have h1 : ¬ r = i := fun e => h e.symm
    have h2 : (i == r) = false := beq_eq_false_iff_ne.2 h
    simp [h1, h2]
/-- One bit cleared. -/
theorem wd_andNot (g : Nat → Bool) (r : Nat) (hr : r < 64) : wd g 64 &&& (18446744073709551615 - 2 ^ r) = wd (fun i => g i && !(i == r)) 64 := by
  apply Nat.eq_of_testBit_eq
  intro i
  have e : 18446744073709551615 - 2 ^ r = 2 ^ 64 - (2 ^ r + 1) := by omega
  have hp : 2 ^ r < 2 ^ 64 := Nat.pow_lt_pow_right (by omega) hr
  rw [Nat.testBit_and, wd_bit, wd_bit, e, Nat.testBit_two_pow_sub_succ hp, Nat.testBit_two_pow]
  by_cases h : i = r
  · subst h; simp
  · have h1 : ¬ r = i := fun e => h e.symm
    have h2 : (i == r) = false := beq_eq_false_iff_ne.2 h
    by_cases hi : i < 64 <;> simp [h1, h2, hi]
/-- One bit asked. -/
theorem wd_ask (g : Nat → Bool) (r : Nat) (hr : r < 64) : wd g 64 / 2 ^ r % 2 = if g r then 1 else 0 := by
  have := Nat.toNat_testBit (wd g 64) r
  rw [← this, wd_bit]
  simp [hr]
  cases g r <;> rfl

/-- The word turned about. -/
theorem wd_not_bit (g : Nat → Bool) (i : Nat) : (18446744073709551615 - wd g 64).testBit i = (decide (i < 64) && !(g i)) := by
  have e : 18446744073709551615 - wd g 64 = 2 ^ 64 - (wd g 64 + 1) := by omega
  rw [e, Nat.testBit_two_pow_sub_succ (wd_lt g 64), wd_bit]
  by_cases h : i < 64 <;> simp [h]
theorem wd_full (g : Nat → Bool) (h : ∀ i, i < 64 → g i = true) : wd g 64 = 18446744073709551615 := by
  rw [wd_congr g (fun _ => true) 64 h]
  decide
theorem wd_not_ne (g : Nat → Bool) (a : Nat) (ha : a < 64) (h : g a = false) : 18446744073709551615 - wd g 64 ≠ 0 := by
  intro e
  have := wd_not_bit g a
  rw [e, h] at this
  simp [ha] at this
theorem ctz_bit (c m i : Nat) (hi : i < c) : (2 ^ c * (2 * m + 1)).testBit i = false := by
  rw [Nat.testBit_two_pow_mul]
  simp
  omega
theorem ctz_bit_at (c m : Nat) : (2 ^ c * (2 * m + 1)).testBit c = true := by
  rw [Nat.testBit_two_pow_mul]
  simp
/-- Its lowest bit is the lowest free one. -/
theorem wd_ctz (g : Nat → Bool) (a : Nat) (ha : a < 64) (h : g a = false) (hl : ∀ i, i < a → g i = true) : Lib.ctz 64 (18446744073709551615 - wd g 64) = a := by
  have hne := wd_not_ne g a ha h
  have hlt : 18446744073709551615 - wd g 64 < 2 ^ 64 := by omega
  obtain ⟨m, hm, hc⟩ := Lib.ctzFrom_spec 64 _ (Nat.pos_of_ne_zero hne) hlt
  have e : Lib.ctz 64 (18446744073709551615 - wd g 64) = Lib.ctzFrom 64 (18446744073709551615 - wd g 64) := by unfold Lib.ctz; rw [if_neg hne]
  rw [e]
  generalize hcc : Lib.ctzFrom 64 (18446744073709551615 - wd g 64) = c at *
  rcases Nat.lt_trichotomy c a with hlt' | heq | hgt
  · have h1 := wd_not_bit g c
    rw [hm, ctz_bit_at, hl c hlt'] at h1
    simp at h1
  · exact heq
  · have h1 := wd_not_bit g a
    rw [hm, ctz_bit c m a hgt, h] at h1
    simp [ha] at h1

/-- How many of the first k are. -/
def cnt (f : Nat → Bool) : Nat → Nat
  | 0 => 0
  | k + 1 => cnt f k + (if f k then 1 else 0)
theorem cnt_le (f : Nat → Bool) : ∀ k, cnt f k ≤ k
  | 0 => Nat.le_refl _
  | k + 1 => by have := cnt_le f k; unfold cnt; split <;> omega
theorem cnt_congr (f g : Nat → Bool) : ∀ k, (∀ i, i < k → f i = g i) → cnt f k = cnt g k
  | 0, _ => rfl
  | k + 1, h => by unfold cnt; rw [cnt_congr f g k (fun i hi => h i (by omega)), h k (by omega)]
theorem cnt_add (f : Nat → Bool) (a : Nat) : ∀ b, cnt f (a + b) = cnt f a + cnt (fun i => f (a + i)) b
  | 0 => rfl
  | b + 1 => by
    show cnt f (a + b) + (if f (a + b) then 1 else 0) = cnt f a + (cnt (fun i => f (a + i)) b + (if f (a + b) then 1 else 0))
    rw [cnt_add f a b]
    omega
theorem cnt_beyond (f : Nat → Bool) (n : Nat) (h : ∀ i, n ≤ i → f i = false) (m : Nat) (hm : n ≤ m) : cnt f m = cnt f n := by
  obtain ⟨d, rfl⟩ := Nat.le.dest hm
  rw [cnt_add]
  have : ∀ d, cnt (fun i => f (n + i)) d = 0 := by
    intro d
    induction d with
    | zero => rfl
    | succ d ih => unfold cnt; rw [ih, h _ (by omega)]; rfl
  rw [this]
  rfl
theorem cnt_all (f : Nat → Bool) (n : Nat) (h : ∀ i, i < n → f i = true) : cnt f n = n := by
  rw [cnt_congr f (fun _ => true) n h]
  induction n with
  | zero => rfl
  | succ n ih => unfold cnt; rw [ih (fun i hi => h i (by omega))]; rfl
theorem cnt_set (f : Nat → Bool) (a : Nat) (h : f a = false) : ∀ n, a < n → cnt (fun i => f i || i == a) n = cnt f n + 1
  | 0, ha => absurd ha (by omega)
  | n + 1, ha => by
    unfold cnt
    by_cases e : a = n
    · subst e
      rw [cnt_congr (fun i => f i || i == a) f a (fun i hi => by have : (i == a) = false := beq_eq_false_iff_ne.2 (by omega); simp [this]), h]
      simp
    · have : (n == a) = false := beq_eq_false_iff_ne.2 (by omega)
      rw [cnt_set f a h n (by omega), this, Bool.or_false]
      omega
theorem cnt_clear (f : Nat → Bool) (a : Nat) (h : f a = true) : ∀ n, a < n → cnt (fun i => f i && !(i == a)) n + 1 = cnt f n
  | 0, ha => absurd ha (by omega)
  | n + 1, ha => by
    unfold cnt
    by_cases e : a = n
    · subst e
      rw [cnt_congr (fun i => f i && !(i == a)) f a (fun i hi => by have : (i == a) = false := beq_eq_false_iff_ne.2 (by omega); simp [this]), h]
      simp
    · have : (n == a) = false := beq_eq_false_iff_ne.2 (by omega)
      have ih := cnt_clear f a h n (by omega)
      rw [this, Bool.not_false, Bool.and_true]
      omega

/-- The least one that isn't, or all are. -/
theorem least_or (f : Nat → Bool) : ∀ n, (∀ i, i < n → f i = true) ∨ ∃ a, a < n ∧ f a = false ∧ ∀ i, i < a → f i = true
  | 0 => .inl (fun i hi => absurd hi (by omega))
  | n + 1 => by
    rcases least_or f n with h | ⟨a, ha, h1, h2⟩
    · cases hf : f n
      · exact .inr ⟨n, by omega, hf, h⟩
      · refine .inl (fun i hi => ?_)
        by_cases e : i = n
        · rw [e, hf]
        · exact h i (by omega)
    · exact .inr ⟨a, by omega, h1, h2⟩
end Go.Proofs.YtbngmkopgoelbaaDoor

/- The pool (layer 2): its words' bits counted, its lowest free one; what each function answers. -/
set_option linter.unusedVariables false
set_option linter.unusedSimpArgs false
namespace Go.Proofs.YtbngmkopgoelbaaDoor
open Go.RowKit

/-- The library's table as it is laid. -/
structure Tb (w : World) : Prop where
  at_ : ∀ j, j < 64 → w.cell? ⟨0, j, none⟩ = some (.int .u8 (Lib.deBruijn64tab.getD j 0))
theorem Tb.lt {w : World} (h : Tb w) : 0 < w.heap.size := World.block_lt_of_cell? w ⟨0, 0, none⟩ (h.at_ 0 (by omega))
theorem Tb.below {w w1 : World} (h : Tb w) {B : Nat} (hb : Below B w w1) (hB : 0 < B) : Tb w1 := ⟨fun j hj => (hb.cell (p := ⟨0, j, none⟩) hB).trans (h.at_ j hj)⟩

theorem tz64_core (x k idx : Nat) (w : World) (hx0 : ((x : Int) == 0) = false)
    (key : IntKind.u64.wrap (bits BinOp.and IntKind.u64 (x : Int) (IntKind.u64.wrap (-(x : Int))) * 285870213051353865) / 288230376151711744 = (idx : Int))
    (hi : idx < 64) (hk : k < 64) (hcell : w.cell? ⟨0, idx, none⟩ = some (.int .u8 k)) :
    Calls Tryd.prog 40 #[.int .u64 x] w fun e w' => e = .returned (.int .i64 k) ∧ w = w' := by
  go_enter Tryd.func40, Tryd.ntmps40
  go_wp2_with (simp only [key])
  go_ret
  exact ⟨rfl, rfl⟩

theorem tz64 (x : Nat) (hx : x < 18446744073709551616) (w : World) (T : Tb w) :
    Calls Tryd.prog 40 #[.int .u64 x] w fun e w' => e = .returned (.int .i64 (Lib.ctz 64 x)) ∧ w = w' := by
  by_cases hx0 : x = 0
  · subst hx0
    go_enter Tryd.func40, Tryd.ntmps40
    go_wp2
    go_ret
    exact ⟨rfl, rfl⟩
  · obtain ⟨hlow, hk⟩ := Lib.lowest_bit 64 x hx0 hx
    obtain ⟨hi, htab⟩ := Lib.deBruijn64_at _ hk
    have hcell := T.at_ _ hi
    rw [htab] at hcell
    exact tz64_core x _ _ w (by simp; omega) (tz64_key x _ hx hx0 hlow) hi hk hcell

theorem wu {x : Nat} (h : x < 18446744073709551616) : IntKind.u64.wrap (x : Int) = (x : Int) := by rw [IntKind.wrap_u64]; omega

end Go.Proofs.YtbngmkopgoelbaaDoor

/- The pool (layer 2): what each function answers. -/
set_option linter.unusedVariables false
set_option linter.unusedSimpArgs false
namespace Go.Proofs.YtbngmkopgoelbaaDoor
open Go.RowKit

def hi (f : Nat → Bool) : Nat → Bool := fun i => f (64 + i)

/-- A pool in memory: how many pages, and which ones are taken. -/
structure Po (w : World) (p n : Nat) (f : Nat → Bool) : Prop where
  blk : w.heap[p]? = some (.cells #[.int .i64 (n : Int), .int .u64 ((wd f 64 : Nat) : Int), .int .u64 ((wd (hi f) 64 : Nat) : Int)] 86 (0, 0))
  len : n ≤ 128
  out : ∀ i, n ≤ i → f i = false

theorem Po.lt {w : World} {p n : Nat} {f : Nat → Bool} (h : Po w p n f) : p < w.heap.size := by
  have hp := h.blk
  rcases Nat.lt_or_ge p w.heap.size with hlt | hge
  · exact hlt
  · rw [Array.getElem?_eq_none hge] at hp; cases hp
theorem Po.below {w w1 : World} {p n : Nat} {f : Nat → Bool} (h : Po w p n f) (hb : Below w.heap.size w w1) : Po w1 p n f := ⟨(hb.block p h.lt).trans h.blk, h.len, h.out⟩
theorem Po.c0 {w : World} {p n : Nat} {f : Nat → Bool} (h : Po w p n f) : w.cell? ⟨p, 0, none⟩ = some (.int .i64 (n : Int)) := by rw [cell_of_row w p 0 _ _ _ h.blk]; rfl
theorem Po.c1 {w : World} {p n : Nat} {f : Nat → Bool} (h : Po w p n f) : w.cell? ⟨p, 1, none⟩ = some (.int .u64 ((wd f 64 : Nat) : Int)) := by rw [cell_of_row w p 1 _ _ _ h.blk]; rfl
theorem Po.c2 {w : World} {p n : Nat} {f : Nat → Bool} (h : Po w p n f) : w.cell? ⟨p, 2, none⟩ = some (.int .u64 ((wd (hi f) 64 : Nat) : Int)) := by rw [cell_of_row w p 2 _ _ _ h.blk]; rfl
theorem Po.frozen {w : World} {p n : Nat} {f : Nat → Bool} (h : Po w p n f) (i : Nat) : w.frozen? ⟨p, i, none⟩ = false := by
  have := h.blk
  simp [World.frozen?, this]

theorem PLen_calls {w : World} {p n : Nat} {f : Nat → Bool} (h : Po w p n f) :
    Calls Tryd.prog 39 #[.pointer (some ⟨p, 0, none⟩)] w fun e w' => e = .returned (.int .i64 (n : Int)) ∧ w = w' := by
  have hc := h.c0
  clear h
  go_enter Tryd.func39, Tryd.ntmps39
  go_wp2
  go_ret
  exact ⟨rfl, rfl⟩
theorem PLen_nil (w : World) :
    Calls Tryd.prog 39 #[.pointer none] w fun e w' => e = .returned (.int .i64 0) ∧ w = w' := by
  go_enter Tryd.func39, Tryd.ntmps39
  go_wp2
  go_ret
  exact ⟨rfl, rfl⟩

theorem wd_none : wd (fun _ => false) 64 = 0 := by decide
theorem wd_none' : wd (hi (fun _ => false)) 64 = 0 := by decide

theorem PNew_ok (n : Nat) (w : World) (h1 : n ≤ 128) :
    Calls Tryd.prog 28 #[.int .i64 (n : Int)] w fun e w' => e = .returned (.tuple #[.pointer (some ⟨w.heap.size, 0, none⟩), .int .i64 0]) ∧ Po w' w.heap.size n (fun _ => false) ∧ Below w.heap.size w w' := by
  go_enter Tryd.func28, Tryd.ntmps28
  go_wp2
  go_ret2
  refine ⟨rfl, ⟨?_, h1, fun _ _ => rfl⟩, (Below.refl _ _).alloc (Nat.le_refl _) _⟩
  rw [wd_none, wd_none']
  exact heap_alloc_new w _

/-- What Taken tells. -/
def tak (f : Nat → Bool) (page : Int) : Bool := decide (0 ≤ page) && f page.toNat

theorem ask_bit (g : Nat → Bool) (r : Nat) (hr : r < 64) : (bits BinOp.and IntKind.u64 (((wd g 64 : Nat) : Int) / 2 ^ r) 1 == 1) = g r := by
  have hl := wd_lt64 g
  have e : ((wd g 64 : Nat) : Int) / 2 ^ r = ((wd g 64 / 2 ^ r : Nat) : Int) := by simp
  have hle : wd g 64 / 2 ^ r ≤ wd g 64 := Nat.div_le_self _ _
  rw [e, show (1 : Int) = ((1 : Nat) : Int) from rfl, u64_and_nat _ _ (by omega) (by decide), Nat.and_one_is_mod, wd_ask g r hr]
  cases g r <;> rfl

theorem Taken_calls {w : World} {p n : Nat} {f : Nat → Bool} (h : Po w p n f) (page : Int) :
    Calls Tryd.prog 43 #[.pointer (some ⟨p, 0, none⟩), .int .i64 page] w fun e w' => e = .returned (.bool (tak f page)) ∧ w = w' := by
  have HP := Lib.hid h
  have hn := h.len
  clear h
  by_cases h0 : page < 0
  · go_enter Tryd.func43, Tryd.ntmps43
    go_wp2
    go_ret
    refine ⟨ret_bool ?_, rfl⟩
    unfold tak
    rw [decide_eq_false (by omega)]
    rfl
  · obtain ⟨P, rfl⟩ := Int.eq_ofNat_of_zero_le (show 0 ≤ page by omega)
    have ht : tak f (P : Int) = f P := by unfold tak; rw [decide_eq_true (by omega), Int.toNat_natCast]; rfl
    have HT := Lib.hid ht
    clear ht h0
    by_cases h1 : P < n
    · by_cases h2 : P < 64
      · have hc := HP.out.c1
        have hq : (P : Int) / 64 = 0 := by omega
        have hr : (P : Int) % 64 = P := by omega
        go_enter Tryd.func43, Tryd.ntmps43
        go_wp2_with fail
        refine (PLen_calls HP.out).mono ?_
        rintro e w' ⟨rfl, rfl⟩
        go_wp2
        go_ret
        refine ⟨ret_bool ?_, rfl⟩
        rw [HT.out]
        exact ask_bit f P h2
      · obtain ⟨R, rfl⟩ : ∃ R, P = 64 + R := ⟨P - 64, by omega⟩
        have hc := HP.out.c2
        have hq : (64 + (R : Int)) / 64 = 1 := by omega
        have hr : (64 + (R : Int)) % 64 = (R : Int) := by omega
        go_enter Tryd.func43, Tryd.ntmps43
        go_wp2_with fail
        refine (PLen_calls HP.out).mono ?_
        rintro e w' ⟨rfl, rfl⟩
        go_wp2
        go_ret
        refine ⟨ret_bool ?_, rfl⟩
        rw [HT.out]
        exact ask_bit (hi f) R (by omega)
    · go_enter Tryd.func43, Tryd.ntmps43
      go_wp2_with fail
      refine (PLen_calls HP.out).mono ?_
      rintro e w' ⟨rfl, rfl⟩
      go_wp2
      go_ret
      refine ⟨ret_bool ?_, rfl⟩
      rw [HT.out, HP.out.out P (by omega)]

theorem Taken_nil (page : Int) (w : World) :
    Calls Tryd.prog 43 #[.pointer none, .int .i64 page] w fun e w' => e = .returned (.bool false) ∧ w = w' := by
  by_cases h0 : page < 0
  · go_enter Tryd.func43, Tryd.ntmps43
    go_wp2
    go_ret
    exact ⟨rfl, rfl⟩
  · go_enter Tryd.func43, Tryd.ntmps43
    go_wp2_with fail
    refine (PLen_nil _).mono ?_
    rintro e w' ⟨rfl, rfl⟩
    go_wp2
    go_ret
    exact ⟨rfl, rfl⟩

theorem only_drew {a w : World} {row : Option Nat} (h : a.grownBy w row) : a.grownBy w.drew row := ⟨h.os, h.tape, h.output, h.size, h.block⟩

theorem w2 {r : Nat} (h : r < 64) : IntKind.u64.wrap ((2 : Int) ^ r) = ((2 ^ r : Nat) : Int) := by
  have hp : 2 ^ r < 2 ^ 64 := Nat.pow_lt_pow_right (by omega) h
  rw [show ((2 : Int) ^ r) = ((2 ^ r : Nat) : Int) from by simp]
  exact wu (by omega)

/-- A store into one of the words. -/
theorem Po.set1 {w : World} {p n : Nat} {f f' : Nat → Bool} (h : Po w p n f) (x : Int) (hx : x = ((wd f' 64 : Nat) : Int)) (hh : ∀ i, i < 64 → f' (64 + i) = f (64 + i)) (ho : ∀ i, n ≤ i → f' i = false) :
    Po ((w.setCell ⟨p, 1, none⟩ (.int .u64 x)).drew) p n f' := by
  refine ⟨?_, h.len, ho⟩
  have hr := h.blk
  have e : wd (hi f') 64 = wd (hi f) 64 := wd_congr _ _ _ hh
  rw [e, hx.symm]
  show (w.setCell ⟨p, 1, none⟩ (.int .u64 x)).heap[p]? = _
  simp [World.setCell, Array.getElem?_modify, hr]
theorem Po.set2 {w : World} {p n : Nat} {f f' : Nat → Bool} (h : Po w p n f) (x : Int) (hx : x = ((wd (hi f') 64 : Nat) : Int)) (hh : ∀ i, i < 64 → f' i = f i) (ho : ∀ i, n ≤ i → f' i = false) :
    Po ((w.setCell ⟨p, 2, none⟩ (.int .u64 x)).drew) p n f' := by
  refine ⟨?_, h.len, ho⟩
  have hr := h.blk
  have e : wd f' 64 = wd f 64 := wd_congr _ _ _ hh
  rw [e, hx.symm]
  show (w.setCell ⟨p, 2, none⟩ (.int .u64 x)).heap[p]? = _
  simp [World.setCell, Array.getElem?_modify, hr]
theorem Po.grown1 {w : World} {p n : Nat} {f : Nat → Bool} (h : Po w p n f) (i : Nat) (u : Value) : w.grownBy ((w.setCell ⟨p, i, none⟩ u).drew) (some p) := only_drew (only_setCell (World.grownBy.refl _ _) (.inl rfl) u)

theorem clr_word (g : Nat → Bool) (r : Nat) (hr : r < 64) : bits BinOp.andNot IntKind.u64 ((wd g 64 : Nat) : Int) (IntKind.u64.wrap (2 ^ r)) = ((wd (fun i => g i && !(i == r)) 64 : Nat) : Int) := by
  have hp : 2 ^ r < 2 ^ 64 := Nat.pow_lt_pow_right (by omega) hr
  rw [w2 hr, u64_andNot_nat _ _ (wd_lt64 g) (by omega), wd_andNot g r hr]
theorem set_word (g : Nat → Bool) (r : Nat) (hr : r < 64) : bits BinOp.or IntKind.u64 ((wd g 64 : Nat) : Int) (IntKind.u64.wrap (2 ^ r)) = ((wd (fun i => g i || i == r) 64 : Nat) : Int) := by
  have hp : 2 ^ r < 2 ^ 64 := Nat.pow_lt_pow_right (by omega) hr
  rw [w2 hr, u64_or_nat _ _ (wd_lt64 g) (by omega), wd_or g r hr]

/-- Nothing but the pool has turned. -/
theorem Give_bad {w : World} {p n : Nat} {f : Nat → Bool} (h : Po w p n f) (page : Int) (hp : page < 0 ∨ n ≤ page) :
    Calls Tryd.prog 36 #[.pointer (some ⟨p, 0, none⟩), .int .i64 page] w fun e w' => e = .returned (.int .i64 1) ∧ w = w' := by
  have HP := Lib.hid h
  clear h
  by_cases h0 : page < 0
  · clear hp
    go_enter Tryd.func36, Tryd.ntmps36
    go_wp2
    go_ret
    exact ⟨rfl, rfl⟩
  · have h1 : (n : Int) ≤ page := by omega
    clear hp
    go_enter Tryd.func36, Tryd.ntmps36
    go_wp2_with fail
    refine (PLen_calls HP.out).mono ?_
    rintro e w' ⟨rfl, rfl⟩
    go_wp2
    go_ret
    exact ⟨rfl, rfl⟩
theorem Give_none {w : World} {p n : Nat} {f : Nat → Bool} (h : Po w p n f) (P : Nat) (hP : P < n) (hf : f P = false) :
    Calls Tryd.prog 36 #[.pointer (some ⟨p, 0, none⟩), .int .i64 (P : Int)] w fun e w' => e = .returned (.int .i64 6) ∧ w = w' := by
  have HP := Lib.hid h
  have ht : tak f (P : Int) = false := by unfold tak; rw [decide_eq_true (by omega), Int.toNat_natCast, hf]; rfl
  have HT := Lib.hid ht
  clear h hf ht
  go_enter Tryd.func36, Tryd.ntmps36
  go_wp2_with fail
  refine (PLen_calls HP.out).mono ?_
  rintro e w' ⟨rfl, rfl⟩
  go_wp2_with fail
  refine (Taken_calls HP.out (P : Int)).mono ?_
  rintro e w' ⟨rfl, rfl⟩
  rw [HT.out]
  go_wp2
  go_ret
  exact ⟨rfl, rfl⟩

theorem Give_ok {w : World} {p n : Nat} {f : Nat → Bool} (h : Po w p n f) (P : Nat) (hP : P < n) (hf : f P = true) :
    Calls Tryd.prog 36 #[.pointer (some ⟨p, 0, none⟩), .int .i64 (P : Int)] w fun e w' => e = .returned (.int .i64 0) ∧ Po w' p n (fun i => f i && !(i == P)) ∧ w.grownBy w' (some p) := by
  have HP := Lib.hid h
  have hn := h.len
  have ht : tak f (P : Int) = true := by unfold tak; rw [decide_eq_true (by omega), Int.toNat_natCast, hf]; rfl
  have HT := Lib.hid ht
  have fr1 := h.frozen 1
  have fr2 := h.frozen 2
  clear h hf ht
  by_cases h2 : P < 64
  · have hc := HP.out.c1
    have hq : (P : Int) / 64 = 0 := by omega
    have hr : (P : Int) % 64 = P := by omega
    go_enter Tryd.func36, Tryd.ntmps36
    go_wp2_with fail
    refine (PLen_calls HP.out).mono ?_
    rintro e w' ⟨rfl, rfl⟩
    go_wp2_with fail
    refine (Taken_calls HP.out (P : Int)).mono ?_
    rintro e w' ⟨rfl, rfl⟩
    rw [HT.out]
    go_wp2
    go_region
    all_goals go_wp2
    all_goals go_ret
    refine ⟨rfl, ?_, HP.out.grown1 1 _⟩
    rw [clr_word f P h2]
    refine HP.out.set1 _ rfl (fun i hi' => ?_) (fun i hi' => ?_)
    · have : (64 + i == P) = false := beq_eq_false_iff_ne.2 (by omega)
      simp [this]
    · simp [HP.out.out i hi']
  · obtain ⟨R, rfl⟩ : ∃ R, P = 64 + R := ⟨P - 64, by omega⟩
    have hc := HP.out.c2
    have hq : (64 + (R : Int)) / 64 = 1 := by omega
    have hr : (64 + (R : Int)) % 64 = (R : Int) := by omega
    go_enter Tryd.func36, Tryd.ntmps36
    go_wp2_with fail
    refine (PLen_calls HP.out).mono ?_
    rintro e w' ⟨rfl, rfl⟩
    go_wp2_with fail
    refine (Taken_calls HP.out _).mono ?_
    rintro e w' ⟨rfl, rfl⟩
    rw [show (64 + (R : Int)) = ((64 + R : Nat) : Int) from by omega, HT.out]
    go_wp2
    go_region
    all_goals go_wp2
    all_goals go_ret
    refine ⟨rfl, ?_, HP.out.grown1 2 _⟩
    rw [clr_word (hi f) R (by omega)]
    refine HP.out.set2 _ ?_ (fun i hi' => ?_) (fun i hi' => ?_)
    · congr 2
      funext i
      have : (64 + i == 64 + R) = (i == R) := by rw [Bool.eq_iff_iff, beq_iff_eq, beq_iff_eq]; omega
      simp [hi, this]
    · have : (i == 64 + R) = false := beq_eq_false_iff_ne.2 (by omega)
      simp [this]
    · simp [HP.out.out i hi']
end Go.Proofs.YtbngmkopgoelbaaDoor

/- The pool (layer 2): Take. -/
set_option linter.unusedVariables false
set_option linter.unusedSimpArgs false
namespace Go.Proofs.YtbngmkopgoelbaaDoor
open Go.RowKit

theorem not_word (x : Nat) (hx : x < 18446744073709551616) : bits BinOp.xor IntKind.u64 IntKind.u64.max (x : Int) = ((18446744073709551615 - x : Nat) : Int) := by
  rw [show IntKind.u64.max = ((18446744073709551615 : Nat) : Int) from rfl, u64_xor_nat _ _ (by decide) hx]
  congr 1
  apply Nat.eq_of_testBit_eq
  intro i
  have e : 18446744073709551615 - x = 2 ^ 64 - (x + 1) := by omega
  have e0 : (18446744073709551615 : Nat) = 2 ^ 64 - (0 + 1) := by decide
  rw [Nat.testBit_xor, e, Nat.testBit_two_pow_sub_succ (show x < 2 ^ 64 from hx), e0, Nat.testBit_two_pow_sub_succ (by decide)]
  by_cases h : i < 64
  · simp [h]
  · have : x.testBit i = false := Nat.testBit_lt_two_pow (Nat.lt_of_lt_of_le (show x < 2 ^ 64 from hx) (Nat.pow_le_pow_right (by decide) (show 64 ≤ i by omega)))
    simp [h, this]

theorem Take_low {w : World} {p n : Nat} {f : Nat → Bool} (h : Po w p n f) (T : Tb w) (a : Nat) (ha : a < n) (h64 : a < 64) (hf : f a = false) (hl : ∀ i, i < a → f i = true) :
    Calls Tryd.prog 29 #[.pointer (some ⟨p, 0, none⟩)] w fun e w' => e = .returned (.tuple #[.int .i64 (a : Int), .int .i64 0]) ∧ Po w' p n (fun i => f i || i == a) ∧ w.grownBy w' (some p) := by
  have c0 := h.c0
  have c1 := h.c1
  have fr1 := h.frozen 1
  have HP := Lib.hid h
  have HT := Lib.hid T
  have hn := h.len
  have hn0 : 0 < n := by omega
  have hw := wd_lt64 f
  have hc := wd_ctz f a h64 hf hl
  have hne := wd_not_ne f a h64 hf
  have hs : IntKind.u64.signed = false := rfl
  have hx := not_word _ hw
  have hY : 18446744073709551615 - wd f 64 < 18446744073709551616 := by omega
  generalize 18446744073709551615 - wd f 64 = Y at *
  have hyb : ((Y : Int) != 0) = true := by rw [bne_iff_ne]; omega
  have HC := Lib.hid hc
  have HY := Lib.hid hY
  clear h T hl hc hne hY hw
  have HF := Lib.hid hf
  clear hf
  go_enter Tryd.func29, Tryd.ntmps29
  go_wp2_with fail
  refine wp_loop_rounds 1 ?_
  rw [rounds_succ]
  go_wp2_with fail
  refine (PLen_calls HP.out).mono ?_
  rintro e w' ⟨rfl, rfl⟩
  have hq : (a : Int) % 64 = a := by omega
  go_wp2_with fail
  refine (tz64 Y HY.out _ HT.out).mono ?_
  rintro e w' ⟨rfl, rfl⟩
  rw [HC.out]
  go_wp2
  go_region
  all_goals go_wp2
  all_goals go_ret2
  refine ⟨rfl, ?_, HP.out.grown1 1 _⟩
  rw [set_word f a h64]
  refine HP.out.set1 _ rfl (fun i hi' => ?_) (fun i hi' => ?_)
  · have : (64 + i == a) = false := beq_eq_false_iff_ne.2 (by omega)
    simp [this]
  · have : (i == a) = false := beq_eq_false_iff_ne.2 (by omega)
    simp [HP.out.out i hi', this]

/-- A full word, turned about. -/
theorem full_word (g : Nat → Bool) (h : ∀ i, i < 64 → g i = true) : bits BinOp.xor IntKind.u64 IntKind.u64.max ((wd g 64 : Nat) : Int) = 0 := by
  rw [wd_full g h]
  rfl

set_option maxHeartbeats 400000 in
theorem Take_high {w : World} {p n : Nat} {f : Nat → Bool} (h : Po w p n f) (T : Tb w) (r : Nat) (ha : 64 + r < n) (hf : f (64 + r) = false) (hl : ∀ i, i < 64 + r → f i = true) :
    Calls Tryd.prog 29 #[.pointer (some ⟨p, 0, none⟩)] w fun e w' => e = .returned (.tuple #[.int .i64 ((64 + r : Nat) : Int), .int .i64 0]) ∧ Po w' p n (fun i => f i || i == 64 + r) ∧ w.grownBy w' (some p) := by
  have c0 := h.c0
  have c1 := h.c1
  have c2 := h.c2
  have fr2 := h.frozen 2
  have HP := Lib.hid h
  have HT := Lib.hid T
  have hn := h.len
  have hn0 : 0 < n := by omega
  have hn1 : 64 < n := by omega
  have hw := wd_lt64 (hi f)
  have hr : r < 64 := by omega
  have hc := wd_ctz (hi f) r hr hf (fun i hi' => hl (64 + i) (by omega))
  have hne := wd_not_ne (hi f) r hr hf
  have hs : IntKind.u64.signed = false := rfl
  have hx0 := full_word f (fun i hi' => hl i (by omega))
  have hx := not_word _ hw
  have hY : 18446744073709551615 - wd (hi f) 64 < 18446744073709551616 := by omega
  generalize 18446744073709551615 - wd (hi f) 64 = Y at *
  have hyb : ((Y : Int) != 0) = true := by rw [bne_iff_ne]; omega
  have HC := Lib.hid hc
  have HY := Lib.hid hY
  clear h T hl hc hne hY hw
  have HF := Lib.hid hf
  clear hf
  have hq : (64 + (r : Int)) % 64 = (r : Int) := by omega
  go_enter Tryd.func29, Tryd.ntmps29
  go_wp2_with fail
  refine wp_loop_rounds 2 ?_
  rw [rounds_succ]
  go_wp2_with fail
  refine (PLen_calls HP.out).mono ?_
  rintro e w' ⟨rfl, rfl⟩
  go_wp2_with fail
  refine (tz64 0 (by decide) _ HT.out).mono ?_
  rintro e w' ⟨rfl, rfl⟩
  rw [show Lib.ctz 64 0 = 64 from rfl]
  go_wp2_with fail
  rw [rounds_succ]
  go_wp2_with fail
  refine (PLen_calls HP.out).mono ?_
  rintro e w' ⟨rfl, rfl⟩
  go_wp2_with fail
  refine (tz64 Y HY.out _ HT.out).mono ?_
  rintro e w' ⟨rfl, rfl⟩
  rw [HC.out]
  go_wp2
  go_region
  all_goals go_wp2
  all_goals go_ret2
  refine ⟨rfl, ?_, HP.out.grown1 2 _⟩
  rw [set_word (hi f) r hr]
  refine HP.out.set2 _ ?_ (fun i hi' => ?_) (fun i hi' => ?_)
  · congr 2
    funext i
    have : (64 + i == 64 + r) = (i == r) := by rw [Bool.eq_iff_iff, beq_iff_eq, beq_iff_eq]; omega
    simp [hi, this]
  · have : (i == 64 + r) = false := beq_eq_false_iff_ne.2 (by omega)
    simp [this]
  · have : (i == 64 + r) = false := beq_eq_false_iff_ne.2 (by omega)
    simp [HP.out.out i hi', this]

set_option maxHeartbeats 400000 in
theorem Take_full {w : World} {p n : Nat} {f : Nat → Bool} (h : Po w p n f) (T : Tb w) (hl : ∀ i, i < n → f i = true) :
    Calls Tryd.prog 29 #[.pointer (some ⟨p, 0, none⟩)] w fun e w' => e = .returned (.tuple #[.int .i64 0, .int .i64 5]) ∧ w = w' := by
  have c0 := h.c0
  have c1 := h.c1
  have c2 := h.c2
  have HP := Lib.hid h
  have HT := Lib.hid T
  have hn := h.len
  have hs : IntKind.u64.signed = false := rfl
  have HL := Lib.hid hl
  clear h T hl
  rcases Nat.eq_zero_or_pos n with rfl | hn0
  · go_enter Tryd.func29, Tryd.ntmps29
    go_wp2_with fail
    refine wp_loop_rounds 1 ?_
    rw [rounds_succ]
    go_wp2_with fail
    refine (PLen_calls HP.out).mono ?_
    rintro e w' ⟨rfl, rfl⟩
    go_wp2
    go_ret2
    exact ⟨rfl, rfl⟩
  by_cases hn1 : n < 64
  · have hw := wd_lt64 f
    have hc := wd_ctz f n hn1 (HP.out.out n (Nat.le_refl _)) HL.out
    have hne := wd_not_ne f n hn1 (HP.out.out n (Nat.le_refl _))
    have hx := not_word _ hw
    have hY : 18446744073709551615 - wd f 64 < 18446744073709551616 := by omega
    generalize 18446744073709551615 - wd f 64 = Y at *
    have hyb : ((Y : Int) != 0) = true := by rw [bne_iff_ne]; omega
    have HC := Lib.hid hc
    have HY := Lib.hid hY
    clear hc hne hY hw
    go_enter Tryd.func29, Tryd.ntmps29
    go_wp2_with fail
    refine wp_loop_rounds 2 ?_
    rw [rounds_succ]
    go_wp2_with fail
    refine (PLen_calls HP.out).mono ?_
    rintro e w' ⟨rfl, rfl⟩
    go_wp2_with fail
    refine (tz64 Y HY.out _ HT.out).mono ?_
    rintro e w' ⟨rfl, rfl⟩
    rw [HC.out]
    go_wp2_with fail
    rw [rounds_succ]
    go_wp2_with fail
    refine (PLen_calls HP.out).mono ?_
    rintro e w' ⟨rfl, rfl⟩
    go_wp2
    go_ret2
    exact ⟨rfl, rfl⟩
  by_cases hn2 : n = 64
  · subst hn2
    have hx0 := full_word f HL.out
    go_enter Tryd.func29, Tryd.ntmps29
    go_wp2_with fail
    refine wp_loop_rounds 2 ?_
    rw [rounds_succ]
    go_wp2_with fail
    refine (PLen_calls HP.out).mono ?_
    rintro e w' ⟨rfl, rfl⟩
    go_wp2_with fail
    refine (tz64 0 (by decide) _ HT.out).mono ?_
    rintro e w' ⟨rfl, rfl⟩
    rw [show Lib.ctz 64 0 = 64 from rfl]
    go_wp2_with fail
    rw [rounds_succ]
    go_wp2_with fail
    refine (PLen_calls HP.out).mono ?_
    rintro e w' ⟨rfl, rfl⟩
    go_wp2
    go_ret2
    exact ⟨rfl, rfl⟩
  have hx0 := full_word f (fun i hi' => HL.out i (by omega))
  have hn3 : 64 < n := by omega
  by_cases hn4 : n = 128
  · subst hn4
    have hx1 := full_word (hi f) (fun i hi' => HL.out (64 + i) (by omega))
    clear hn1 hn2
    go_enter Tryd.func29, Tryd.ntmps29
    go_wp2_with fail
    refine wp_loop_rounds 3 ?_
    rw [rounds_succ]
    go_wp2_with fail
    refine (PLen_calls HP.out).mono ?_
    rintro e w' ⟨rfl, rfl⟩
    go_wp2_with fail
    refine (tz64 0 (by decide) _ HT.out).mono ?_
    rintro e w' ⟨rfl, rfl⟩
    rw [show Lib.ctz 64 0 = 64 from rfl]
    go_wp2_with fail
    rw [rounds_succ]
    go_wp2_with fail
    refine (PLen_calls HP.out).mono ?_
    rintro e w' ⟨rfl, rfl⟩
    go_wp2_with fail
    refine (tz64 0 (by decide) _ HT.out).mono ?_
    rintro e w' ⟨rfl, rfl⟩
    rw [show Lib.ctz 64 0 = 64 from rfl]
    go_wp2_with fail
    rw [rounds_succ]
    go_wp2_with fail
    refine (PLen_calls HP.out).mono ?_
    rintro e w' ⟨rfl, rfl⟩
    go_wp2
    go_ret2
    exact ⟨rfl, rfl⟩
  · have hr : n - 64 < 64 := by omega
    have hw := wd_lt64 (hi f)
    have hc := wd_ctz (hi f) (n - 64) hr (HP.out.out _ (by omega)) (fun i hi' => HL.out (64 + i) (by omega))
    have hne := wd_not_ne (hi f) (n - 64) hr (HP.out.out _ (by omega))
    have hx := not_word _ hw
    have hY : 18446744073709551615 - wd (hi f) 64 < 18446744073709551616 := by omega
    generalize 18446744073709551615 - wd (hi f) 64 = Y at *
    have hyb : ((Y : Int) != 0) = true := by rw [bne_iff_ne]; omega
    obtain ⟨r, rfl⟩ : ∃ r, n = 64 + r := ⟨n - 64, by omega⟩
    rw [Nat.add_sub_cancel_left] at hc
    have HC := Lib.hid hc
    have HY := Lib.hid hY
    clear hc hne hY hw hn1 hn2 hn4
    go_enter Tryd.func29, Tryd.ntmps29
    go_wp2_with fail
    refine wp_loop_rounds 3 ?_
    rw [rounds_succ]
    go_wp2_with fail
    refine (PLen_calls HP.out).mono ?_
    rintro e w' ⟨rfl, rfl⟩
    go_wp2_with fail
    refine (tz64 0 (by decide) _ HT.out).mono ?_
    rintro e w' ⟨rfl, rfl⟩
    rw [show Lib.ctz 64 0 = 64 from rfl]
    go_wp2_with fail
    rw [rounds_succ]
    go_wp2_with fail
    refine (PLen_calls HP.out).mono ?_
    rintro e w' ⟨rfl, rfl⟩
    go_wp2_with fail
    refine (tz64 Y HY.out _ HT.out).mono ?_
    rintro e w' ⟨rfl, rfl⟩
    rw [HC.out]
    go_wp2_with fail
    rw [rounds_succ]
    go_wp2_with fail
    refine (PLen_calls HP.out).mono ?_
    rintro e w' ⟨rfl, rfl⟩
    go_wp2
    go_ret2
    exact ⟨rfl, rfl⟩

theorem Take_at {w : World} {p n : Nat} {f : Nat → Bool} (h : Po w p n f) (T : Tb w) (a : Nat) (ha : a < n) (hf : f a = false) (hl : ∀ i, i < a → f i = true) :
    Calls Tryd.prog 29 #[.pointer (some ⟨p, 0, none⟩)] w fun e w' => e = .returned (.tuple #[.int .i64 (a : Int), .int .i64 0]) ∧ Po w' p n (fun i => f i || i == a) ∧ w.grownBy w' (some p) := by
  by_cases h64 : a < 64
  · exact Take_low h T a ha h64 hf hl
  · obtain ⟨r, rfl⟩ : ∃ r, a = 64 + r := ⟨a - 64, by omega⟩
    exact Take_high h T r ha hf hl

theorem Take_nil (w : World) :
    Calls Tryd.prog 29 #[.pointer none] w fun e w' => e = .returned (.tuple #[.int .i64 0, .int .i64 5]) ∧ w = w' := by
  go_enter Tryd.func29, Tryd.ntmps29
  go_wp2_with fail
  refine wp_loop_rounds 1 ?_
  rw [rounds_succ]
  go_wp2_with fail
  refine (PLen_nil _).mono ?_
  rintro e w' ⟨rfl, rfl⟩
  go_wp2
  go_ret2
  exact ⟨rfl, rfl⟩

theorem Give_nil (page : Int) (w : World) :
    Calls Tryd.prog 36 #[.pointer none, .int .i64 page] w fun e w' => e = .returned (.int .i64 1) ∧ w = w' := by
  by_cases h0 : page < 0
  · go_enter Tryd.func36, Tryd.ntmps36
    go_wp2
    go_ret
    exact ⟨rfl, rfl⟩
  · go_enter Tryd.func36, Tryd.ntmps36
    go_wp2_with fail
    refine (PLen_nil _).mono ?_
    rintro e w' ⟨rfl, rfl⟩
    go_wp2
    go_ret
    exact ⟨rfl, rfl⟩
end Go.Proofs.YtbngmkopgoelbaaDoor

/- Plain: a slab's pages and their free blocks. -/
set_option linter.unusedVariables false
set_option linter.unusedSimpArgs false
namespace Go.Proofs.YtbngmkopgoelbaaDoor

/-- A page: its class (0: nobody's), its free blocks, the next one first. -/
structure Ap where
  c : Nat
  fl : List Nat

def upd (A : Nat → Ap) (p : Nat) (x : Ap) : Nat → Ap := fun i => if i = p then x else A i
theorem upd_same (A : Nat → Ap) (p : Nat) (x : Ap) : upd A p x p = x := by unfold upd; rw [if_pos rfl]
theorem upd_other (A : Nat → Ap) {p i : Nat} (x : Ap) (h : i ≠ p) : upd A p x i = A i := by unfold upd; rw [if_neg h]
def isC (c : Nat) : Prop := c = 16 ∨ c = 32 ∨ c = 64 ∨ c = 128 ∨ c = 256
def cls (m : Nat) : Nat := if m ≤ 16 then 16 else if m ≤ 32 then 32 else if m ≤ 64 then 64 else if m ≤ 128 then 128 else 256
theorem cls_isC (m : Nat) : isC (cls m) := by
  unfold cls isC
  by_cases h1 : m ≤ 16 <;> by_cases h2 : m ≤ 32 <;> by_cases h3 : m ≤ 64 <;> by_cases h4 : m ≤ 128 <;> simp [h1, h2, h3, h4]
theorem cls_ge {m : Nat} (h : m ≤ 256) : m ≤ cls m := by
  unfold cls
  by_cases h1 : m ≤ 16 <;> by_cases h2 : m ≤ 32 <;> by_cases h3 : m ≤ 64 <;> by_cases h4 : m ≤ 128 <;> simp only [h1, h2, h3, h4, if_true, if_false] <;> omega
theorem cls_lt {m : Nat} (h : 16 < cls m) : cls m < 2 * m := by
  unfold cls at *
  by_cases h1 : m ≤ 16 <;> by_cases h2 : m ≤ 32 <;> by_cases h3 : m ≤ 64 <;> by_cases h4 : m ≤ 128 <;> simp only [h1, h2, h3, h4, if_true, if_false] at h ⊢ <;> omega
theorem isC.pos {c : Nat} (h : isC c) : 16 ≤ c ∧ c ≤ 256 := by unfold isC at h; omega
theorem isC.div {c : Nat} (h : isC c) : c * (512 / c) = 512 ∧ 512 / c ≤ 32 ∧ 2 ≤ 512 / c := by rcases h with rfl | rfl | rfl | rfl | rfl <;> decide

/-- The blocks of a page. -/
def blks (p c : Nat) : List Nat := (List.range (512 / c)).map (fun k => 512 * p + c * k)
theorem mem_blks {p c a : Nat} (hc : isC c) : a ∈ blks p c ↔ a / 512 = p ∧ a % c = 0 := by
  unfold blks
  rw [List.mem_map]
  constructor
  · rintro ⟨k, hk, rfl⟩
    rw [List.mem_range] at hk
    rcases hc with rfl | rfl | rfl | rfl | rfl <;> omega
  · rintro ⟨h1, h2⟩
    refine ⟨a % 512 / c, ?_, ?_⟩
    · rw [List.mem_range]
      rcases hc with rfl | rfl | rfl | rfl | rfl <;> omega
    · rcases hc with rfl | rfl | rfl | rfl | rfl <;> omega
theorem nodup_blks {p c : Nat} (hc : isC c) : (blks p c).Nodup := by
  unfold blks
  rw [List.nodup_iff_pairwise_ne, List.pairwise_map]
  refine List.Pairwise.imp ?_ (List.pairwise_lt_range (n := 512 / c))
  intro a b hab e
  rcases hc with rfl | rfl | rfl | rfl | rfl <;> omega
theorem blks_cons {p c : Nat} (hc : isC c) : ∃ l, blks p c = (512 * p) :: l := by
  unfold blks
  obtain ⟨k, hk⟩ : ∃ k, 512 / c = k + 1 := ⟨512 / c - 1, by have := hc.div; omega⟩
  rw [hk, List.range_succ_eq_map]
  exact ⟨_, rfl⟩

/-- The place of a page that has one of a class free; else a fresh one. -/
def hit (A : Nat → Ap) (n c : Nat) : Option Nat := (List.range n).find? (fun p => (A p).c == c && !((A p).fl.isEmpty))
def fre (A : Nat → Ap) (n : Nat) : Option Nat := (List.range n).find? (fun p => p != 0 && (A p).c == 0)
def spot (A : Nat → Ap) (n c : Nat) : Option (Nat × List Nat) := match hit A n c with
  | some p => some (p, (A p).fl)
  | none => (fre A n).map (fun p => (p, blks p c))
def allc (A : Nat → Ap) (n c : Nat) : Option (Nat × (Nat → Ap)) := (spot A n c).map (fun x => (x.2.headD 0, upd A x.1 ⟨c, x.2.tail⟩))

theorem find_range {P : Nat → Bool} {n r : Nat} : (List.range n).find? P = some r ↔ r < n ∧ P r = true ∧ ∀ j, j < r → P j = false := by
  induction n with
  | zero => simp
  | succ n ih =>
    rw [List.range_succ, List.find?_append]
    cases hf : (List.range n).find? P with
    | some q =>
      rw [hf] at ih
      simp only [Option.some_or, Option.some.injEq] at ih ⊢
      constructor
      · intro e; have := ih.1 e; exact ⟨by omega, this.2⟩
      · rintro ⟨h1, h2, h3⟩
        have hq := List.find?_eq_some_iff_append.1 hf
        rcases Nat.lt_or_ge r n with hlt | hge
        · exact ih.2 ⟨hlt, h2, h3⟩
        · have hmem : q ∈ List.range n := List.mem_of_find?_eq_some hf
          rw [List.mem_range] at hmem
          have := h3 q (by omega)
          rw [hq.1] at this; cases this
    | none =>
      rw [hf] at ih
      rw [List.find?_eq_none] at hf
      simp only [Option.none_or, List.find?_cons, List.find?_nil]
      by_cases hn : P n = true
      · rw [hn]
        simp only [Option.some.injEq]
        constructor
        · rintro rfl
          exact ⟨by omega, hn, fun j hj => by have := hf j (List.mem_range.2 hj); simpa using this⟩
        · rintro ⟨h1, h2, h3⟩
          rcases Nat.lt_or_ge r n with hlt | hge
          · exact absurd h2 (hf r (List.mem_range.2 hlt))
          · omega
      · have hn' : P n = false := by simpa using hn
        rw [hn']
        simp only [reduceCtorEq, false_iff]
        rintro ⟨h1, h2, h3⟩
        rcases Nat.lt_or_ge r n with hlt | hge
        · exact absurd h2 (hf r (List.mem_range.2 hlt))
        · obtain rfl : r = n := by omega
          rw [hn'] at h2; cases h2
theorem find_range_none {P : Nat → Bool} {n : Nat} : (List.range n).find? P = none ↔ ∀ j, j < n → P j = false := by
  rw [List.find?_eq_none]
  constructor
  · intro h j hj; have := h j (List.mem_range.2 hj); simpa using this
  · intro h j hj; have := h j (List.mem_range.1 hj); simp [this]

/-- Which of a page's blocks are taken. -/
def gP (x : Ap) (p : Nat) : Nat → Bool := fun r => decide (r < 512 / x.c) && !(x.fl.contains (512 * p + x.c * r))
def g (A : Nat → Ap) (p : Nat) : Nat → Bool := gP (A p) p
def tw (x : Ap) (p : Nat) : Nat := wd (gP x p) 32
def mny (x : Ap) (p : Nat) : Nat := cnt (gP x p) 32
/-- Is a block taken? -/
def tkn (A : Nat → Ap) (a : Nat) : Bool := (A (a / 512)).c != 0 && a % (A (a / 512)).c == 0 && !((A (a / 512)).fl.contains a)
/-- A block is free again. -/
def frd (A : Nat → Ap) (a : Nat) : Nat → Ap :=
  if mny (A (a / 512)) (a / 512) = 1 then upd A (a / 512) ⟨0, []⟩ else upd A (a / 512) ⟨(A (a / 512)).c, a :: (A (a / 512)).fl⟩
def sm (h : Nat → Nat) : Nat → Nat
  | 0 => 0
  | k + 1 => sm h k + h k
def usd (A : Nat → Ap) (n : Nat) : Nat := sm (fun i => (A i).c * mny (A i) i) n
def pgs (A : Nat → Ap) (n : Nat) : Nat := cnt (fun i => (A i).c != 0) n

theorem sm_congr {h k : Nat → Nat} : ∀ {n}, (∀ i, i < n → h i = k i) → sm h n = sm k n
  | 0, _ => rfl
  | n + 1, e => by unfold sm; rw [sm_congr (fun i hi => e i (by omega)), e n (by omega)]
theorem sm_upd {h k : Nat → Nat} {p : Nat} : ∀ {n}, p < n → (∀ i, i ≠ p → h i = k i) → sm h n + k p = sm k n + h p
  | 0, hp, _ => absurd hp (by omega)
  | n + 1, hp, e => by
    unfold sm
    by_cases hpn : p = n
    · subst hpn
      rw [sm_congr (fun i hi => e i (by omega))]
      omega
    · have := sm_upd (n := n) (by omega) e
      rw [e n (fun h => hpn h.symm)]
      omega

theorem cnt_zero {f : Nat → Bool} : ∀ {n}, cnt f n = 0 → ∀ i, i < n → f i = false
  | 0, _, i, hi => absurd hi (by omega)
  | n + 1, h, i, hi => by
    unfold cnt at h
    by_cases e : i = n
    · subst e
      cases hf : f i
      · rfl
      · rw [hf] at h; simp at h
    · exact cnt_zero (n := n) (by omega) i (by omega)

/-- What all pages are, always. -/
structure Wf (A : Nat → Ap) (n : Nat) : Prop where
  le : n ≤ 128
  zero : (A 0).c = 0
  out : ∀ i, n ≤ i → (A i).c = 0
  none_ : ∀ i, (A i).c = 0 → (A i).fl = []
  cc : ∀ i, (A i).c ≠ 0 → isC (A i).c
  nd : ∀ i, (A i).fl.Nodup
  mem : ∀ i a, a ∈ (A i).fl → a / 512 = i ∧ a % (A i).c = 0
  some_ : ∀ i, (A i).c ≠ 0 → 1 ≤ mny (A i) i

theorem Wf.memC {A : Nat → Ap} {n i a : Nat} (W : Wf A n) (h : a ∈ (A i).fl) : (A i).c ≠ 0 := fun e => by rw [W.none_ i e] at h; cases h
theorem Wf.ins {A : Nat → Ap} {n i : Nat} (W : Wf A n) (h : (A i).c ≠ 0) : 1 ≤ i ∧ i < n := by
  constructor
  · rcases Nat.eq_zero_or_pos i with rfl | h0
    · exact absurd W.zero h
    · exact h0
  · rcases Nat.lt_or_ge i n with h1 | h1
    · exact h1
    · exact absurd (W.out i h1) h

theorem tkn_iff {A : Nat → Ap} {a : Nat} : tkn A a = true ↔ (A (a / 512)).c ≠ 0 ∧ a % (A (a / 512)).c = 0 ∧ a ∉ (A (a / 512)).fl := by
  unfold tkn
  simp [and_assoc]
/-- The block's number in its page. -/
theorem gP_at {c : Nat} {fl : List Nat} (hc : isC c) {a : Nat} (h : a % c = 0) : gP ⟨c, fl⟩ (a / 512) (a % 512 / c) = !(fl.contains a) := by
  unfold gP
  have e : 512 * (a / 512) + c * (a % 512 / c) = a := by rcases hc with rfl | rfl | rfl | rfl | rfl <;> omega
  have l : a % 512 / c < 512 / c := by rcases hc with rfl | rfl | rfl | rfl | rfl <;> omega
  show (decide (a % 512 / c < 512 / c) && !(fl.contains (512 * (a / 512) + c * (a % 512 / c)))) = _
  rw [e, decide_eq_true l, Bool.true_and]
theorem gP_take {c : Nat} {l : List Nat} (hc : isC c) {a : Nat} (h : a % c = 0) (hn : a ∉ l) : gP ⟨c, l⟩ (a / 512) = fun i => gP ⟨c, a :: l⟩ (a / 512) i || i == a % 512 / c := by
  funext i
  unfold gP
  have hl : a % 512 / c < 512 / c := by rcases hc with rfl | rfl | rfl | rfl | rfl <;> omega
  show (decide (i < 512 / c) && !(l.contains (512 * (a / 512) + c * i))) = ((decide (i < 512 / c) && !((a :: l).contains (512 * (a / 512) + c * i))) || i == a % 512 / c)
  by_cases e : i = a % 512 / c
  · subst e
    have e2 : 512 * (a / 512) + c * (a % 512 / c) = a := by rcases hc with rfl | rfl | rfl | rfl | rfl <;> omega
    rw [e2, decide_eq_true hl]
    simp [hn]
  · have e3 : (i == a % 512 / c) = false := beq_eq_false_iff_ne.2 e
    rw [e3, Bool.or_false]
    by_cases hi : i < 512 / c
    · have e2 : 512 * (a / 512) + c * i ≠ a := by intro e4; apply e; rcases hc with rfl | rfl | rfl | rfl | rfl <;> omega
      rw [List.contains_cons, beq_eq_false_iff_ne.2 e2, Bool.false_or]
    · rw [decide_eq_false hi]; rfl
theorem gP_give {c : Nat} {l : List Nat} (hc : isC c) {a : Nat} (h : a % c = 0) (hn : a ∉ l) : gP ⟨c, a :: l⟩ (a / 512) = fun i => gP ⟨c, l⟩ (a / 512) i && !(i == a % 512 / c) := by
  funext i
  rw [gP_take hc h hn]
  show gP ⟨c, a :: l⟩ (a / 512) i = ((gP ⟨c, a :: l⟩ (a / 512) i || i == a % 512 / c) && !(i == a % 512 / c))
  by_cases e : i = a % 512 / c
  · subst e
    have := gP_at (fl := a :: l) hc h
    rw [this]; simp
  · rw [beq_eq_false_iff_ne.2 e, Bool.or_false, Bool.not_false, Bool.and_true]
theorem gP_full {p c : Nat} (hc : isC c) : gP ⟨c, blks p c⟩ p = fun _ => false := by
  funext i
  unfold gP
  show (decide (i < 512 / c) && !((blks p c).contains (512 * p + c * i))) = false
  by_cases hi : i < 512 / c
  · have : 512 * p + c * i ∈ blks p c := by unfold blks; exact List.mem_map.2 ⟨i, List.mem_range.2 hi, rfl⟩
    simp [this]
  · rw [decide_eq_false hi]; rfl
theorem gP_none {p : Nat} : gP ⟨0, []⟩ p = fun _ => false := by funext i; unfold gP; simp
theorem r_lt {c a : Nat} (hc : isC c) : a % 512 / c < 32 := by rcases hc with rfl | rfl | rfl | rfl | rfl <;> omega
theorem cnt_none : ∀ n, cnt (fun _ => false) n = 0
  | 0 => rfl
  | n + 1 => by unfold cnt; rw [cnt_none n]; rfl
theorem wd_zero : ∀ n, wd (fun _ => false) n = 0
  | 0 => rfl
  | n + 1 => by unfold wd; rw [wd_zero n]; rfl

theorem mny_take {c : Nat} {l : List Nat} (hc : isC c) {a : Nat} (h : a % c = 0) (hn : a ∉ l) : mny ⟨c, l⟩ (a / 512) = mny ⟨c, a :: l⟩ (a / 512) + 1 := by
  unfold mny
  rw [gP_take hc h hn]
  apply cnt_set _ _ _ _ (r_lt hc)
  rw [gP_at hc h]; simp
theorem mny_full {p c : Nat} (hc : isC c) : mny ⟨c, blks p c⟩ p = 0 := by unfold mny; rw [gP_full hc]; exact cnt_none 32
theorem mny_none {p : Nat} : mny ⟨0, []⟩ p = 0 := by unfold mny; rw [gP_none]; exact cnt_none 32
theorem mny_le (x : Ap) (p : Nat) : mny x p ≤ 32 := cnt_le _ _

/-- What is had when a block is taken from a page's list. -/
structure Spot (A : Nat → Ap) (n c p a : Nat) (l : List Nat) : Prop where
  pg : 1 ≤ p ∧ p < n
  cc : isC c
  cl : (A p).c = c ∧ (A p).fl = a :: l ∨ (A p).c = 0 ∧ blks p c = a :: l
  nd : (a :: l).Nodup
  mem : ∀ b ∈ a :: l, b / 512 = p ∧ b % c = 0

theorem spot_of {A : Nat → Ap} {n c a : Nat} {A' : Nat → Ap} (W : Wf A n) (hc : isC c) (h : allc A n c = some (a, A')) :
    ∃ p l, Spot A n c p a l ∧ A' = upd A p ⟨c, l⟩ ∧ (hit A n c = some p ∧ (A p).fl = a :: l ∨ hit A n c = none ∧ fre A n = some p ∧ blks p c = a :: l) := by
  unfold allc spot at h
  cases hh : hit A n c with
  | some p =>
    rw [hh] at h
    simp only [Option.map_some, Option.some.injEq, Prod.mk.injEq] at h
    have hf := find_range.1 hh
    have h1 := hf.2.1
    simp only [Bool.and_eq_true, beq_iff_eq, Bool.not_eq_true', List.isEmpty_eq_false_iff] at h1
    obtain ⟨x, l, hl⟩ := List.exists_cons_of_ne_nil h1.2
    rw [hl] at h
    have hne : (A p).c ≠ 0 := by have := hc.pos; omega
    refine ⟨p, l, ⟨W.ins hne, hc, .inl ⟨h1.1, ?_⟩, ?_, ?_⟩, h.2.symm, .inl ⟨rfl, ?_⟩⟩
    · rw [hl, show x = a from h.1]
    · have := W.nd p; rw [hl, show x = a from h.1] at this; exact this
    · intro b hb
      have := W.mem p b (by rw [hl, show x = a from h.1]; exact hb)
      rw [h1.1] at this; exact this
    · rw [hl, show x = a from h.1]
  | none =>
    rw [hh] at h
    cases hf : fre A n with
    | none => rw [hf] at h; simp at h
    | some p =>
      rw [hf] at h
      simp only [Option.map_some, Option.some.injEq, Prod.mk.injEq] at h
      have hr := find_range.1 hf
      have h1 := hr.2.1
      simp only [Bool.and_eq_true, beq_iff_eq, bne_iff_ne, ne_eq] at h1
      obtain ⟨l, hl⟩ := blks_cons (p := p) hc
      rw [hl] at h
      have ha : 512 * p = a := h.1
      refine ⟨p, l, ⟨⟨by omega, hr.1⟩, hc, .inr ⟨h1.2, by rw [hl, ha]⟩, ?_, ?_⟩, h.2.symm, .inr ⟨rfl, rfl, by rw [hl, ha]⟩⟩
      · rw [← ha, ← hl]; exact nodup_blks hc
      · intro b hb
        rw [← ha, ← hl] at hb
        exact (mem_blks hc).1 hb

section
variable {A : Nat → Ap} {n c p a : Nat} {l : List Nat}
theorem Spot.at_ (S : Spot A n c p a l) : a / 512 = p ∧ a % c = 0 := S.mem a (List.mem_cons_self ..)
theorem Spot.not (S : Spot A n c p a l) : a ∉ l := (List.nodup_cons.1 S.nd).1
theorem Spot.fits (S : Spot A n c p a l) : 512 ≤ a ∧ a + c ≤ 512 * n ∧ a + c ≤ 512 * (p + 1) := by
  have h1 := S.at_; have h2 := S.pg
  rcases S.cc with rfl | rfl | rfl | rfl | rfl <;> omega
theorem Spot.mny (S : Spot A n c p a l) : mny ⟨c, l⟩ p = mny ⟨c, a :: l⟩ p + 1 := by
  have := mny_take (l := l) S.cc S.at_.2 S.not
  rw [S.at_.1] at this; exact this
/-- The page as it was, its list told. -/
theorem Spot.was (S : Spot A n c p a l) : gP ⟨c, a :: l⟩ p = gP (A p) p ∧ Go.Proofs.YtbngmkopgoelbaaDoor.mny ⟨c, a :: l⟩ p = Go.Proofs.YtbngmkopgoelbaaDoor.mny (A p) p := by
  have key : gP ⟨c, a :: l⟩ p = gP (A p) p := by
    rcases S.cl with ⟨h1, h2⟩ | ⟨h1, h2⟩
    · rw [show A p = ⟨c, a :: l⟩ from by rw [← h1, ← h2]]
    · rw [← h2, gP_full S.cc]
      funext i
      unfold gP
      rw [h1]; simp
  exact ⟨key, by unfold Go.Proofs.YtbngmkopgoelbaaDoor.mny; rw [key]⟩
theorem Spot.wf (W : Wf A n) (S : Spot A n c p a l) : Wf (upd A p ⟨c, l⟩) n := by
  have hc := S.cc.pos
  have hp := S.pg
  refine ⟨W.le, ?_, ?_, ?_, ?_, ?_, ?_, ?_⟩
  · rw [upd_other _ _ (by omega)]; exact W.zero
  · intro i hi; rw [upd_other _ _ (by omega)]; exact W.out i hi
  · intro i h
    by_cases e : i = p
    · subst e; rw [upd_same] at h; have h : c = 0 := h; omega
    · rw [upd_other _ _ e] at h ⊢; exact W.none_ i h
  · intro i h
    by_cases e : i = p
    · subst e; rw [upd_same]; exact S.cc
    · rw [upd_other _ _ e] at h ⊢; exact W.cc i h
  · intro i
    by_cases e : i = p
    · subst e; rw [upd_same]; exact (List.nodup_cons.1 S.nd).2
    · rw [upd_other _ _ e]; exact W.nd i
  · intro i b
    by_cases e : i = p
    · subst e; rw [upd_same]; exact fun hb => S.mem b (List.mem_cons_of_mem _ hb)
    · rw [upd_other _ _ e]; exact W.mem i b
  · intro i h
    by_cases e : i = p
    · subst e; rw [upd_same, S.mny]; omega
    · rw [upd_other _ _ e] at h ⊢; exact W.some_ i h
theorem Spot.tkn (W : Wf A n) (S : Spot A n c p a l) (b : Nat) : tkn (upd A p ⟨c, l⟩) b = (tkn A b || b == a) := by
  have hc := S.cc.pos
  by_cases e : b / 512 = p
  · unfold Go.Proofs.YtbngmkopgoelbaaDoor.tkn
    rw [e, upd_same]
    have hc0 : (c != 0) = true := by rw [bne_iff_ne]; omega
    show (c != 0 && b % c == 0 && !(l.contains b)) = _
    rw [hc0, Bool.true_and]
    rcases S.cl with ⟨h1, h2⟩ | ⟨h1, h2⟩
    · rw [h1, h2, hc0, Bool.true_and, List.contains_cons]
      by_cases eb : b = a
      · subst eb; simp [S.at_.2, S.not]
      · rw [beq_eq_false_iff_ne.2 eb]; simp
    · rw [h1]
      have hz : ((0 : Nat) != 0) = false := rfl
      rw [hz, Bool.false_and, Bool.false_and, Bool.false_or]
      by_cases eb : b = a
      · subst eb; simp [S.at_.2, S.not]
      · rw [beq_eq_false_iff_ne.2 eb]
        by_cases hb : b % c = 0
        · have : b ∈ a :: l := by rw [← h2]; exact (mem_blks S.cc).2 ⟨e, hb⟩
          have : b ∈ l := by rcases List.mem_cons.1 this with h | h; exact absurd h eb; exact h
          simp [this]
        · simp [hb]
  · unfold Go.Proofs.YtbngmkopgoelbaaDoor.tkn
    rw [upd_other _ _ e]
    have : b ≠ a := fun h => e (by rw [h]; exact S.at_.1)
    rw [beq_eq_false_iff_ne.2 this, Bool.or_false]
theorem Spot.new (W : Wf A n) (S : Spot A n c p a l) : Go.Proofs.YtbngmkopgoelbaaDoor.tkn A a = false := by
  unfold Go.Proofs.YtbngmkopgoelbaaDoor.tkn
  rw [S.at_.1]
  rcases S.cl with ⟨h1, h2⟩ | ⟨h1, h2⟩
  · rw [h2]; simp
  · rw [h1]; rfl
theorem Spot.usd (W : Wf A n) (S : Spot A n c p a l) : usd (upd A p ⟨c, l⟩) n = usd A n + c := by
  unfold Go.Proofs.YtbngmkopgoelbaaDoor.usd
  have := sm_upd (h := fun i => (upd A p ⟨c, l⟩ i).c * Go.Proofs.YtbngmkopgoelbaaDoor.mny (upd A p ⟨c, l⟩ i) i) (k := fun i => (A i).c * Go.Proofs.YtbngmkopgoelbaaDoor.mny (A i) i) S.pg.2 (fun i hi => by simp only [upd_other _ _ hi])
  have e1 : (fun i => (upd A p ⟨c, l⟩ i).c * Go.Proofs.YtbngmkopgoelbaaDoor.mny (upd A p ⟨c, l⟩ i) i) p = c * (Go.Proofs.YtbngmkopgoelbaaDoor.mny (A p) p + 1) := by
    show (upd A p ⟨c, l⟩ p).c * Go.Proofs.YtbngmkopgoelbaaDoor.mny (upd A p ⟨c, l⟩ p) p = _
    rw [upd_same, S.mny, S.was.2]
  simp only [] at e1
  rw [e1] at this
  have e2 : (A p).c * Go.Proofs.YtbngmkopgoelbaaDoor.mny (A p) p = c * Go.Proofs.YtbngmkopgoelbaaDoor.mny (A p) p := by
    rcases S.cl with ⟨h1, h2⟩ | ⟨h1, h2⟩
    · rw [h1]
    · have := W.none_ p h1
      rw [show A p = ⟨0, []⟩ from by rw [← h1, ← this], mny_none]; simp
  rw [e2, Nat.mul_add] at this
  omega
end

/-- A block that is taken lies in its page. -/
theorem Wf.fits {A : Nat → Ap} {n a : Nat} (W : Wf A n) (h : tkn A a = true) : 512 ≤ a ∧ a + (A (a / 512)).c ≤ 512 * n ∧ a + (A (a / 512)).c ≤ 512 * (a / 512 + 1) ∧ isC (A (a / 512)).c := by
  have ⟨h1, h2, h3⟩ := tkn_iff.1 h
  have hi := W.ins h1
  have hc := W.cc _ h1
  refine ⟨by omega, ?_, ?_, hc⟩ <;> (generalize (A (a / 512)).c = c at *; rcases hc with rfl | rfl | rfl | rfl | rfl <;> omega)

section
variable {A : Nat → Ap} {n a : Nat}
theorem Wf.mny_give (W : Wf A n) (h : tkn A a = true) : mny (A (a / 512)) (a / 512) = mny ⟨(A (a / 512)).c, a :: (A (a / 512)).fl⟩ (a / 512) + 1 := by
  have ⟨h1, h2, h3⟩ := tkn_iff.1 h
  exact mny_take (W.cc _ h1) h2 h3
theorem Wf.last (W : Wf A n) (h : tkn A a = true) (h1 : mny (A (a / 512)) (a / 512) = 1) (b : Nat) (hb : b / 512 = a / 512) (hne : b ≠ a) : tkn A b = false := by
  have ⟨k1, k2, k3⟩ := tkn_iff.1 h
  have hc := W.cc _ k1
  cases hf : tkn A b
  · rfl
  · have ⟨m1, m2, m3⟩ := tkn_iff.1 hf
    rw [hb] at m1 m2 m3
    have e := W.mny_give h
    rw [h1] at e
    have e0 : mny ⟨(A (a / 512)).c, a :: (A (a / 512)).fl⟩ (a / 512) = 0 := by omega
    have := cnt_zero e0 (b % 512 / (A (a / 512)).c) (r_lt hc)
    rw [← hb, gP_at (by rw [hb]; exact hc) (by rw [hb]; exact m2)] at this
    simp at this
    rcases Classical.em (b = a) with h5 | h5
    · exact absurd h5 hne
    · have h6 := this h5; rw [hb] at h6; exact absurd h6 m3
theorem Wf.frd (W : Wf A n) (h : tkn A a = true) : Wf (frd A a) n := by
  have ⟨h1, h2, h3⟩ := tkn_iff.1 h
  have hi := W.ins h1
  have hc := W.cc _ h1
  unfold Go.Proofs.YtbngmkopgoelbaaDoor.frd
  split
  · refine ⟨W.le, ?_, ?_, ?_, ?_, ?_, ?_, ?_⟩
    · rw [upd_other _ _ (by omega)]; exact W.zero
    · intro i hi'; rw [upd_other _ _ (by omega)]; exact W.out i hi'
    · intro i h
      by_cases e : i = a / 512
      · subst e; rw [upd_same]
      · rw [upd_other _ _ e] at h ⊢; exact W.none_ i h
    · intro i h
      by_cases e : i = a / 512
      · subst e; rw [upd_same] at h; exact absurd rfl h
      · rw [upd_other _ _ e] at h ⊢; exact W.cc i h
    · intro i
      by_cases e : i = a / 512
      · subst e; rw [upd_same]; exact List.nodup_nil
      · rw [upd_other _ _ e]; exact W.nd i
    · intro i b
      by_cases e : i = a / 512
      · subst e; rw [upd_same]; intro hb; cases hb
      · rw [upd_other _ _ e]; exact W.mem i b
    · intro i h
      by_cases e : i = a / 512
      · subst e; rw [upd_same] at h; exact absurd rfl h
      · rw [upd_other _ _ e] at h ⊢; exact W.some_ i h
  · rename_i hm
    have hg := W.mny_give h
    have hs := W.some_ _ h1
    refine ⟨W.le, ?_, ?_, ?_, ?_, ?_, ?_, ?_⟩
    · rw [upd_other _ _ (by omega)]; exact W.zero
    · intro i hi'; rw [upd_other _ _ (by omega)]; exact W.out i hi'
    · intro i h
      by_cases e : i = a / 512
      · subst e; rw [upd_same] at h; exact absurd h h1
      · rw [upd_other _ _ e] at h ⊢; exact W.none_ i h
    · intro i h
      by_cases e : i = a / 512
      · subst e; rw [upd_same]; exact hc
      · rw [upd_other _ _ e] at h ⊢; exact W.cc i h
    · intro i
      by_cases e : i = a / 512
      · subst e; rw [upd_same]; exact List.nodup_cons.2 ⟨h3, W.nd _⟩
      · rw [upd_other _ _ e]; exact W.nd i
    · intro i b
      by_cases e : i = a / 512
      · subst e; rw [upd_same]; intro hb
        rcases List.mem_cons.1 hb with rfl | hb
        · exact ⟨rfl, h2⟩
        · exact W.mem _ b hb
      · rw [upd_other _ _ e]; exact W.mem i b
    · intro i h
      by_cases e : i = a / 512
      · subst e; rw [upd_same]; omega
      · rw [upd_other _ _ e] at h ⊢; exact W.some_ i h
theorem Wf.tkn_frd (W : Wf A n) (h : tkn A a = true) (b : Nat) : tkn (Go.Proofs.YtbngmkopgoelbaaDoor.frd A a) b = (tkn A b && b != a) := by
  have ⟨h1, h2, h3⟩ := tkn_iff.1 h
  by_cases e : b / 512 = a / 512
  · unfold Go.Proofs.YtbngmkopgoelbaaDoor.frd
    split
    · rename_i hm
      have l : tkn (upd A (a / 512) ⟨0, []⟩) b = false := by unfold tkn; rw [e, upd_same]; rfl
      rw [l]
      by_cases eb : b = a
      · subst eb; simp
      · rw [W.last h hm b e eb]; rfl
    · unfold tkn
      rw [e, upd_same]
      show ((A (a / 512)).c != 0 && b % (A (a / 512)).c == 0 && !((a :: (A (a / 512)).fl).contains b)) = _
      rw [List.contains_cons]
      by_cases eb : b = a
      · subst eb; simp
      · have e2 : (b != a) = true := by rw [bne_iff_ne]; exact eb
        rw [beq_eq_false_iff_ne.2 eb, e2]; simp
  · have : b ≠ a := fun h => e (by rw [h])
    have e2 : (b != a) = true := by rw [bne_iff_ne]; exact this
    rw [e2, Bool.and_true]
    unfold Go.Proofs.YtbngmkopgoelbaaDoor.frd tkn
    split <;> rw [upd_other _ _ e]
theorem Wf.usd_frd (W : Wf A n) (h : tkn A a = true) : usd (Go.Proofs.YtbngmkopgoelbaaDoor.frd A a) n + (A (a / 512)).c = usd A n := by
  have ⟨h1, h2, h3⟩ := tkn_iff.1 h
  have hi := W.ins h1
  have hg := W.mny_give h
  unfold Go.Proofs.YtbngmkopgoelbaaDoor.frd
  split
  · rename_i hm
    unfold usd
    have := sm_upd (h := fun i => (upd A (a / 512) ⟨0, []⟩ i).c * mny (upd A (a / 512) ⟨0, []⟩ i) i) (k := fun i => (A i).c * mny (A i) i) hi.2 (fun i hi => by simp only [upd_other _ _ hi])
    have e1 : (fun i => (upd A (a / 512) ⟨0, []⟩ i).c * mny (upd A (a / 512) ⟨0, []⟩ i) i) (a / 512) = 0 := by
      show (upd A (a / 512) ⟨0, []⟩ (a / 512)).c * _ = _
      rw [upd_same]; simp
    have e2 : (fun i => (A i).c * mny (A i) i) (a / 512) = (A (a / 512)).c := by show (A (a / 512)).c * mny (A (a / 512)) (a / 512) = _; rw [hm, Nat.mul_one]
    simp only [] at e1 e2
    rw [e1, e2] at this
    omega
  · unfold usd
    have := sm_upd (h := fun i => (upd A (a / 512) ⟨(A (a / 512)).c, a :: (A (a / 512)).fl⟩ i).c * mny (upd A (a / 512) ⟨(A (a / 512)).c, a :: (A (a / 512)).fl⟩ i) i) (k := fun i => (A i).c * mny (A i) i) hi.2 (fun i hi => by simp only [upd_other _ _ hi])
    have e1 : (fun i => (upd A (a / 512) ⟨(A (a / 512)).c, a :: (A (a / 512)).fl⟩ i).c * mny (upd A (a / 512) ⟨(A (a / 512)).c, a :: (A (a / 512)).fl⟩ i) i) (a / 512) = (A (a / 512)).c * mny ⟨(A (a / 512)).c, a :: (A (a / 512)).fl⟩ (a / 512) := by
      show (upd A (a / 512) ⟨(A (a / 512)).c, a :: (A (a / 512)).fl⟩ (a / 512)).c * mny (upd A (a / 512) ⟨(A (a / 512)).c, a :: (A (a / 512)).fl⟩ (a / 512)) (a / 512) = _
      rw [upd_same]
    have e2 : (fun i => (A i).c * mny (A i) i) (a / 512) = (A (a / 512)).c * (mny ⟨(A (a / 512)).c, a :: (A (a / 512)).fl⟩ (a / 512) + 1) := by
      show (A (a / 512)).c * mny (A (a / 512)) (a / 512) = _
      rw [hg]
    simp only [] at e1 e2
    rw [e1, e2, Nat.mul_add] at this
    omega
end

/-- A slab of which nothing was ever taken. -/
def none0 : Nat → Ap := fun _ => ⟨0, []⟩
theorem none0_wf {n : Nat} (h : n ≤ 128) : Wf none0 n := ⟨h, rfl, fun _ _ => rfl, fun _ _ => rfl, fun _ h => absurd rfl h, fun _ => List.nodup_nil, fun _ _ h => (by cases h), fun _ h => absurd rfl h⟩
theorem none0_usd (n : Nat) : usd none0 n = 0 := by
  unfold usd
  induction n with
  | zero => rfl
  | succ n ih => unfold sm; rw [ih]; show 0 + 0 * _ = 0; simp
end Go.Proofs.YtbngmkopgoelbaaDoor

/- Plain: the free blocks of a page are linked by their first bytes. -/
set_option linter.unusedVariables false
set_option linter.unusedSimpArgs false
namespace Go.Proofs.YtbngmkopgoelbaaDoor
open Go.RowKit

def linked (bs : List Int) : List Nat → Prop
  | [] => True
  | a :: l => ldA bs (a : Int) 4 = ((l.headD 0 : Nat) : Int) ∧ linked bs l

theorem ldA_congr {bs bs' : List Int} (hl : bs'.length = bs.length) (a : Nat) (h : ∀ j, a ≤ j → j < a + 4 → gb bs' j = gb bs j) : ldA bs' (a : Int) 4 = ldA bs (a : Int) 4 := by
  unfold ldA
  rw [hl]
  split
  · apply ldv_congr
    intro j hj
    rw [Int.toNat_natCast]
    have : (4 : Int).toNat = 4 := rfl
    exact h _ (by omega) (by omega)
  · rfl
theorem linked_congr {bs bs' : List Int} (hl : bs'.length = bs.length) : ∀ {l : List Nat}, (∀ a ∈ l, ∀ j, a ≤ j → j < a + 4 → gb bs' j = gb bs j) → linked bs l → linked bs' l
  | [], _, _ => trivial
  | a :: l, h, ⟨h1, h2⟩ => ⟨(ldA_congr hl a (h a (List.mem_cons_self ..))).trans h1, linked_congr hl (fun b hb => h b (List.mem_cons_of_mem _ hb)) h2⟩

theorem gb_stA (bs : List Int) (a : Nat) (v : Int) (j : Nat) (h : j < a ∨ a + 4 ≤ j) : gb (stA bs (a : Int) 4 v) j = gb bs j := by
  unfold stA
  split
  · unfold stv
    rw [gb_put, if_neg]
    rw [Int.toNat_natCast]
    have : (4 : Int).toNat = 4 := rfl
    omega
  · rfl
theorem gb_fillA (bs : List Int) (a m : Nat) (v : Int) (j : Nat) (h : j < a ∨ a + m ≤ j) : gb (fillA bs (a : Int) (m : Int) v) j = gb bs j := by
  unfold fillA
  split
  · rw [gb_put, if_neg]
    rw [Int.toNat_natCast, Int.toNat_natCast]
    omega
  · rfl
theorem gb_fillA_in (bs : List Int) (a m : Nat) (v : Int) (j : Nat) (h : a ≤ j ∧ j < a + m) (hl : a + m ≤ bs.length) : gb (fillA bs (a : Int) (m : Int) v) j = v := by
  unfold fillA
  rw [rErr_ok (by omega) (by omega) (by omega), if_pos rfl, gb_put, if_pos]
  rw [Int.toNat_natCast, Int.toNat_natCast]
  omega
theorem linked_store {bs : List Int} {l : List Nat} {a v : Nat} (hl : a + 4 ≤ bs.length) (hd : ∀ b ∈ l, b + 4 ≤ a ∨ a + 4 ≤ b) (hv : v < 65536) (e : v = l.headD 0) (h : linked bs l) : linked (stA bs (a : Int) 4 (v : Int)) (a :: l) := by
  refine ⟨?_, linked_congr (stA_length _ _ _ _) (fun b hb j h1 h2 => gb_stA _ _ _ _ (by rcases hd b hb with h3 | h3 <;> omega)) h⟩
  rw [ldA_stA (nErr_ok (.inr (.inr (.inl rfl))) (by omega) (by omega)), ← e]
  have : (256 : Int) ^ (4 : Int).toNat = 4294967296 := by decide
  rw [this]
  omega

/-- The last k blocks of a page. -/
def lastk (p c : Nat) : Nat → List Nat
  | 0 => []
  | k + 1 => (512 * p + 512 - c * (k + 1)) :: lastk p c k
theorem lastk_mem (p c : Nat) : ∀ {k a}, a ∈ lastk p c k → ∃ j, j < k ∧ a = 512 * p + 512 - c * (j + 1)
  | 0, a, h => by cases h
  | k + 1, a, h => by
    rcases List.mem_cons.1 h with h | h
    · exact ⟨k, by omega, h⟩
    · obtain ⟨j, hj, e⟩ := lastk_mem p c h
      exact ⟨j, by omega, e⟩
theorem lastk_eq (p c : Nat) : ∀ k, c * k ≤ 512 → lastk p c k = (List.range k).map (fun i => 512 * p + (512 - c * k) + c * i)
  | 0, _ => rfl
  | k + 1, h => by
    rw [Nat.mul_succ] at h
    rw [List.range_succ_eq_map, List.map_cons, List.map_map]
    show (512 * p + 512 - c * (k + 1)) :: lastk p c k = _
    rw [lastk_eq p c k (by omega), Nat.mul_succ]
    congr 1
    · simp; omega
    · apply List.map_congr_left
      intro i hi
      show 512 * p + (512 - c * k) + c * i = 512 * p + (512 - (c * k + c)) + c * (i + 1)
      rw [Nat.mul_succ]
      omega
theorem lastk_all {p c : Nat} (hc : isC c) : lastk p c (512 / c) = blks p c := by
  have := hc.div
  rw [lastk_eq p c _ (by omega), this.1]
  unfold blks
  simp
end Go.Proofs.YtbngmkopgoelbaaDoor

/- Plain: a page's word of 32 bits; what a place of a class tells. -/
set_option linter.unusedVariables false
set_option linter.unusedSimpArgs false
namespace Go.Proofs.YtbngmkopgoelbaaDoor
open Go.RowKit

theorem u32_or_nat (a b : Nat) (ha : a < 4294967296) (hb : b < 4294967296) : bits .or .u32 (a : Int) (b : Int) = ((a ||| b : Nat) : Int) := by
  have hx : a ||| b < 2 ^ 32 := Nat.or_lt_two_pow (by omega) (by omega)
  show IntKind.u32.wrap ((BitVec.ofInt 32 (a : Int) ||| BitVec.ofInt 32 (b : Int)).toNat : Int) = _
  rw [BitVec.toNat_or, BitVec.ofInt_natCast, BitVec.ofInt_natCast, BitVec.toNat_ofNat, BitVec.toNat_ofNat, Nat.mod_eq_of_lt (show a < 2 ^ 32 by omega), Nat.mod_eq_of_lt (show b < 2 ^ 32 by omega), IntKind.wrap_u32]
  omega
theorem u32_and_nat (a b : Nat) (ha : a < 4294967296) (hb : b < 4294967296) : bits .and .u32 (a : Int) (b : Int) = ((a &&& b : Nat) : Int) := by
  have hx : a &&& b < 2 ^ 32 := Nat.and_lt_two_pow _ (by omega)
  show IntKind.u32.wrap ((BitVec.ofInt 32 (a : Int) &&& BitVec.ofInt 32 (b : Int)).toNat : Int) = _
  rw [BitVec.toNat_and, BitVec.ofInt_natCast, BitVec.ofInt_natCast, BitVec.toNat_ofNat, BitVec.toNat_ofNat, Nat.mod_eq_of_lt (show a < 2 ^ 32 by omega), Nat.mod_eq_of_lt (show b < 2 ^ 32 by omega), IntKind.wrap_u32]
  omega
theorem u32_andNot_nat (a b : Nat) (ha : a < 4294967296) (hb : b < 4294967296) : bits .andNot .u32 (a : Int) (b : Int) = ((a &&& (4294967295 - b) : Nat) : Int) := by
  have hx : a &&& (4294967295 - b) < 2 ^ 32 := Nat.and_lt_two_pow _ (by omega)
  show IntKind.u32.wrap ((BitVec.ofInt 32 (a : Int) &&& ~~~BitVec.ofInt 32 (b : Int)).toNat : Int) = _
  rw [BitVec.toNat_and, BitVec.toNat_not, BitVec.ofInt_natCast, BitVec.ofInt_natCast, BitVec.toNat_ofNat, BitVec.toNat_ofNat, Nat.mod_eq_of_lt (show a < 2 ^ 32 by omega), Nat.mod_eq_of_lt (show b < 2 ^ 32 by omega), IntKind.wrap_u32]
  have e : 2 ^ 32 - 1 - b = 4294967295 - b := by omega
  rw [e]
  omega
theorem wd_lt32 (g : Nat → Bool) : wd g 32 < 4294967296 := wd_lt g 32
theorem p2_lt32 {r : Nat} (h : r < 32) : 2 ^ r < 4294967296 := Nat.pow_lt_pow_right (by omega) h
theorem wd32_or (g : Nat → Bool) (r : Nat) (hr : r < 32) : wd g 32 ||| 2 ^ r = wd (fun i => g i || i == r) 32 := by
  apply Nat.eq_of_testBit_eq
  intro i
  rw [Nat.testBit_or, wd_bit, wd_bit, Nat.testBit_two_pow]
  by_cases h : i = r
  · subst h; simp [hr]
  · have h1 : ¬ r = i := fun e => h e.symm
    have h2 : (i == r) = false := beq_eq_false_iff_ne.2 h
    simp [h1, h2]
theorem wd32_andNot (g : Nat → Bool) (r : Nat) (hr : r < 32) : wd g 32 &&& (4294967295 - 2 ^ r) = wd (fun i => g i && !(i == r)) 32 := by
  apply Nat.eq_of_testBit_eq
  intro i
  have e : 4294967295 - 2 ^ r = 2 ^ 32 - (2 ^ r + 1) := by omega
  have hp : 2 ^ r < 2 ^ 32 := Nat.pow_lt_pow_right (by omega) hr
  rw [Nat.testBit_and, wd_bit, wd_bit, e, Nat.testBit_two_pow_sub_succ hp, Nat.testBit_two_pow]
  by_cases h : i = r
  · subst h; simp
  · have h1 : ¬ r = i := fun e => h e.symm
    have h2 : (i == r) = false := beq_eq_false_iff_ne.2 h
    by_cases hi : i < 32 <;> simp [h1, h2, hi]
theorem wd32_and (g : Nat → Bool) (r : Nat) (hr : r < 32) : wd g 32 &&& 2 ^ r = if g r then 2 ^ r else 0 := by
  apply Nat.eq_of_testBit_eq
  intro i
  rw [Nat.testBit_and, wd_bit, Nat.testBit_two_pow]
  by_cases h : i = r
  · subst h
    cases hg : g i <;> simp [hr]
  · have h1 : ¬ r = i := fun e => h e.symm
    cases hg : g r <;> simp [h1, Nat.testBit_two_pow]
theorem word_or (g : Nat → Bool) (r : Nat) (hr : r < 32) : bits BinOp.or IntKind.u32 ((wd g 32 : Nat) : Int) ((2 ^ r : Nat) : Int) = ((wd (fun i => g i || i == r) 32 : Nat) : Int) := by
  rw [u32_or_nat _ _ (wd_lt32 g) (p2_lt32 hr), wd32_or g r hr]
theorem word_andNot (g : Nat → Bool) (r : Nat) (hr : r < 32) : bits BinOp.andNot IntKind.u32 ((wd g 32 : Nat) : Int) ((2 ^ r : Nat) : Int) = ((wd (fun i => g i && !(i == r)) 32 : Nat) : Int) := by
  rw [u32_andNot_nat _ _ (wd_lt32 g) (p2_lt32 hr), wd32_andNot g r hr]
theorem word_and (g : Nat → Bool) (r : Nat) (hr : r < 32) : bits BinOp.and IntKind.u32 ((wd g 32 : Nat) : Int) ((2 ^ r : Nat) : Int) = if g r then ((2 ^ r : Nat) : Int) else 0 := by
  rw [u32_and_nat _ _ (wd_lt32 g) (p2_lt32 hr), wd32_and g r hr]
  split <;> rfl

/-- The first byte of each of a list is the next's, however the rest turns. -/
theorem linked_tail {bs : List Int} {a : Nat} {l : List Nat} (h : linked bs (a :: l)) : ldA bs (a : Int) 4 = ((l.headD 0 : Nat) : Int) ∧ linked bs l := h

/-- Two blocks of one page, or of two, do not overlap. -/
theorem apart {c a b : Nat} (hc : isC c) (ha : a % c = 0) (hb : b % c = 0) (hne : a ≠ b) : a + c ≤ b ∨ b + c ≤ a := by
  rcases hc with rfl | rfl | rfl | rfl | rfl <;> omega
theorem inpage {c a p : Nat} (hc : isC c) (ha : a % c = 0) (hp : a / 512 = p) : 512 * p ≤ a ∧ a + c ≤ 512 * p + 512 := by
  rcases hc with rfl | rfl | rfl | rfl | rfl <;> omega
end Go.Proofs.YtbngmkopgoelbaaDoor
