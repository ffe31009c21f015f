/- A row of bytes, read as instructions. -/
import Derived.Test.YtlomgbackphmmaaDoorInB0
import Derived.Lib.EndianBits
import Derived.Laws.BitsAllLaws
set_option linter.unusedVariables false
set_option linter.unusedSimpArgs false
namespace Go.Proofs.YtlomgbackphmmaaDoor
open Go.RowKit Go.Lib

/-- A slice that reads as these bytes. -/
structure By (w : World) (A : Option Addr) (l : List Int) : Prop where
  at' : ∀ i, i < l.length → ∃ ad : Addr, A = some ad ∧ ad.block < w.heap.size ∧ w.cell? (ad.add i) = some (.int .u8 (l.getD i 0))
  rng : ∀ x ∈ l, 0 ≤ x ∧ x ≤ 255
theorem By.below {w w1 : World} {A : Option Addr} {l : List Int} (h : By w A l) (hb : Below w.heap.size w w1) : By w1 A l := ⟨fun i hi => by
  obtain ⟨ad, e, hl, hc⟩ := h.at' i hi
  exact ⟨ad, e, Nat.lt_of_lt_of_le hl hb.size, (hb.cell (by rw [block_add]; exact hl)).trans hc⟩, h.rng⟩
theorem By.rngD {w : World} {A : Option Addr} {l : List Int} (h : By w A l) (i : Nat) : 0 ≤ l.getD i 0 ∧ l.getD i 0 ≤ 255 := by
  by_cases hi : i < l.length
  · rw [List.getD_eq_getElem?_getD, List.getElem?_eq_getElem hi]; exact h.rng _ (List.getElem_mem hi)
  · rw [List.getD_eq_getElem?_getD, List.getElem?_eq_none (by omega)]; decide
theorem By.of_col {w : World} {A : Option Addr} {len : Nat} {f : Nat → Int} (h : ColI w A len 1 0 .u8 f) : ∃ l : List Int, l.length = len ∧ By w A l := by
  refine ⟨(List.range len).map f, by simp, ⟨fun i hi => ?_, fun x hx => ?_⟩⟩
  · have hi' : i < len := by simpa using hi
    obtain ⟨ad, e, hl, hc, _⟩ := h i hi'
    refine ⟨ad, e, hl, ?_⟩
    rw [List.getD_eq_getElem?_getD, List.getElem?_map, List.getElem?_range hi']
    rw [Nat.mul_one] at hc
    exact hc
  · obtain ⟨i, hi, rfl⟩ := List.mem_map.1 hx
    obtain ⟨_, _, _, _, hw⟩ := h i (List.mem_range.1 hi)
    exact bd_u8 hw
theorem u8s_at (l : List Int) (i : Nat) (hi : i < l.length) : (u8s l)[i]? = some (.int .u8 (l.getD i 0)) := by
  unfold u8s
  rw [List.getElem?_map, List.getD_eq_getElem?_getD, List.getElem?_eq_getElem hi]; rfl
theorem By.of_row {w : World} {base n : Nat} {v : Value} {l : List Int} (h : w.ownsRow base 5 1 v n (u8s l)) (hn : n = l.length) (hr : ∀ x ∈ l, 0 ≤ x ∧ x ≤ 255) : ∃ A c, v = .slice A n c ∧ n ≤ c ∧ By w A l := by
  rcases h.2 with ⟨rfl, h0⟩ | ⟨g, cap, cur, rfl, hb, hg, hc, _⟩
  · exact ⟨none, 0, by rw [h0], by omega, ⟨fun i hi => by omega, hr⟩⟩
  · exact ⟨_, cap, rfl, hc, ⟨fun i hi => ⟨_, rfl, (Array.getElem?_eq_some_iff.1 hg).1, h.cells rfl _ _ (u8s_at l i hi)⟩, hr⟩⟩

/-- The instruction that lies from one on. -/
def dec (l : List Int) (i : Nat) : Ins := ⟨l.getD (8 * i) 0, l.getD (8 * i + 1) 0, l.getD (8 * i + 2) 0, l.getD (8 * i + 3) 0, l.getD (8 * i + 4) 0 + 256 * l.getD (8 * i + 5) 0 + 65536 * l.getD (8 * i + 6) 0 + 16777216 * l.getD (8 * i + 7) 0⟩
/-- The first that may not be, from one on. -/
def pe (l : List Int) : Nat → Nat → Int
  | i, 0 => 0
  | i, m + 1 => if chk (dec l i) = 0 then pe l (i + 1) m else chk (dec l i)
def prsE (l : List Int) : Int := if l.length % 8 ≠ 0 then 3 else if 128 < l.length / 8 then 11 else pe l 0 (l.length / 8)
def prsL (l : List Int) : List Ins := if prsE l = 0 then (List.range (l.length / 8)).map (dec l) else []
theorem By.dec_ok {w : World} {A : Option Addr} {l : List Int} (h : By w A l) (i : Nat) : (dec l i).Ok := by
  have h4 := h.rngD (8 * i + 4)
  have h5 := h.rngD (8 * i + 5)
  have h6 := h.rngD (8 * i + 6)
  have h7 := h.rngD (8 * i + 7)
  refine ⟨h.rngD _, h.rngD _, h.rngD _, h.rngD _, ?_⟩
  unfold dec
  dsimp only
  omega
theorem pe_zero (l : List Int) : ∀ m i, pe l i m = 0 ↔ ∀ j, j < m → chk (dec l (i + j)) = 0
  | 0, i => ⟨fun _ j hj => absurd hj (by omega), fun _ => rfl⟩
  | m + 1, i => by
    rw [pe]
    by_cases h : chk (dec l i) = 0
    · rw [if_pos h, pe_zero l m (i + 1)]
      constructor
      · intro hh j hj
        cases j with
        | zero => exact h
        | succ j => have := hh j (by omega); rwa [show i + 1 + j = i + (j + 1) from by omega] at this
      · intro hh j hj
        have := hh (j + 1) (by omega); rwa [show i + (j + 1) = i + 1 + j from by omega] at this
    · rw [if_neg h]
      exact ⟨fun hh => absurd hh h, fun hh => absurd (hh 0 (by omega)) h⟩
theorem By.drop {w : World} {ad : Addr} {l : List Int} (h : By w (some ad) l) (k : Nat) : By w (some (ad.add k)) (l.drop k) := by
  refine ⟨fun i hi => ?_, fun x hx => h.rng x (List.mem_of_mem_drop hx)⟩
  rw [List.length_drop] at hi
  obtain ⟨ad', e, hl, hc⟩ := h.at' (k + i) (by omega)
  obtain rfl : ad = ad' := by injection e
  refine ⟨_, rfl, by rw [block_add]; exact hl, ?_⟩
  rw [add_of_add, hc, List.getD_eq_getElem?_getD, List.getD_eq_getElem?_getD, List.getElem?_drop]
theorem By.nil (w : World) (A : Option Addr) : By w A [] := ⟨fun i hi => absurd hi (by simp), fun x hx => by cases hx⟩
theorem drop_at (l : List Int) (i j : Nat) : (l.drop (8 * i)).getD j 0 = l.getD (8 * i + j) 0 := by
  rw [List.getD_eq_getElem?_getD, List.getD_eq_getElem?_getD, List.getElem?_drop]
theorem By.eight {w w0 : World} {A B : Option Addr} {l : List Int} {i : Nat} (h : By w A (l.drop (8 * i))) (h0 : By w0 B l) (hl : 8 ≤ (l.drop (8 * i)).length) :
    ∃ ad : Addr, A = some ad ∧ ad.block < w.heap.size ∧ ∃ y0 y1 y2 y3 y4 y5 y6 y7 : Int, dec l i = ⟨y0, y1, y2, y3, y4 + 256 * y5 + 65536 * y6 + 16777216 * y7⟩ ∧
      (0 ≤ y4 ∧ y4 ≤ 255) ∧ (0 ≤ y5 ∧ y5 ≤ 255) ∧ (0 ≤ y6 ∧ y6 ≤ 255) ∧ (0 ≤ y7 ∧ y7 ≤ 255) ∧ (⟨y0, y1, y2, y3, y4 + 256 * y5 + 65536 * y6 + 16777216 * y7⟩ : Ins).Ok ∧
      w.cell? ad = some (.int .u8 y0) ∧ w.cell? ⟨ad.block, ad.off + 1, none⟩ = some (.int .u8 y1) ∧ w.cell? ⟨ad.block, ad.off + 2, none⟩ = some (.int .u8 y2) ∧ w.cell? ⟨ad.block, ad.off + 3, none⟩ = some (.int .u8 y3) ∧
      (∀ W : World, Below w.heap.size w W → W.cell? ⟨ad.block, ad.off + 4, none⟩ = some (.int .u8 y4)) ∧ (∀ W : World, Below w.heap.size w W → W.cell? ⟨ad.block, ad.off + 5, none⟩ = some (.int .u8 y5)) ∧
      (∀ W : World, Below w.heap.size w W → W.cell? ⟨ad.block, ad.off + 6, none⟩ = some (.int .u8 y6)) ∧ (∀ W : World, Below w.heap.size w W → W.cell? ⟨ad.block, ad.off + 7, none⟩ = some (.int .u8 y7)) := by
  obtain ⟨ad, rfl, hlt, _⟩ := h.at' 0 (by omega)
  have bs : ∀ j, j < 8 → w.cell? (ad.add j) = some (.int .u8 (l.getD (8 * i + j) 0)) := fun j hj => by
    obtain ⟨ad', e, _, hc⟩ := h.at' j (by omega)
    obtain rfl : ad = ad' := by injection e
    rw [hc, drop_at]
  exact ⟨ad, rfl, hlt, _, _, _, _, _, _, _, _, rfl, h0.rngD _, h0.rngD _, h0.rngD _, h0.rngD _, h0.dec_ok i, bs 0 (by omega), bs 1 (by omega), bs 2 (by omega), bs 3 (by omega),
    fun W hW => (hW.cell (p := ⟨ad.block, ad.off + 4, none⟩) hlt).trans (bs 4 (by omega)), fun W hW => (hW.cell (p := ⟨ad.block, ad.off + 5, none⟩) hlt).trans (bs 5 (by omega)),
    fun W hW => (hW.cell (p := ⟨ad.block, ad.off + 6, none⟩) hlt).trans (bs 6 (by omega)), fun W hW => (hW.cell (p := ⟨ad.block, ad.off + 7, none⟩) hlt).trans (bs 7 (by omega))⟩
/-- While an instruction is put together in a box. -/
structure Pz (wr : World) (x : Ins) (W : World) : Prop where
  bx : Bx W wr.heap.size x
  below : Below wr.heap.size wr W
theorem Pz.start (wr : World) (a b c d e : Int) : Pz wr ⟨a, b, c, d, e⟩ (wr.alloc (.cells #[.int .u8 a, .int .u8 b, .int .u8 c, .int .u8 d, .int .u32 e] 24)).drew :=
  ⟨(Bx.new wr ⟨a, b, c, d, e⟩).below ⟨rfl, rfl, rfl, Nat.le_refl _, fun _ _ => rfl⟩, ((Below.refl _ _).alloc (Nat.le_refl _) _).trans ⟨rfl, rfl, rfl, Nat.le_refl _, fun _ _ => rfl⟩⟩
theorem Pz.put {wr W : World} {a b c d e : Int} (S : Pz wr ⟨a, b, c, d, e⟩ W) (e' : Int) : Pz wr ⟨a, b, c, d, e'⟩ (W.setCell ⟨wr.heap.size, 4, none⟩ (.int .u32 e')).drew := by
  have hb := S.bx
  have h1 := S.below
  refine ⟨?_, ?_⟩
  · show (W.setCell ⟨wr.heap.size, 4, none⟩ (.int .u32 e')).heap[wr.heap.size]? = _
    rw [heap_setCell_same W wr.heap.size 4 _ _ _ hb]
    rfl
  · exact ⟨h1.os, h1.tape, h1.output, by show wr.heap.size ≤ (W.setCell ⟨wr.heap.size, 4, none⟩ (.int .u32 e')).heap.size; rw [World.size_setCell]; exact h1.size, fun i hi => (Below.heap_setCell W ⟨wr.heap.size, 4, none⟩ _ i (by show i ≠ wr.heap.size; omega)).trans (h1.block i hi)⟩
theorem Pz.fz {wr W : World} {x : Ins} (S : Pz wr x W) : W.frozen? ⟨wr.heap.size, 4, none⟩ = false := Lib.frozen_of_heap S.bx 4
theorem or0 (y : Int) (h : 0 ≤ y ∧ y ≤ 255) : bits .or .u32 0 y = y := by
  obtain ⟨n, rfl⟩ := Int.eq_ofNat_of_zero_le h.1
  rw [show (0 : Int) = ((0 : Nat) : Int) from rfl, u32_or_nat 0 n (by omega) (by omega)]
  simp
theorem or1 (x y : Int) (hx : 0 ≤ x ∧ x < 256) (h : 0 ≤ y ∧ y ≤ 255) : bits .or .u32 x (y * 256) = x + 256 * y := by
  rw [u32_or8 _ _ hx.1 hx.2 (by omega) (by omega) (by omega)]; omega
theorem or2 (x y : Int) (hx : 0 ≤ x ∧ x < 65536) (h : 0 ≤ y ∧ y ≤ 255) : bits .or .u32 x (y * 65536) = x + 65536 * y := by
  rw [u32_or16 _ _ hx.1 hx.2 (by omega) (by omega) (by omega)]; omega
theorem or3 (x y : Int) (hx : 0 ≤ x ∧ x < 16777216) (h : 0 ≤ y ∧ y ≤ 255) : bits .or .u32 x (y * 16777216) = x + 16777216 * y := by
  rw [u32_or24 _ _ hx.1 hx.2 (by omega) (by omega) (by omega)]; omega
end Go.Proofs.YtlomgbackphmmaaDoor
