/- What is read of what was laid down. -/
import Derived.Test.YtlomgbackphmmaaDoorInPa0
set_option linter.unusedVariables false
set_option linter.unusedSimpArgs false
namespace Go.Proofs.YtlomgbackphmmaaDoor
open Go.RowKit Go.Lib

theorem enc_range (x : Ins) (h : x.Ok) : ∀ y ∈ enc x, 0 ≤ y ∧ y ≤ 255 := by
  intro y hy
  have h1 := h.op
  have h2 := h.a
  have h3 := h.b
  have h4 := h.c
  have h5 := h.imm
  simp [enc] at hy
  rcases hy with rfl | rfl | rfl | rfl | rfl | rfl | rfl | rfl <;> omega
theorem encs_range : ∀ (L : List Ins), (∀ x ∈ L, x.Ok) → ∀ y ∈ encs L, 0 ≤ y ∧ y ≤ 255
  | [], _, y, hy => by cases hy
  | x :: L, h, y, hy => by
    rcases List.mem_append.1 (show y ∈ enc x ++ encs L from hy) with hy | hy
    · exact enc_range x (h x (by simp)) y hy
    · exact encs_range L (fun z hz => h z (by simp [hz])) y hy
theorem getD_cons8 (y0 y1 y2 y3 y4 y5 y6 y7 : Int) (R : List Int) (k : Nat) : (y0 :: y1 :: y2 :: y3 :: y4 :: y5 :: y6 :: y7 :: R).getD (8 + k) 0 = R.getD k 0 := by
  rw [show 8 + k = k + 1 + 1 + 1 + 1 + 1 + 1 + 1 + 1 from by omega]
  rfl
theorem dec_succ (y0 y1 y2 y3 y4 y5 y6 y7 : Int) (R : List Int) (i : Nat) : dec (y0 :: y1 :: y2 :: y3 :: y4 :: y5 :: y6 :: y7 :: R) (i + 1) = dec R i := by
  unfold dec
  rw [show 8 * (i + 1) = 8 + 8 * i from by omega]
  simp only [Nat.add_assoc, getD_cons8]
theorem dec_encs : ∀ (L : List Ins) (i : Nat), i < L.length → (∀ x ∈ L, x.Ok) → dec (encs L) i = L.getD i z0
  | [], i, h, _ => absurd h (by simp)
  | x :: L, 0, _, hok => by
    have h5 := (hok x (by simp)).imm
    obtain ⟨op, a, b, c, imm⟩ := x
    show (⟨op, a, b, c, imm % 256 + 256 * (imm / 256 % 256) + 65536 * (imm / 65536 % 256) + 16777216 * (imm / 16777216 % 256)⟩ : Ins) = ⟨op, a, b, c, imm⟩
    dsimp only at h5
    rw [Ins.mk.injEq]
    refine ⟨rfl, rfl, rfl, rfl, ?_⟩
    omega
  | x :: L, i + 1, h, hok => by
    have ih := dec_encs L i (by simp at h; omega) (fun z hz => hok z (by simp [hz]))
    show dec (_ :: _ :: _ :: _ :: _ :: _ :: _ :: _ :: encs L) (i + 1) = _
    rw [dec_succ, ih]
    rfl
theorem getD_of_mem {L : List Ins} {x : Ins} (h : x ∈ L) : ∃ i, i < L.length ∧ L.getD i z0 = x := by
  obtain ⟨i, hi, e⟩ := List.getElem_of_mem h
  exact ⟨i, hi, by rw [List.getD_eq_getElem?_getD, List.getElem?_eq_getElem hi]; exact e⟩
theorem prsE_encs (L : List Ins) : prsE (encs L) = if 128 < L.length then 11 else pe (encs L) 0 L.length := by
  unfold prsE
  rw [encs_length, if_neg (by omega), show 8 * L.length / 8 = L.length from by omega]
/-- Laid down and read again: just if each may be, and there is room. -/
theorem prsE_encs_zero (L : List Ins) (hok : ∀ x ∈ L, x.Ok) : prsE (encs L) = 0 ↔ L.length ≤ 128 ∧ ∀ x ∈ L, chk x = 0 := by
  rw [prsE_encs]
  by_cases h : 128 < L.length
  · rw [if_pos h]
    exact ⟨fun e => absurd e (by decide), fun e => absurd e.1 (by omega)⟩
  · rw [if_neg h, pe_zero]
    constructor
    · intro hh
      refine ⟨by omega, fun x hx => ?_⟩
      obtain ⟨i, hi, e⟩ := getD_of_mem hx
      have := hh i hi
      rw [Nat.zero_add, dec_encs L i hi hok, e] at this
      exact this
    · intro hh j hj
      rw [Nat.zero_add, dec_encs L j hj hok]
      exact hh.2 _ (getD_mem hj)
theorem prsL_encs (L : List Ins) (hok : ∀ x ∈ L, x.Ok) (h : prsE (encs L) = 0) : prsL (encs L) = L := by
  unfold prsL
  rw [if_pos h, encs_length, show 8 * L.length / 8 = L.length from by omega]
  apply List.ext_getElem
  · simp
  · intro i h1 h2
    rw [List.getElem_map, List.getElem_range, dec_encs L i h2 hok, List.getD_eq_getElem?_getD, List.getElem?_eq_getElem h2]
    rfl
theorem prsE_one (x : Ins) (hok : x.Ok) : prsE (encs [x]) = chk x := by
  rw [prsE_encs, if_neg (by simp)]
  show pe (encs [x]) 0 1 = chk x
  rw [pe, dec_encs [x] 0 (by simp) (by simpa using hok)]
  show (if chk x = 0 then pe (encs [x]) 1 0 else chk x) = chk x
  by_cases h : chk x = 0
  · rw [if_pos h, h]; rfl
  · rw [if_neg h]
theorem prsL_one (x : Ins) (hok : x.Ok) : prsL (encs [x]) = if chk x = 0 then [x] else [] := by
  by_cases h : chk x = 0
  · rw [if_pos h]
    exact prsL_encs [x] (by simpa using hok) (by rw [prsE_one x hok]; exact h)
  · rw [if_neg h]
    unfold prsL
    rw [prsE_one x hok, if_neg h]
theorem encs_dec : ∀ (m : Nat) (l : List Int), l.length = 8 * m → (∀ y ∈ l, 0 ≤ y ∧ y ≤ 255) → encs ((List.range m).map (dec l)) = l
  | 0, l, h, _ => by
    obtain rfl : l = [] := List.eq_nil_of_length_eq_zero (by omega)
    rfl
  | m + 1, y0 :: y1 :: y2 :: y3 :: y4 :: y5 :: y6 :: y7 :: R, h, hr => by
    have ih := encs_dec m R (by simp at h; omega) (fun y hy => hr y (by simp [hy]))
    rw [List.range_succ_eq_map, List.map_cons, List.map_map]
    have e : dec (y0 :: y1 :: y2 :: y3 :: y4 :: y5 :: y6 :: y7 :: R) ∘ Nat.succ = dec R := funext fun i => dec_succ _ _ _ _ _ _ _ _ R i
    rw [e]
    show enc ⟨y0, y1, y2, y3, y4 + 256 * y5 + 65536 * y6 + 16777216 * y7⟩ ++ encs ((List.range m).map (dec R)) = _
    rw [ih]
    have h4 := hr y4 (by simp)
    have h5 := hr y5 (by simp)
    have h6 := hr y6 (by simp)
    have h7 := hr y7 (by simp)
    unfold enc
    dsimp only
    rw [show (y4 + 256 * y5 + 65536 * y6 + 16777216 * y7) % 256 = y4 from by omega, show (y4 + 256 * y5 + 65536 * y6 + 16777216 * y7) / 256 % 256 = y5 from by omega,
      show (y4 + 256 * y5 + 65536 * y6 + 16777216 * y7) / 65536 % 256 = y6 from by omega, show (y4 + 256 * y5 + 65536 * y6 + 16777216 * y7) / 16777216 % 256 = y7 from by omega]
    rfl
  | m + 1, [], h, _ => absurd h (by simp)
  | m + 1, [_], h, _ => absurd h (by simp; omega)
  | m + 1, [_, _], h, _ => absurd h (by simp; omega)
  | m + 1, [_, _, _], h, _ => absurd h (by simp; omega)
  | m + 1, [_, _, _, _], h, _ => absurd h (by simp; omega)
  | m + 1, [_, _, _, _, _], h, _ => absurd h (by simp; omega)
  | m + 1, [_, _, _, _, _, _], h, _ => absurd h (by simp; omega)
  | m + 1, [_, _, _, _, _, _, _], h, _ => absurd h (by simp; omega)
theorem pe_nine (l : List Int) : prsE l = 0 → l.length = 8 * (l.length / 8) := by
  intro h
  unfold prsE at h
  by_cases h8 : l.length % 8 ≠ 0
  · rw [if_pos h8] at h; cases h
  · omega
theorem encs_prsL (l : List Int) (h : prsE l = 0) (hr : ∀ y ∈ l, 0 ≤ y ∧ y ≤ 255) : encs (prsL l) = l := by
  unfold prsL
  rw [if_pos h]
  exact encs_dec _ l (pe_nine l h) hr
theorem Pr.lit (w : World) (x : Ins) (hx : x.Ok) : Pr (w.alloc (.cells x.cells 24)) (some ⟨w.heap.size, 0, none⟩) [x] := by
  refine ⟨fun i hi => ?_, by simpa using hx⟩
  obtain rfl : i = 0 := by simp at hi; omega
  refine ⟨_, rfl, by rw [World.size_alloc]; exact Nat.lt_succ_self _, fun j v hv => ?_⟩
  have hv' : x.cells.toList[j]? = some v := by rw [Array.getElem?_toList]; exact hv
  have := new_cells w _ _ _ _ _ j v hv'
  rw [Nat.zero_mul, Nat.zero_add]
  exact this
end Go.Proofs.YtlomgbackphmmaaDoor
