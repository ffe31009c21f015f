/- The reference of layer 16, as printed: what stands behind, and ahead, in flow's own words. -/
import Derived.Test.YtaomlfnffnapmaaPFlowNextsx2
import Derived.Test.YtaomlfnffnapmaaFlS
import Derived.Test.YtaomlfnffnapmaaFlW
set_option linter.unusedVariables false
set_option linter.unusedSimpArgs false
namespace Go.Proofs.Ytaomlfnffnapmaa.RefN
open Go.RowKit Go.Proofs.YtaomlfnffnapmaaW.PrintWords Go.Proofs.Ytaomlfnffnapmaa.PFlowNexts
open Go.Proofs.Ytaomlfnffnapmaa (Ins z0 Pr beh beh_le beh_nn inP two nx ah ahU hit ahU_hit ahU_miss Ri getD_mem)

theorem w64 {x : Int} (h0 : -9223372036854775808 ≤ x) (h1 : x ≤ 9223372036854775807) : wrap64 x = x := by unfold wrap64; omega
def s37 (x : Ins) : S37 := ⟨x.op, x.a, x.b, x.c, x.imm⟩
theorem C_of_pr {w : World} {A : Option Addr} {L : List Ins} (h : Pr w A L) (hl : L.length ≤ 9223372036854775807) : Kd.C k37 w A (L.map s37).length (L.map s37) := by
  refine ⟨rfl, by simpa using hl, fun hn => ?_⟩
  rw [List.length_map] at hn
  obtain ⟨ad, e, _, _⟩ := h.at' 0 hn
  refine ⟨ad, e, fun j p hj => ?_⟩
  have hjl : j < L.length := by have := (List.getElem?_eq_some_iff.1 hj).1; simpa using this
  obtain ⟨ad', e', _, hc⟩ := h.at' j hjl
  obtain rfl : ad = ad' := by rw [e] at e'; injection e'
  have hp : p = s37 (L.getD j z0) := by
    rw [List.getElem?_map, List.getElem?_eq_getElem hjl] at hj
    rw [List.getD_eq_getElem?_getD, List.getElem?_eq_getElem hjl]
    injection hj with hj
    exact hj.symm
  subst hp
  exact ⟨_, rfl, k37_mk w _, fun i u hu => hc i u (by rw [← Array.getElem?_toList]; exact hu)⟩
theorem rd_s (L : List Ins) (k : Nat) (hk : k < L.length) : rd_T37 (L.map s37) (k : Int) = s37 (L.getD k z0) := by
  unfold rd_T37
  rw [Int.toNat_natCast, List.getD_eq_getElem?_getD, List.getElem?_map, List.getElem?_eq_getElem hk, List.getD_eq_getElem?_getD, List.getElem?_eq_getElem hk]
  rfl
theorem some_beq (a b : Int) : (some (a == b) : Option Bool) = some (decide (a = b)) := by
  congr 1
theorem Follows_eq (L : List Ins) (hL : ∀ i, (L.getD i z0).Ok) (hn : L.length ≤ 1000) (pc on : Int) (hpc : -9223372036854775808 ≤ pc ∧ pc ≤ 9223372036854775807) (k : Nat) (hk : 1 ≤ k) : turnbuckleref16_Follows.f k (L.map s37) pc on = some (decide (on ∈ beh L pc)) := by
  obtain ⟨k, rfl⟩ : ∃ m, k = m + 1 := ⟨k - 1, by omega⟩
  unfold turnbuckleref16_Follows.f beh
  by_cases h0 : pc < 0
  · rw [if_pos h0, if_pos (.inl h0)]
    simp only [turnbuckleref16_Follows.j0]
    rw [if_pos trivial]; simp
  rw [if_neg h0]
  by_cases h1 : (L.length : Int) ≤ pc
  · rw [decide_eq_true (by rw [List.length_map]; exact h1), if_pos (.inr h1)]
    simp only [turnbuckleref16_Follows.j0]
    rw [if_pos trivial]; simp
  rw [decide_eq_false (by rw [List.length_map]; omega), if_neg (by omega)]
  obtain ⟨j, rfl⟩ := Int.eq_ofNat_of_zero_le (show 0 ≤ pc by omega)
  simp only [turnbuckleref16_Follows.j0]
  have hj : j < L.length := by omega
  have ok := (hL j).imm
  rw [if_neg (by simp), if_pos (by omega), if_pos (by rw [List.length_map]; omega), rd_s L j hj, Int.toNat_natCast]
  generalize L.getD j z0 = x at *
  show (if x.op = 15 then _ else if x.op = 5 then some (on == wrap64 ((j : Int) + wrap64 x.imm)) else if x.op = 6 then (if on = wrap64 ((j : Int) + 1) then some true else some (on == wrap64 ((j : Int) + wrap64 x.imm))) else if x.op = 7 then (if on = wrap64 ((j : Int) + 1) then some true else some (on == wrap64 ((j : Int) + wrap64 x.imm))) else some (on == wrap64 ((j : Int) + 1))) = _
  rw [w64 (x := x.imm) (by omega) (by omega), w64 (x := (j : Int) + x.imm) (by omega) (by omega), w64 (x := (j : Int) + 1) (by omega) (by omega)]
  by_cases e15 : x.op = 15
  · rw [if_pos e15, if_pos e15]; simp
  rw [if_neg e15, if_neg e15]
  by_cases e5 : x.op = 5
  · rw [if_pos e5, if_pos e5, some_beq]; simp
  rw [if_neg e5, if_neg e5]
  have key : (if on = (j : Int) + 1 then some true else some (on == (j : Int) + x.imm)) = some (decide (on ∈ (if x.imm = 1 then [(j : Int) + 1] else [(j : Int) + 1, (j : Int) + x.imm]))) := by
    by_cases e1 : x.imm = 1
    · rw [if_pos e1, e1, some_beq]
      by_cases h : on = (j : Int) + 1
      · rw [if_pos h]; simp [h]
      · rw [if_neg h]; simp
    · rw [if_neg e1, some_beq]
      by_cases h : on = (j : Int) + 1
      · rw [if_pos h]; simp [h]
      · rw [if_neg h]; simp [h]
  by_cases e6 : x.op = 6
  · rw [if_pos e6, if_pos (show x.op = 6 ∨ x.op = 7 from .inl e6)]; exact key
  rw [if_neg e6]
  by_cases e7 : x.op = 7
  · rw [if_pos e7, if_pos (show x.op = 6 ∨ x.op = 7 from .inr e7)]; exact key
  rw [if_neg e7, if_neg (show ¬ (x.op = 6 ∨ x.op = 7) from fun h => h.elim e6 e7), some_beq]
  simp

/-- The numbers below n that are in a list, rising. -/
def upN (bs : List Int) (n : Nat) : List Int := ((List.range n).filter (fun i : Nat => decide ((i : Int) ∈ bs))).map (fun i : Nat => (i : Int))
theorem upN_succ (bs : List Int) (n : Nat) : upN bs (n + 1) = upN bs n ++ if ((n : Nat) : Int) ∈ bs then [(n : Int)] else [] := by
  unfold upN
  rw [List.range_succ, List.filter_append, List.map_append]
  by_cases h : ((n : Nat) : Int) ∈ bs
  · rw [if_pos h]; simp [h]
  · rw [if_neg h]; simp [h]
theorem upN_le (bs : List Int) (n : Nat) : (upN bs n).length ≤ n := by
  unfold upN; rw [List.length_map]; exact Nat.le_trans (List.length_filter_le _ _) (by simp)
theorem two_eq (x y n : Int) : two ([x, y].filter (fun z => decide (z < n))) = if x < n then (if y < n then (if y < x then [y, x] else [x, y]) else [x]) else (if y < n then [y] else []) := by
  by_cases hx : x < n <;> by_cases hy : y < n <;> simp [hx, hy, two]
theorem upN_two (x y : Nat) (hne : x ≠ y) : ∀ n : Nat, upN [(x : Int), (y : Int)] n = two ([(x : Int), (y : Int)].filter (fun z => decide (z < (n : Int))))
  | 0 => by
    rw [two_eq, if_neg (by omega), if_neg (by omega)]
    rfl
  | n + 1 => by
    rw [upN_succ, upN_two x y hne n, two_eq, two_eq]
    have hm : ((n : Nat) : Int) ∈ [(x : Int), (y : Int)] ↔ n = x ∨ n = y := by simp; omega
    rcases Nat.lt_trichotomy x n with hx | hx | hx <;> rcases Nat.lt_trichotomy y n with hy | hy | hy
    · rw [if_pos (by omega), if_pos (by omega), if_neg (show ¬ ((n : Nat) : Int) ∈ [(x : Int), (y : Int)] from fun h => by have := hm.1 h; omega), if_pos (show (x : Int) < ((n + 1 : Nat) : Int) by omega), if_pos (show (y : Int) < ((n + 1 : Nat) : Int) by omega), List.append_nil]
    · subst hy; rw [if_pos (by omega), if_neg (by omega), if_pos (hm.2 (.inr rfl)), if_pos (by omega), if_pos (by omega), if_neg (by omega)]; rfl
    · rw [if_pos (by omega), if_neg (by omega), if_neg (fun h => by have := hm.1 h; omega), if_pos (by omega), if_neg (by omega), List.append_nil]
    · subst hx; rw [if_neg (by omega), if_pos (by omega), if_pos (hm.2 (.inl rfl)), if_pos (by omega), if_pos (by omega), if_pos (by omega)]; rfl
    · omega
    · subst hx; rw [if_neg (by omega), if_neg (by omega), if_pos (hm.2 (.inl rfl)), if_pos (by omega), if_neg (by omega)]; rfl
    · rw [if_neg (by omega), if_pos (by omega), if_neg (fun h => by have := hm.1 h; omega), if_neg (by omega), if_pos (by omega), List.append_nil]
    · subst hy; rw [if_neg (by omega), if_neg (by omega), if_pos (hm.2 (.inr rfl)), if_neg (by omega), if_pos (by omega)]; rfl
    · rw [if_neg (by omega), if_neg (by omega), if_neg (fun h => by have := hm.1 h; omega), if_neg (by omega), if_neg (by omega), List.append_nil]
theorem upN_one (x : Nat) : ∀ n : Nat, upN [(x : Int)] n = two ([(x : Int)].filter (fun z => decide (z < (n : Int))))
  | 0 => by simp [upN, two]
  | n + 1 => by
    rw [upN_succ, upN_one x n]
    rcases Nat.lt_trichotomy x n with hx | hx | hx
    · rw [List.filter_cons_of_pos (by simp; omega), List.filter_cons_of_pos (by simp; omega), if_neg (by simp; omega)]; rfl
    · subst hx; rw [List.filter_cons_of_neg (by simp), List.filter_cons_of_pos (by simp; omega), if_pos (by simp)]; rfl
    · rw [List.filter_cons_of_neg (by simp; omega), List.filter_cons_of_neg (by simp; omega), if_neg (by simp; omega)]; rfl
theorem upN_nil : ∀ n : Nat, upN [] n = []
  | 0 => rfl
  | n + 1 => by rw [upN_succ, upN_nil n]; simp
theorem nx_up (L : List Ins) (hL : ∀ i, (L.getD i z0).Ok) (pc : Int) : upN (beh L pc) L.length = nx L pc := by
  unfold nx inP
  by_cases hr : pc < 0 ∨ (L.length : Int) ≤ pc
  · have hb : beh L pc = [] := by unfold beh; rw [if_pos hr]
    rw [hb, upN_nil]; rfl
  obtain ⟨k, rfl⟩ := Int.eq_ofNat_of_zero_le (show 0 ≤ pc by omega)
  have hk : k < L.length := by omega
  have ok := (hL k).imm
  rcases Go.Proofs.Ytaomlfnffnapmaa.beh_cases k hk with ⟨e, h1⟩ | ⟨e, h1⟩ | ⟨e, e1, h1⟩ | ⟨e, e1, h1⟩ | ⟨e, h1⟩
  · rw [h1, upN_nil]; rfl
  · obtain ⟨x, hx⟩ := Int.eq_ofNat_of_zero_le (show 0 ≤ (k : Int) + (L.getD k z0).imm by omega)
    rw [h1, hx]; exact upN_one x _
  · rw [h1]; exact upN_one (k + 1) _
  · obtain ⟨x, hx⟩ := Int.eq_ofNat_of_zero_le (show 0 ≤ (k : Int) + (L.getD k z0).imm by omega)
    rw [h1, hx]; exact upN_two (k + 1) x (by omega) _
  · rw [h1]; exact upN_one (k + 1) _

theorem next_in (L : List Ins) (hL : ∀ i, (L.getD i z0).Ok) (hn : L.length ≤ 1000) (pc : Int) (hpc : -9223372036854775808 ≤ pc ∧ pc ≤ 9223372036854775807) :
    ∀ (d i r : Nat), i + d = L.length → turnbuckleref16_Next.l0 (r + d + 2) (L.map s37) pc (upN (beh L pc) i) i = some (upN (beh L pc) L.length)
  | 0, i, r, h => by
    show turnbuckleref16_Next.l0 ((r + 1) + 1) _ _ _ _ = _
    simp only [turnbuckleref16_Next.l0]
    rw [if_neg (by rw [List.length_map]; omega), show i = L.length from by omega]
  | d + 1, i, r, h => by
    have ih := next_in L hL hn pc hpc d (i + 1) r (by omega)
    have hle := upN_le (beh L pc) i
    rw [show r + (d + 1) + 2 = (r + d + 2) + 1 from by omega]
    rw [upN_succ] at ih
    have hF := Follows_eq L hL hn pc (i : Int) hpc (r + d + 2) (by omega)
    generalize r + d + 2 = K at *
    simp only [turnbuckleref16_Next.l0]
    rw [if_pos (by rw [List.length_map]; omega), hF]
    simp only [Option.bind_some]
    rw [w64 (x := (i : Int) + 1) (by omega) (by omega), show ((i : Int) + 1) = ((i + 1 : Nat) : Int) from by omega]
    by_cases hm : (i : Int) ∈ beh L pc
    · rw [if_pos hm] at ih
      rw [if_pos (decide_eq_true hm), if_pos (by omega)]
      exact ih
    · rw [if_neg hm, List.append_nil] at ih
      rw [if_neg (by simpa using hm)]
      exact ih
theorem Next_eq (L : List Ins) (hL : ∀ i, (L.getD i z0).Ok) (hn : L.length ≤ 1000) (pc : Int) (hpc : -9223372036854775808 ≤ pc ∧ pc ≤ 9223372036854775807) : turnbuckleref16_Next.f (L.length + 2) (L.map s37) pc = some (nx L pc) := by
  unfold turnbuckleref16_Next.f
  have := next_in L hL hn pc hpc L.length 0 0 (by omega)
  rw [nx_up L hL pc] at this
  rw [show L.length + 2 = 0 + L.length + 2 from by omega]
  exact this

theorem ahead_in (L : List Ins) (hL : ∀ i, (L.getD i z0).Ok) (hn : L.length ≤ 1000) (pc : Int) (hpc : pc < (L.length : Int)) :
    ∀ (d i r : Nat), i + d = L.length → turnbuckleref16_Ahead.l0 (r + 2 * d + 3) (L.map s37) pc (ahU L pc i) i = some (ahU L pc L.length)
  | 0, i, r, h => by
    show turnbuckleref16_Ahead.l0 ((r + 1) + 1 + 1) _ _ _ _ = _
    simp only [turnbuckleref16_Ahead.l0]
    rw [if_neg (by rw [List.length_map]; omega)]
    simp only [turnbuckleref16_Ahead.j1]
    rw [if_neg (by simp), show i = L.length from by omega]
  | d + 1, i, r, h => by
    have ih := ahead_in L hL hn pc hpc d (i + 1) r (by omega)
    have hle := Go.Proofs.Ytaomlfnffnapmaa.ahU_le L pc i
    rw [show r + 2 * (d + 1) + 3 = (r + 2 * d + 3) + 1 + 1 from by omega]
    have hF := Follows_eq L hL hn (i : Int) pc (by omega) (r + 2 * d + 3) (by omega)
    generalize r + 2 * d + 3 = K at *
    simp only [turnbuckleref16_Ahead.l0]
    rw [if_pos (by rw [List.length_map]; omega), decide_eq_true (by rw [List.length_map]; exact hpc)]
    simp only [turnbuckleref16_Ahead.j1]
    rw [if_pos trivial, hF]
    simp only [Option.bind_some]
    rw [w64 (x := (i : Int) + 1) (by omega) (by omega), show ((i : Int) + 1) = ((i + 1 : Nat) : Int) from by omega]
    by_cases hm : pc ∈ beh L (i : Int)
    · rw [ahU_hit (by unfold hit; rw [decide_eq_true hm, decide_eq_true hpc]; rfl)] at ih
      rw [if_pos (decide_eq_true hm), if_pos (by omega)]
      exact ih
    · rw [ahU_miss (by unfold hit; rw [decide_eq_false hm]; rfl)] at ih
      rw [if_neg (by simpa using hm)]
      exact ih
theorem ah_far {L : List Ins} {pc : Int} (h : ¬ pc < (L.length : Int)) : ∀ k, ahU L pc k = []
  | 0 => rfl
  | k + 1 => by rw [ahU_miss (by unfold hit; rw [decide_eq_false h, Bool.and_false])]; exact ah_far h k
theorem Ahead_eq (L : List Ins) (hL : ∀ i, (L.getD i z0).Ok) (hn : L.length ≤ 1000) (pc : Int) (hpc0 : -9223372036854775808 ≤ pc ∧ pc ≤ 9223372036854775807) : turnbuckleref16_Ahead.f (2 * L.length + 3) (L.map s37) pc = some (ah L pc) := by
  unfold turnbuckleref16_Ahead.f ah
  by_cases hpc : pc < (L.length : Int)
  · have := ahead_in L hL hn pc hpc L.length 0 0 (by omega)
    rw [show 2 * L.length + 3 = 0 + 2 * L.length + 3 from by omega]
    exact this
  · rw [ah_far hpc]
    show turnbuckleref16_Ahead.l0 ((2 * L.length + 1) + 1 + 1) _ _ _ _ = _
    simp only [turnbuckleref16_Ahead.l0]
    by_cases h0 : (0 : Int) < ((L.map s37).length : Int)
    · rw [if_pos h0, decide_eq_false (by rw [List.length_map]; exact hpc)]
      simp only [turnbuckleref16_Ahead.j1]
      rw [if_neg (by simp)]
    · rw [if_neg h0]
      simp only [turnbuckleref16_Ahead.j1]
      rw [if_neg (by simp)]
end Go.Proofs.Ytaomlfnffnapmaa.RefN
