/- The reference of layer 16, as printed: Check and Longest. -/
import Derived.Test.YtaomlfnffnapmaaFlR0
set_option linter.unusedVariables false
set_option linter.unusedSimpArgs false
namespace Go.Proofs.Ytaomlfnffnapmaa.RefC
open Go.RowKit Go.Proofs.YtaomlfnffnapmaaW.PrintWords Go.Proofs.Ytaomlfnffnapmaa.PFlowChecks
open Go.Proofs.Ytaomlfnffnapmaa (Ins z0 Pr beh beh_le beh_nn inP two nx Ri getD_mem chk isOp bnd hasW over rch rch_succ bad fchkU fchk lng lgd lgN mxl mxl_snoc well_len well_chk well_beh nx_well lgd_bd beh_cases lng_bad mxl_le)

def s37 (x : Ins) : S37 := ⟨x.op, x.a, x.b, x.c, x.imm⟩
theorem C_of_pr {w : World} {A : Option Addr} {L : List Ins} (h : Pr w A L) (hl : L.length ≤ 9223372036854775807) : Kd.C k37 w A (L.map s37).length (L.map s37) := by
  refine ⟨rfl, by simpa using hl, fun hn => ?_⟩
  rw [List.length_map] at hn
  obtain ⟨ad, e, _, _⟩ := h.at' 0 hn
  refine ⟨ad, e, fun j p hj => ?_⟩
  have hjl : j < L.length := by have := (List.getElem?_eq_some_iff.1 hj).1; simpa using this
  obtain ⟨ad', e', _, hc⟩ := h.at' j hjl
  obtain rfl : ad = ad' := by rw [e] at e'; injection e'
  have hp : p = s37 (L.getD j z0) := by
    rw [List.getElem?_map, List.getElem?_eq_getElem hjl] at hj
    rw [List.getD_eq_getElem?_getD, List.getElem?_eq_getElem hjl]
    injection hj with hj
    exact hj.symm
  subst hp
  exact ⟨_, rfl, k37_mk w _, fun i u hu => hc i u (by rw [← Array.getElem?_toList]; exact hu)⟩
theorem rd_s (L : List Ins) (k : Nat) (hk : k < L.length) : rd_T37 (L.map s37) (k : Int) = s37 (L.getD k z0) := by
  unfold rd_T37
  rw [Int.toNat_natCast, List.getD_eq_getElem?_getD, List.getElem?_map, List.getElem?_eq_getElem hk, List.getD_eq_getElem?_getD, List.getElem?_eq_getElem hk]
  rfl
theorem some_beq (a b : Int) : (some (a == b) : Option Bool) = some (decide (a = b)) := by
  congr 1
theorem Follows_eq (L : List Ins) (hL : ∀ i, (L.getD i z0).Ok) (hn : L.length ≤ 1000) (pc on : Int) (hpc : -9223372036854775808 ≤ pc ∧ pc ≤ 9223372036854775807) (k : Nat) (hk : 1 ≤ k) : turnbuckleref16_Follows.f k (L.map s37) pc on = some (decide (on ∈ beh L pc)) := by
  obtain ⟨k, rfl⟩ : ∃ m, k = m + 1 := ⟨k - 1, by omega⟩
  unfold turnbuckleref16_Follows.f beh
  by_cases h0 : pc < 0
  · rw [if_pos h0, if_pos (.inl h0)]
    simp only [turnbuckleref16_Follows.j0]
    rw [if_pos trivial]; simp
  rw [if_neg h0]
  by_cases h1 : (L.length : Int) ≤ pc
  · rw [decide_eq_true (by rw [List.length_map]; exact h1), if_pos (.inr h1)]
    simp only [turnbuckleref16_Follows.j0]
    rw [if_pos trivial]; simp
  rw [decide_eq_false (by rw [List.length_map]; omega), if_neg (by omega)]
  obtain ⟨j, rfl⟩ := Int.eq_ofNat_of_zero_le (show 0 ≤ pc by omega)
  simp only [turnbuckleref16_Follows.j0]
  have hj : j < L.length := by omega
  have ok := (hL j).imm
  rw [if_neg (by simp), if_pos (by omega), if_pos (by rw [List.length_map]; omega), rd_s L j hj, Int.toNat_natCast]
  generalize L.getD j z0 = x at *
  show (if x.op = 15 then _ else if x.op = 5 then some (on == wrap64 ((j : Int) + wrap64 x.imm)) else if x.op = 6 then (if on = wrap64 ((j : Int) + 1) then some true else some (on == wrap64 ((j : Int) + wrap64 x.imm))) else if x.op = 7 then (if on = wrap64 ((j : Int) + 1) then some true else some (on == wrap64 ((j : Int) + wrap64 x.imm))) else some (on == wrap64 ((j : Int) + 1))) = _
  rw [w64 (x := x.imm) (by omega) (by omega), w64 (x := (j : Int) + x.imm) (by omega) (by omega), w64 (x := (j : Int) + 1) (by omega) (by omega)]
  by_cases e15 : x.op = 15
  · rw [if_pos e15, if_pos e15]; simp
  rw [if_neg e15, if_neg e15]
  by_cases e5 : x.op = 5
  · rw [if_pos e5, if_pos e5, some_beq]; simp
  rw [if_neg e5, if_neg e5]
  have key : (if on = (j : Int) + 1 then some true else some (on == (j : Int) + x.imm)) = some (decide (on ∈ (if x.imm = 1 then [(j : Int) + 1] else [(j : Int) + 1, (j : Int) + x.imm]))) := by
    by_cases e1 : x.imm = 1
    · rw [if_pos e1, e1, some_beq]
      by_cases h : on = (j : Int) + 1
      · rw [if_pos h]; simp [h]
      · rw [if_neg h]; simp
    · rw [if_neg e1, some_beq]
      by_cases h : on = (j : Int) + 1
      · rw [if_pos h]; simp [h]
      · rw [if_neg h]; simp [h]
  by_cases e6 : x.op = 6
  · rw [if_pos e6, if_pos (show x.op = 6 ∨ x.op = 7 from .inl e6)]; exact key
  rw [if_neg e6]
  by_cases e7 : x.op = 7
  · rw [if_pos e7, if_pos (show x.op = 6 ∨ x.op = 7 from .inr e7)]; exact key
  rw [if_neg e7, if_neg (show ¬ (x.op = 6 ∨ x.op = 7) from fun h => h.elim e6 e7), some_beq]
  simp

/-- The numbers below n that are in a list, rising. -/
def upN (bs : List Int) (n : Nat) : List Int := ((List.range n).filter (fun i : Nat => decide ((i : Int) ∈ bs))).map (fun i : Nat => (i : Int))
theorem upN_succ (bs : List Int) (n : Nat) : upN bs (n + 1) = upN bs n ++ if ((n : Nat) : Int) ∈ bs then [(n : Int)] else [] := by
  unfold upN
  rw [List.range_succ, List.filter_append, List.map_append]
  by_cases h : ((n : Nat) : Int) ∈ bs
  · rw [if_pos h]; simp [h]
  · rw [if_neg h]; simp [h]
theorem upN_le (bs : List Int) (n : Nat) : (upN bs n).length ≤ n := by
  unfold upN; rw [List.length_map]; exact Nat.le_trans (List.length_filter_le _ _) (by simp)
theorem two_eq (x y n : Int) : two ([x, y].filter (fun z => decide (z < n))) = if x < n then (if y < n then (if y < x then [y, x] else [x, y]) else [x]) else (if y < n then [y] else []) := by
  by_cases hx : x < n <;> by_cases hy : y < n <;> simp [hx, hy, two]
theorem upN_two (x y : Nat) (hne : x ≠ y) : ∀ n : Nat, upN [(x : Int), (y : Int)] n = two ([(x : Int), (y : Int)].filter (fun z => decide (z < (n : Int))))
  | 0 => by
    rw [two_eq, if_neg (by omega), if_neg (by omega)]
    rfl
  | n + 1 => by
    rw [upN_succ, upN_two x y hne n, two_eq, two_eq]
    have hm : ((n : Nat) : Int) ∈ [(x : Int), (y : Int)] ↔ n = x ∨ n = y := by simp; omega
    rcases Nat.lt_trichotomy x n with hx | hx | hx <;> rcases Nat.lt_trichotomy y n with hy | hy | hy
    · rw [if_pos (by omega), if_pos (by omega), if_neg (show ¬ ((n : Nat) : Int) ∈ [(x : Int), (y : Int)] from fun h => by have := hm.1 h; omega), if_pos (show (x : Int) < ((n + 1 : Nat) : Int) by omega), if_pos (show (y : Int) < ((n + 1 : Nat) : Int) by omega), List.append_nil]
    · subst hy; rw [if_pos (by omega), if_neg (by omega), if_pos (hm.2 (.inr rfl)), if_pos (by omega), if_pos (by omega), if_neg (by omega)]; rfl
    · rw [if_pos (by omega), if_neg (by omega), if_neg (fun h => by have := hm.1 h; omega), if_pos (by omega), if_neg (by omega), List.append_nil]
    · subst hx; rw [if_neg (by omega), if_pos (by omega), if_pos (hm.2 (.inl rfl)), if_pos (by omega), if_pos (by omega), if_pos (by omega)]; rfl
    · omega
    · subst hx; rw [if_neg (by omega), if_neg (by omega), if_pos (hm.2 (.inl rfl)), if_pos (by omega), if_neg (by omega)]; rfl
    · rw [if_neg (by omega), if_pos (by omega), if_neg (fun h => by have := hm.1 h; omega), if_neg (by omega), if_pos (by omega), List.append_nil]
    · subst hy; rw [if_neg (by omega), if_neg (by omega), if_pos (hm.2 (.inr rfl)), if_neg (by omega), if_pos (by omega)]; rfl
    · rw [if_neg (by omega), if_neg (by omega), if_neg (fun h => by have := hm.1 h; omega), if_neg (by omega), if_neg (by omega), List.append_nil]
theorem upN_one (x : Nat) : ∀ n : Nat, upN [(x : Int)] n = two ([(x : Int)].filter (fun z => decide (z < (n : Int))))
  | 0 => by simp [upN, two]
  | n + 1 => by
    rw [upN_succ, upN_one x n]
    rcases Nat.lt_trichotomy x n with hx | hx | hx
    · rw [List.filter_cons_of_pos (by simp; omega), List.filter_cons_of_pos (by simp; omega), if_neg (by simp; omega)]; rfl
    · subst hx; rw [List.filter_cons_of_neg (by simp), List.filter_cons_of_pos (by simp; omega), if_pos (by simp)]; rfl
    · rw [List.filter_cons_of_neg (by simp; omega), List.filter_cons_of_neg (by simp; omega), if_neg (by simp; omega)]; rfl
theorem upN_nil : ∀ n : Nat, upN [] n = []
  | 0 => rfl
  | n + 1 => by rw [upN_succ, upN_nil n]; simp
theorem nx_up (L : List Ins) (hL : ∀ i, (L.getD i z0).Ok) (pc : Int) : upN (beh L pc) L.length = nx L pc := by
  unfold nx inP
  by_cases hr : pc < 0 ∨ (L.length : Int) ≤ pc
  · have hb : beh L pc = [] := by unfold beh; rw [if_pos hr]
    rw [hb, upN_nil]; rfl
  obtain ⟨k, rfl⟩ := Int.eq_ofNat_of_zero_le (show 0 ≤ pc by omega)
  have hk : k < L.length := by omega
  have ok := (hL k).imm
  rcases Go.Proofs.Ytaomlfnffnapmaa.beh_cases k hk with ⟨e, h1⟩ | ⟨e, h1⟩ | ⟨e, e1, h1⟩ | ⟨e, e1, h1⟩ | ⟨e, h1⟩
  · rw [h1, upN_nil]; rfl
  · obtain ⟨x, hx⟩ := Int.eq_ofNat_of_zero_le (show 0 ≤ (k : Int) + (L.getD k z0).imm by omega)
    rw [h1, hx]; exact upN_one x _
  · rw [h1]; exact upN_one (k + 1) _
  · obtain ⟨x, hx⟩ := Int.eq_ofNat_of_zero_le (show 0 ≤ (k : Int) + (L.getD k z0).imm by omega)
    rw [h1, hx]; exact upN_two (k + 1) x (by omega) _
  · rw [h1]; exact upN_one (k + 1) _

theorem next_in (L : List Ins) (hL : ∀ i, (L.getD i z0).Ok) (hn : L.length ≤ 1000) (pc : Int) (hpc : -9223372036854775808 ≤ pc ∧ pc ≤ 9223372036854775807) :
    ∀ (d i r : Nat), i + d = L.length → turnbuckleref16_Next.l0 (r + d + 2) (L.map s37) pc (upN (beh L pc) i) i = some (upN (beh L pc) L.length)
  | 0, i, r, h => by
    show turnbuckleref16_Next.l0 ((r + 1) + 1) _ _ _ _ = _
    simp only [turnbuckleref16_Next.l0]
    rw [if_neg (by rw [List.length_map]; omega), show i = L.length from by omega]
  | d + 1, i, r, h => by
    have ih := next_in L hL hn pc hpc d (i + 1) r (by omega)
    have hle := upN_le (beh L pc) i
    rw [show r + (d + 1) + 2 = (r + d + 2) + 1 from by omega]
    rw [upN_succ] at ih
    have hF := Follows_eq L hL hn pc (i : Int) hpc (r + d + 2) (by omega)
    generalize r + d + 2 = K at *
    simp only [turnbuckleref16_Next.l0]
    rw [if_pos (by rw [List.length_map]; omega), hF]
    simp only [Option.bind_some]
    rw [w64 (x := (i : Int) + 1) (by omega) (by omega), show ((i : Int) + 1) = ((i + 1 : Nat) : Int) from by omega]
    by_cases hm : (i : Int) ∈ beh L pc
    · rw [if_pos hm] at ih
      rw [if_pos (decide_eq_true hm), if_pos (by omega)]
      exact ih
    · rw [if_neg hm, List.append_nil] at ih
      rw [if_neg (by simpa using hm)]
      exact ih
theorem Next_eq (L : List Ins) (hL : ∀ i, (L.getD i z0).Ok) (hn : L.length ≤ 1000) (pc : Int) (hpc : -9223372036854775808 ≤ pc ∧ pc ≤ 9223372036854775807) (r : Nat) : turnbuckleref16_Next.f (r + L.length + 2) (L.map s37) pc = some (nx L pc) := by
  unfold turnbuckleref16_Next.f
  have := next_in L hL hn pc hpc L.length 0 r (by omega)
  rw [nx_up L hL pc] at this
  exact this

theorem RC_lift (op a b c imm : Int) (r : Int) (h : turnbuckleref06_Check.f 60 op a b c imm = some r) : ∀ d, turnbuckleref06_Check.f (60 + d) op a b c imm = some r
  | 0 => h
  | d + 1 => turnbuckleref06_Check.mono _ _ _ _ _ _ r (RC_lift op a b c imm r h d)
theorem RC_bad (op a b c imm : Int) (h : op < 1 ∨ 15 < op) (h0 : 0 ≤ op) (h1 : op ≤ 255) : turnbuckleref06_Check.f 60 op a b c imm = some 3 := by
  unfold turnbuckleref06_Check.f
  rw [w64 (x := op) (by omega) (by omega)]
  by_cases h2 : op < 1
  · rw [if_pos h2]; simp only [turnbuckleref06_Check.j0]; rfl
  · rw [if_neg h2, decide_eq_true (by omega)]; simp only [turnbuckleref06_Check.j0]; rfl
theorem RC_any (x : Ins) (hx : x.Ok) (k : Nat) (hk : 60 ≤ k) : turnbuckleref06_Check.f k x.op x.a x.b x.c x.imm = some (chk x) := by
  obtain ⟨d, rfl⟩ : ∃ d, k = 60 + d := ⟨k - 60, by omega⟩
  refine RC_lift _ _ _ _ _ _ ?_ d
  obtain ⟨ho, ha, hb, hc, hi⟩ := hx
  obtain ⟨op, a, b, c, imm⟩ := x
  dsimp only at *
  by_cases h : op < 1 ∨ 15 < op
  · have e : chk ⟨op, a, b, c, imm⟩ = 3 := by
      unfold chk isOp
      rw [if_neg (by rw [Bool.and_eq_true, decide_eq_true_eq, decide_eq_true_eq]; dsimp only; omega)]
    rw [e]
    exact RC_bad op a b c imm h ho.1 ho.2
  · have : op = 1 ∨ op = 2 ∨ op = 3 ∨ op = 4 ∨ op = 5 ∨ op = 6 ∨ op = 7 ∨ op = 8 ∨ op = 9 ∨ op = 10 ∨ op = 11 ∨ op = 12 ∨ op = 13 ∨ op = 14 ∨ op = 15 := by omega
    rcases this with rfl | rfl | rfl | rfl | rfl | rfl | rfl | rfl | rfl | rfl | rfl | rfl | rfl | rfl | rfl
    · exact RC_1 a b c imm ha hb hc hi
    · exact RC_2 a b c imm ha hb hc hi
    · exact RC_3 a b c imm ha hb hc hi
    · exact RC_4 a b c imm ha hb hc hi
    · exact RC_5 a b c imm ha hb hc hi
    · exact RC_6 a b c imm ha hb hc hi
    · exact RC_7 a b c imm ha hb hc hi
    · exact RC_8 a b c imm ha hb hc hi
    · exact RC_9 a b c imm ha hb hc hi
    · exact RC_10 a b c imm ha hb hc hi
    · exact RC_11 a b c imm ha hb hc hi
    · exact RC_12 a b c imm ha hb hc hi
    · exact RC_13 a b c imm ha hb hc hi
    · exact RC_14 a b c imm ha hb hc hi
    · exact RC_15 a b c imm ha hb hc hi

/-- Look for one that leads to it. -/
theorem l1_eq (L : List Ins) (hL : ∀ i, (L.getD i z0).Ok) (hn : L.length ≤ 1000) (k : Nat) (hk : k < L.length) : ∀ (d j F : Nat), j + d = k → 1 ≤ F →
    turnbuckleref16_Check.l1 (F + d + 1) (L.map s37) (k : Int) (rch L j k) (j : Int) = if rch L k k = true then turnbuckleref16_Check.l2 F (L.map s37) (k : Int) (L.length : Int) else some ((k : Int), 10)
  | 0, j, F, h, hF => by
    obtain rfl : j = k := by omega
    show turnbuckleref16_Check.l1 (F + 1) _ _ _ _ = _
    simp only [turnbuckleref16_Check.l1]
    rw [if_neg (by omega), List.length_map]
  | d + 1, j, F, h, hF => by
    have ih := l1_eq L hL hn k hk d (j + 1) F (by omega) hF
    rw [show F + (d + 1) + 1 = (F + d + 1) + 1 from by omega]
    have hFo := Follows_eq L hL hn (j : Int) (k : Int) (by omega) (F + d + 1) (by omega)
    generalize F + d + 1 = K at *
    simp only [turnbuckleref16_Check.l1]
    rw [if_pos (by omega), hFo, w64 (x := (j : Int) + 1) (by omega) (by omega), show ((j : Int) + 1) = ((j + 1 : Nat) : Int) from by omega]
    rw [rch_succ] at ih
    simp only [Option.bind_some]
    by_cases hr : rch L j k = true
    · rw [if_pos hr]; rw [hr, Bool.true_or] at ih; exact ih
    · rw [if_neg hr]; rw [Bool.eq_false_iff.2 hr, Bool.false_or] at ih; exact ih
/-- Look for one it leads to that lies out of the program. -/
theorem l2_eq (L : List Ins) (hL : ∀ i, (L.getD i z0).Ok) (hn : L.length ≤ 1000) (k : Nat) (hk : k < L.length) : ∀ (d j F : Nat), j + d = L.length + 128 → 1 ≤ F →
    turnbuckleref16_Check.l2 (F + d + 1) (L.map s37) (k : Int) (j : Int) = if (beh L (k : Int)).any (fun x => decide ((j : Int) ≤ x) && decide (x < (L.length : Int) + 128)) = true then some ((k : Int), 10) else turnbuckleref16_Check.l0 F (L.map s37) (k + 1 : Nat)
  | 0, j, F, h, hF => by
    show turnbuckleref16_Check.l2 (F + 1) _ _ _ = _
    simp only [turnbuckleref16_Check.l2]
    rw [List.length_map, w64 (x := (L.length : Int) + 128) (by omega) (by omega), w64 (x := (k : Int) + 1) (by omega) (by omega), if_neg (by omega), if_neg]
    · rfl
    · intro hc
      obtain ⟨x, _, h2⟩ := List.any_eq_true.1 hc
      rw [Bool.and_eq_true, decide_eq_true_eq, decide_eq_true_eq] at h2
      omega
  | d + 1, j, F, h, hF => by
    have ih := l2_eq L hL hn k hk d (j + 1) F (by omega) hF
    rw [show F + (d + 1) + 1 = (F + d + 1) + 1 from by omega]
    have hFo := Follows_eq L hL hn (k : Int) (j : Int) (by omega) (F + d + 1) (by omega)
    generalize F + d + 1 = K at *
    simp only [turnbuckleref16_Check.l2]
    rw [List.length_map, w64 (x := (L.length : Int) + 128) (by omega) (by omega), if_pos (by omega), hFo, w64 (x := (j : Int) + 1) (by omega) (by omega), show ((j : Int) + 1) = ((j + 1 : Nat) : Int) from by omega]
    simp only [Option.bind_some]
    by_cases hm : (j : Int) ∈ beh L (k : Int)
    · rw [if_pos (decide_eq_true hm), if_pos]
      exact List.any_eq_true.2 ⟨_, hm, by rw [Bool.and_eq_true, decide_eq_true_eq, decide_eq_true_eq]; omega⟩
    · rw [if_neg (by simpa using hm), ih]
      have e : (beh L (k : Int)).any (fun x => decide (((j + 1 : Nat) : Int) ≤ x) && decide (x < (L.length : Int) + 128)) = (beh L (k : Int)).any (fun x => decide ((j : Int) ≤ x) && decide (x < (L.length : Int) + 128)) := by
        rw [Bool.eq_iff_iff, List.any_eq_true, List.any_eq_true]
        constructor
        · rintro ⟨x, hx, h2⟩
          rw [Bool.and_eq_true, decide_eq_true_eq, decide_eq_true_eq] at h2
          exact ⟨x, hx, by rw [Bool.and_eq_true, decide_eq_true_eq, decide_eq_true_eq]; omega⟩
        · rintro ⟨x, hx, h2⟩
          rw [Bool.and_eq_true, decide_eq_true_eq, decide_eq_true_eq] at h2
          have : x ≠ (j : Int) := fun e => hm (e ▸ hx)
          exact ⟨x, hx, by rw [Bool.and_eq_true, decide_eq_true_eq, decide_eq_true_eq]; omega⟩
      rw [e]
theorem chk_far {x : Ins} (h : chk x = 0) (ho : x.op = 5 ∨ x.op = 6 ∨ x.op = 7) : x.imm ≤ 127 := by
  obtain ⟨op, a, b, c, imm⟩ := x
  dsimp only at *
  unfold chk at h
  rcases ho with rfl | rfl | rfl <;>
  · rw [if_pos (by rfl)] at h
    split at h
    · cases h
    · rename_i h1
      simp [bnd] at h1
      omega
theorem beh_far {L : List Ins} (hL : ∀ i, (L.getD i z0).Ok) {k : Nat} (hk : k < L.length) (hc : chk (L.getD k z0) = 0) {x : Int} (hx : x ∈ beh L (k : Int)) : x < (L.length : Int) + 128 := by
  rcases beh_cases k hk with ⟨e, h1⟩ | ⟨e, h1⟩ | ⟨e, e1, h1⟩ | ⟨e, e1, h1⟩ | ⟨e, h1⟩
  · rw [h1] at hx; cases hx
  · have := chk_far hc (.inl e)
    rw [h1] at hx; generalize (L.getD k z0).imm = m at *; simp at hx; omega
  · rw [h1] at hx; simp at hx; omega
  · have := chk_far hc (.inr e)
    rw [h1] at hx; generalize (L.getD k z0).imm = m at *; simp at hx; omega
  · rw [h1] at hx; simp at hx; omega
theorem l0_eq (L : List Ins) (hL : ∀ i, (L.getD i z0).Ok) (hn : L.length ≤ 128) : ∀ (d k F : Nat), k + d = L.length →
    turnbuckleref16_Check.l0 (F + d * 400 + 62) (L.map s37) (k : Int) = some (fchkU L d k)
  | 0, k, F, h => by
    show turnbuckleref16_Check.l0 ((F + 0 * 400 + 61) + 1) _ _ = _
    simp only [turnbuckleref16_Check.l0]
    rw [List.length_map, if_neg (by omega)]; rfl
  | d + 1, k, F, h => by
    have ih := l0_eq L hL hn d (k + 1) (F + 269 - k) (by omega)
    have hk : k < L.length := by omega
    have h1 := l1_eq L hL (by omega) k hk k 0 (F + d * 400 + 460 - k) (by omega) (by omega)
    have h2 := l2_eq L hL (by omega) k hk 128 L.length (F + d * 400 + 331 - k) (by omega) (by omega)
    have hC := RC_any (L.getD k z0) (hL k) (F + d * 400 + 461) (by omega)
    rw [show F + d * 400 + 460 - k + k + 1 = F + d * 400 + 461 from by omega] at h1
    rw [show F + d * 400 + 331 - k + 128 + 1 = F + d * 400 + 460 - k from by omega] at h2
    rw [show F + 269 - k + d * 400 + 62 = F + d * 400 + 331 - k from by omega] at ih
    rw [ih] at h2
    rw [h2] at h1
    rw [show F + (d + 1) * 400 + 62 = (F + d * 400 + 461) + 1 from by omega]
    simp only [turnbuckleref16_Check.l0]
    rw [List.length_map, if_pos (by omega), if_pos (by omega), rd_s L k hk]
    have hC' : turnbuckleref06_Check.f (F + d * 400 + 461) (s37 (L.getD k z0)).f0 (s37 (L.getD k z0)).f1 (s37 (L.getD k z0)).f2 (s37 (L.getD k z0)).f3 (s37 (L.getD k z0)).f4 = some (chk (L.getD k z0)) := hC
    rw [hC']
    simp only [Option.bind_some]
    rw [show ((0 : Nat) : Int) = 0 from rfl] at h1
    have hr0 : ((k : Int) == 0) = rch L 0 k := by
      unfold rch
      simp
      by_cases e : k = 0
      · subst e; rfl
      · rw [beq_eq_false_iff_ne.2 (by omega), beq_eq_false_iff_ne.2 e]
    unfold fchkU bad
    by_cases hc : chk (L.getD k z0) = 0
    · rw [if_pos hc, hr0, h1, hc]
      simp only [ne_eq, not_true_eq_false, if_false]
      by_cases hr : rch L k k = true
      · rw [if_pos hr, hr]
        simp only [Bool.true_eq_false, if_false]
        have e : (beh L (k : Int)).any (fun x => decide ((L.length : Int) ≤ x) && decide (x < (L.length : Int) + 128)) = (beh L (k : Int)).any (fun on => decide ((L.length : Int) ≤ on)) := by
          rw [Bool.eq_iff_iff, List.any_eq_true, List.any_eq_true]
          constructor
          · rintro ⟨x, hx, h2⟩
            rw [Bool.and_eq_true, decide_eq_true_eq, decide_eq_true_eq] at h2
            exact ⟨x, hx, by rw [decide_eq_true_eq]; omega⟩
          · rintro ⟨x, hx, h2⟩
            rw [decide_eq_true_eq] at h2
            exact ⟨x, hx, by rw [Bool.and_eq_true, decide_eq_true_eq, decide_eq_true_eq]; exact ⟨h2, beh_far hL hk hc hx⟩⟩
        rw [e]
        by_cases ho : (beh L (k : Int)).any (fun on => decide ((L.length : Int) ≤ on)) = true
        · rw [if_pos ho, if_pos ho]; rfl
        · rw [if_neg ho, if_neg ho]; simp
      · rw [if_neg hr, Bool.eq_false_iff.2 hr]; simp
    · rw [if_neg hc]
      simp only [ne_eq, hc, not_false_eq_true, if_true]
theorem Check_eq (L : List Ins) (hL : ∀ i, (L.getD i z0).Ok) (K : Nat) (hK : 60000 ≤ K) : turnbuckleref16_Check.f K (L.map s37) = some (fchk L) := by
  unfold turnbuckleref16_Check.f fchk
  rw [List.length_map]
  obtain ⟨K, rfl⟩ : ∃ m, K = m + 1 := ⟨K - 1, by omega⟩
  by_cases h0 : L.length = 0 ∨ 128 < L.length
  · rw [if_pos h0]
    by_cases h1 : (L.length : Int) < 1
    · rw [if_pos h1]
      simp only [turnbuckleref16_Check.j0]; rfl
    · rw [if_neg h1, decide_eq_true (by omega)]
      simp only [turnbuckleref16_Check.j0]; rfl
  · rw [if_neg h0, if_neg (by omega), decide_eq_false (by omega)]
    simp only [turnbuckleref16_Check.j0]
    rw [if_neg (by simp)]
    obtain ⟨F, hF⟩ : ∃ F, K = F + L.length * 400 + 62 := ⟨K - 62 - L.length * 400, by omega⟩
    have := l0_eq L hL (by omega) L.length 0 F (by omega)
    rw [← hF] at this
    exact this

/-- The most over a list, as the reference adds it up. -/
theorem from_in (R : List Int) (f : Nat → Int) (hR : ∀ i, i < R.length → R.getD i 0 = f i) (hf : ∀ i, 0 ≤ f i ∧ f i ≤ 1000) (xs : List Int) (hx : ∀ x ∈ xs, 0 ≤ x ∧ x < (R.length : Int)) (hl : xs.length ≤ 1000) :
    ∀ (d i F : Nat), i + d = xs.length → turnbuckleref16_From.l0 (F + d + 1) R (mxl f (xs.take i)) xs (i : Int) = some (mxl f xs + 1)
  | 0, i, F, h => by
    show turnbuckleref16_From.l0 (F + 1) _ _ _ _ = _
    simp only [turnbuckleref16_From.l0]
    have := mxl_le (f := f) (B := 1000) (by omega) xs (fun x _ => (hf _).2)
    rw [if_neg (by omega), List.take_of_length_le (by omega), w64 (by omega) (by omega)]
  | d + 1, i, F, h => by
    have ih := from_in R f hR hf xs hx hl d (i + 1) F (by omega)
    have hi : i < xs.length := by omega
    have e : rd xs (i : Int) = xs.getD i 0 := by unfold rd; rw [Int.toNat_natCast]
    have hm := hx (xs.getD i 0) (by rw [List.getD_eq_getElem?_getD, List.getElem?_eq_getElem hi]; exact List.getElem_mem hi)
    have e2 : xs.take (i + 1) = xs.take i ++ [xs.getD i 0] := by
      rw [List.take_add_one, List.getD_eq_getElem?_getD, List.getElem?_eq_getElem hi]; rfl
    rw [e2, mxl_snoc] at ih
    rw [show F + (d + 1) + 1 = (F + d + 1) + 1 from by omega]
    generalize F + d + 1 = K at *
    simp only [turnbuckleref16_From.l0]
    rw [if_pos (by omega), if_pos (by omega), e, if_pos (by omega), if_pos (by omega), w64 (x := (i : Int) + 1) (by omega) (by omega), show ((i : Int) + 1) = ((i + 1 : Nat) : Int) from by omega]
    have er : rd R (xs.getD i 0) = f (xs.getD i 0).toNat := by
      unfold rd
      exact hR _ (by omega)
    rw [er]
    by_cases hg : f (xs.getD i 0).toNat > mxl f (xs.take i)
    · rw [if_pos hg]; rw [Int.max_eq_right (by omega)] at ih; exact ih
    · rw [if_neg hg]; rw [Int.max_eq_left (by omega)] at ih; exact ih
theorem From_eq (L : List Ins) (hL : ∀ i, (L.getD i z0).Ok) (hw : (fchk L).2 = 0) (R : List Int) (hRl : R.length = L.length) (f : Nat → Int) (hR : ∀ i, i < R.length → R.getD i 0 = f i) (hf : ∀ i, 0 ≤ f i ∧ f i ≤ 1000) (k : Nat) (hk : k < L.length) (K : Nat) (hK : L.length + 20 ≤ K) :
    turnbuckleref16_From.f K (L.map s37) R (k : Int) = some (mxl f (beh L (k : Int)) + 1) := by
  have hl := well_len hw
  unfold turnbuckleref16_From.f
  obtain ⟨r, hr⟩ : ∃ r, K = r + L.length + 2 := ⟨K - L.length - 2, by omega⟩
  have h1 := Next_eq L hL (by omega) (k : Int) (by omega) r
  rw [← hr] at h1
  rw [h1, nx_well hw hk]
  simp only [Option.bind_some]
  have hlen : (beh L (k : Int)).length ≤ 2 := by
    rcases beh_cases k hk with ⟨e, h1⟩ | ⟨e, h1⟩ | ⟨e, e1, h1⟩ | ⟨e, e1, h1⟩ | ⟨e, h1⟩ <;> rw [h1] <;> simp
  obtain ⟨q, hq⟩ : ∃ q, K = q + (beh L (k : Int)).length + 1 := ⟨K - (beh L (k : Int)).length - 1, by omega⟩
  have := from_in R f hR hf (beh L (k : Int)) (fun x hx => by have := well_beh hw hk hx; omega) (by omega) (beh L (k : Int)).length 0 q (by omega)
  rw [← hq] at this
  exact this
theorem long_in (L : List Ins) (hL : ∀ i, (L.getD i z0).Ok) (hw : (fchk L).2 = 0) : ∀ (d : Nat) (R : List Int) (K : Nat), d ≤ L.length → R.length = L.length → (∀ i, i < R.length → R.getD i 0 = lgd L (L.length - d) i) → d + L.length + 30 ≤ K →
    turnbuckleref16_Longest.l0 K (L.map s37) R ((d : Int) - 1) = some (lgd L L.length 0, 0)
  | 0, R, K, hd, hRl, hR, hK => by
    have hl := well_len hw
    obtain ⟨K, rfl⟩ : ∃ m, K = m + 1 := ⟨K - 1, by omega⟩
    simp only [turnbuckleref16_Longest.l0]
    rw [if_neg (by omega), if_pos (by omega)]
    have : rd R 0 = lgd L L.length 0 := hR 0 (by omega)
    rw [this]
  | d + 1, R, K, hd, hRl, hR, hK => by
    have hl := well_len hw
    obtain ⟨K, rfl⟩ : ∃ m, K = m + 1 := ⟨K - 1, by omega⟩
    have hF := From_eq L hL hw R hRl (lgd L (L.length - (d + 1))) hR (fun i => by have := lgd_bd L (L.length - (d + 1)) i; omega) d (by omega) K (by omega)
    have ih := long_in L hL hw d (R.set d (mxl (lgd L (L.length - (d + 1))) (beh L (d : Int)) + 1)) K (by omega) (by rw [List.length_set]; exact hRl) (fun i hi => by
      rw [List.length_set] at hi
      rw [show L.length - d = (L.length - (d + 1)) + 1 from by omega]
      have ed : L.length - 1 - (L.length - (d + 1)) = d := by omega
      have e1 : lgd L (L.length - (d + 1) + 1) i = if i = L.length - 1 - (L.length - (d + 1)) then mxl (lgd L (L.length - (d + 1))) (beh L ((L.length - 1 - (L.length - (d + 1)) : Nat) : Int)) + 1 else lgd L (L.length - (d + 1)) i := rfl
      rw [e1, ed]
      by_cases e : i = d
      · subst e
        rw [if_pos rfl, List.getD_eq_getElem?_getD, List.getElem?_set_self (by omega)]; rfl
      · rw [if_neg e, ← hR i hi, List.getD_eq_getElem?_getD, List.getElem?_set_ne (fun e2 => e e2.symm), List.getD_eq_getElem?_getD]) (by omega)
    rw [show ((d + 1 : Nat) : Int) - 1 = (d : Int) from by omega]
    simp only [turnbuckleref16_Longest.l0]
    rw [if_pos (by omega), hF]
    simp only [Option.bind_some]
    rw [if_pos (by omega), if_pos (by omega), Int.toNat_natCast, w64 (x := (d : Int) - 1) (by omega) (by omega)]
    exact ih
theorem Longest_eq (L : List Ins) (hL : ∀ i, (L.getD i z0).Ok) (K : Nat) (hK : 60000 ≤ K) : turnbuckleref16_Longest.f K (L.map s37) = some (lng L) := by
  unfold turnbuckleref16_Longest.f
  rw [Check_eq L hL K hK, List.length_map]
  rw [Option.bind_some]
  by_cases hw : (fchk L).2 = 0
  · have hl := well_len hw
    rw [if_pos hw, if_pos (by omega), if_pos (by omega), Int.toNat_natCast, w64 (x := (L.length : Int) - 1) (by omega) (by omega)]
    unfold lng
    rw [if_neg (by rw [hw]; simp)]
    exact long_in L hL hw L.length (List.replicate L.length 0) K (Nat.le_refl _) (by simp) (fun i hi => by
      rw [Nat.sub_self, List.getD_eq_getElem?_getD, List.getElem?_replicate]
      split <;> rfl) (by omega)
  · rw [if_neg hw, lng_bad hw]
end Go.Proofs.Ytaomlfnffnapmaa.RefC
