/- Plain: the reference of layer 3 answers as the slab's pages say. -/
import Derived.Test.YtbngmkopgoelbaaDoorSlRfA
import Derived.Test.YtbngmkopgoelbaaDoorSlRfB
import Derived.Test.YtbngmkopgoelbaaDoorSlR
set_option linter.unusedVariables false
set_option linter.unusedSimpArgs false
namespace Go.Proofs.YtbngmkopgoelbaaDoor.Ref
open Go.RowKit Go.Proofs.YtbngmkopgoelbaaDoorW.PrintWords Go.Proofs.YtbngmkopgoelbaaDoor.PSlabPlays
open Go.Proofs.YtbngmkopgoelbaaDoor (Ap upd upd_same upd_other isC cls cls_isC blks hit fre allc tkn frd mny usd pgs Wf Spot spot_of find_range find_range_none tkn_iff Got got sm cnt)

theorem allc_hit {A : Nat → Ap} {n c p : Nat} (h : hit A n c = some p) : allc A n c = some ((A p).fl.headD 0, upd A p ⟨c, (A p).fl.tail⟩) := by unfold Go.Proofs.YtbngmkopgoelbaaDoor.allc Go.Proofs.YtbngmkopgoelbaaDoor.spot; rw [h]; rfl
theorem allc_fre {A : Nat → Ap} {n c p : Nat} (h : hit A n c = none) (h2 : fre A n = some p) : allc A n c = some ((blks p c).headD 0, upd A p ⟨c, (blks p c).tail⟩) := by unfold Go.Proofs.YtbngmkopgoelbaaDoor.allc Go.Proofs.YtbngmkopgoelbaaDoor.spot; rw [h, h2]; rfl
theorem w64 {x : Int} (h0 : -9223372036854775808 ≤ x) (h1 : x ≤ 9223372036854775807) : wrap64 x = x := by unfold wrap64; omega
/-- Numbers as the reference has them. -/
def zs (L : List Nat) : List Int := L.map (fun a : Nat => (a : Int))
@[simp] theorem zs_length (L : List Nat) : (zs L).length = L.length := by simp [zs]
theorem zs_rd (L : List Nat) (i : Nat) : rd (zs L) (i : Int) = ((L.getD i 0 : Nat) : Int) := by
  unfold rd zs
  rw [Int.toNat_natCast, List.getD_eq_getElem?_getD, List.getD_eq_getElem?_getD, List.getElem?_map]
  cases L[i]? <;> rfl
theorem zs_append (L M : List Nat) : zs L ++ zs M = zs (L ++ M) := by simp [zs]
theorem zs_one (a : Nat) : [((a : Nat) : Int)] = zs [a] := rfl
theorem rdT (R : List S82) (i : Nat) : rd_T82 R (i : Int) = R.getD i z82 := by unfold rd_T82; rw [Int.toNat_natCast]
theorem rdT_set (R : List S82) (p i : Nat) (x : S82) (hp : p < R.length) : rd_T82 (R.set p x) (i : Int) = if i = p then x else rd_T82 R (i : Int) := by
  rw [rdT, rdT, List.getD_eq_getElem?_getD, List.getD_eq_getElem?_getD, List.getElem?_set]
  by_cases h : p = i
  · subst h; rw [if_pos rfl, if_pos rfl, if_pos hp]; rfl
  · rw [if_neg h, if_neg (fun e => h e.symm)]

/-- The reference's pages are the slab's. -/
structure Sim (A : Nat → Ap) (n : Nat) (R : List S82) : Prop where
  len : R.length = n
  f0 : ∀ i, i < n → (rd_T82 R (i : Int)).f0 = (((A i).c : Nat) : Int)
  f1 : ∀ i, i < n → (rd_T82 R (i : Int)).f1 = zs (A i).fl
  f2 : ∀ i, i < n → ∃ T : List Nat, (rd_T82 R (i : Int)).f2 = zs T ∧ T.Nodup ∧ (∀ b, b ∈ T ↔ tkn A b = true ∧ b / 512 = i) ∧ T.length = mny (A i) i

theorem with_eq (R : List S82) (p : Nat) (x : Int) (y z : List Int) (hR : R.length ≤ 128) (hp : p < R.length) : turnbuckleref03_with.f R (p : Int) x y z = some (R.set p ⟨x, y, z⟩) := by
  unfold turnbuckleref03_with.f
  simp only [Option.bind_some, List.length_nil, List.nil_append, Nat.zero_add]
  rw [if_pos (by omega), if_pos (by omega), if_pos (by omega), Int.toNat_natCast]

theorem cl_step (k : Nat) (m : Int) (i : Nat) (hi : i < 5) : turnbuckleref03_Class.l0 (k + 1) m [16, 32, 64, 128, 256] (i : Int) = if rd [16, 32, 64, 128, 256] (i : Int) ≥ m then some (rd [16, 32, 64, 128, 256] (i : Int)) else turnbuckleref03_Class.l0 k m [16, 32, 64, 128, 256] ((i + 1 : Nat) : Int) := by
  show (if (i : Int) < ((5 : Nat) : Int) then (if 0 ≤ (i : Int) then (if (rd [16, 32, 64, 128, 256] (i : Int)) ≥ m then (some (rd [16, 32, 64, 128, 256] (i : Int))) else (turnbuckleref03_Class.l0 k m [16, 32, 64, 128, 256] (wrap64 ((i : Int) + 1)))) else (none)) else (some 0)) = _
  rw [if_pos (by omega), if_pos (by omega), show wrap64 ((i : Int) + 1) = ((i + 1 : Nat) : Int) from by rw [w64 (by omega) (by omega)]; omega]
theorem Class_eq (m : Nat) (h1 : 1 ≤ m) (h2 : m ≤ 256) : ∃ k, turnbuckleref03_Class.f k (m : Int) = some ((cls m : Nat) : Int) := by
  refine ⟨6, ?_⟩
  show turnbuckleref03_Class.l0 (5 + 1) (m : Int) [16, 32, 64, 128, 256] ((0 : Nat) : Int) = _
  have r0 : rd [16, 32, 64, 128, 256] ((0 : Nat) : Int) = 16 := rfl
  have r1 : rd [16, 32, 64, 128, 256] ((0 + 1 : Nat) : Int) = 32 := rfl
  have r2 : rd [16, 32, 64, 128, 256] ((0 + 1 + 1 : Nat) : Int) = 64 := rfl
  have r3 : rd [16, 32, 64, 128, 256] ((0 + 1 + 1 + 1 : Nat) : Int) = 128 := rfl
  have r4 : rd [16, 32, 64, 128, 256] ((0 + 1 + 1 + 1 + 1 : Nat) : Int) = 256 := rfl
  rw [cl_step _ _ _ (by omega), cl_step _ _ _ (by omega), cl_step _ _ _ (by omega), cl_step _ _ _ (by omega), cl_step _ _ _ (by omega), r0, r1, r2, r3, r4]
  unfold cls
  by_cases a1 : m ≤ 16
  · rw [if_pos (by omega), if_pos a1]; rfl
  by_cases a2 : m ≤ 32
  · rw [if_neg (by omega), if_pos (by omega), if_neg a1, if_pos a2]; rfl
  by_cases a3 : m ≤ 64
  · rw [if_neg (by omega), if_neg (by omega), if_pos (by omega), if_neg a1, if_neg a2, if_pos a3]; rfl
  by_cases a4 : m ≤ 128
  · rw [if_neg (by omega), if_neg (by omega), if_neg (by omega), if_pos (by omega), if_neg a1, if_neg a2, if_neg a3, if_pos a4]; rfl
  · rw [if_neg (by omega), if_neg (by omega), if_neg (by omega), if_neg (by omega), if_pos (by omega), if_neg a1, if_neg a2, if_neg a3, if_neg a4]; rfl

/-- The lowest one from 1 to j, scanned from above. -/
def lst (P : Nat → Bool) : Nat → Nat → Nat
  | 0, b => b
  | j + 1, b => lst P j (if P (j + 1) then j + 1 else b)
theorem lst_none {P : Nat → Bool} : ∀ {j b}, (∀ i, 1 ≤ i → i ≤ j → P i = false) → lst P j b = b
  | 0, _, _ => rfl
  | j + 1, b, h => by
    unfold lst
    rw [h (j + 1) (by omega) (by omega), if_neg (by simp)]
    exact lst_none (fun i h1 h2 => h i h1 (by omega))
theorem lst_some {P : Nat → Bool} {p : Nat} (hp : 1 ≤ p) (hP : P p = true) (hl : ∀ i, 1 ≤ i → i < p → P i = false) : ∀ {j b}, p ≤ j → lst P j b = p
  | 0, _, h => by omega
  | j + 1, b, h => by
    unfold lst
    by_cases e : p = j + 1
    · subst e
      rw [if_pos hP]
      exact lst_none (fun i h1 h2 => hl i h1 (by omega))
    · exact lst_some hp hP hl (by omega)

section
variable {A : Nat → Ap} {n : Nat} {R : List S82}
theorem Sim.l0 (S : Sim A n R) (hn : n ≤ 128) (c : Nat) {r : List S82 × Int × Int} : ∀ (j b : Nat), j < n → (∃ k, turnbuckleref03_Alloc.l0 k R (c : Int) ((lst (fun i => (A i).c == c && !((A i).fl.isEmpty)) j b : Nat) : Int) 0 = some r) →
    ∃ k, turnbuckleref03_Alloc.l0 k R (c : Int) (b : Int) (j : Int) = some r
  | 0, b, _, h => h
  | j + 1, b, hj, h => by
    unfold lst at h
    obtain ⟨k, hk⟩ := Sim.l0 S hn c j _ (by omega) h
    refine ⟨k + 1, ?_⟩
    unfold turnbuckleref03_Alloc.l0
    have f0 := S.f0 (j + 1) hj
    have f1 := S.f1 (j + 1) hj
    have hl := S.len
    rw [if_pos (by omega), if_pos (by omega), if_pos (by omega), f0, f1, zs_length]
    have e1 : wrap64 (((j + 1 : Nat) : Int) - 1) = (j : Int) := by rw [w64 (by omega) (by omega)]; omega
    rw [e1]
    by_cases hc : (A (j + 1)).c = c
    · rw [if_pos (by rw [hc])]
      cases hf : (A (j + 1)).fl with
      | nil =>
        rw [if_neg (by simp)]
        rw [hc, hf] at hk
        simpa using hk
      | cons x l =>
        rw [if_pos (by simp)]
        rw [hc, hf] at hk
        simpa using hk
    · rw [if_neg (by omega)]
      have : ((A (j + 1)).c == c) = false := beq_eq_false_iff_ne.2 hc
      rw [this] at hk
      simpa using hk
theorem Sim.l1 (S : Sim A n R) (hn : n ≤ 128) (c : Nat) {r : List S82 × Int × Int} : ∀ (j b : Nat), j < n → (∃ k, turnbuckleref03_Alloc.l1 k R (c : Int) ((lst (fun i => (A i).c == 0) j b : Nat) : Int) 0 = some r) →
    ∃ k, turnbuckleref03_Alloc.l1 k R (c : Int) (b : Int) (j : Int) = some r
  | 0, b, _, h => h
  | j + 1, b, hj, h => by
    unfold lst at h
    obtain ⟨k, hk⟩ := Sim.l1 S hn c j _ (by omega) h
    refine ⟨k + 1, ?_⟩
    unfold turnbuckleref03_Alloc.l1
    have f0 := S.f0 (j + 1) hj
    have hl := S.len
    rw [if_pos (by omega), if_pos (by omega), if_pos (by omega), f0]
    have e1 : wrap64 (((j + 1 : Nat) : Int) - 1) = (j : Int) := by rw [w64 (by omega) (by omega)]; omega
    rw [e1]
    by_cases hc : (A (j + 1)).c = 0
    · rw [if_pos (by rw [hc]; rfl)]
      rw [hc] at hk
      simpa using hk
    · rw [if_neg (by omega)]
      have : ((A (j + 1)).c == 0) = false := beq_eq_false_iff_ne.2 hc
      rw [this] at hk
      simpa using hk

/-- The reference behind a block that was taken of a page. -/
theorem Sim.took (S : Sim A n R) (W : Wf A n) {c p a : Nat} {l T : List Nat} (Sp : Spot A n c p a l) (hT : (rd_T82 R (p : Int)).f2 = zs T) (hTn : T.Nodup) (hTm : ∀ b, b ∈ T ↔ tkn A b = true ∧ b / 512 = p) (hTl : T.length = mny (A p) p) :
    Sim (upd A p ⟨c, l⟩) n (R.set p ⟨(c : Int), zs l, zs (T ++ [a])⟩) := by
  have hat := Sp.at_
  have hp := Sp.pg
  have hl := S.len
  have htk := Sp.tkn W
  refine ⟨by rw [List.length_set, hl], fun i hi => ?_, fun i hi => ?_, fun i hi => ?_⟩
  · rw [rdT_set _ _ _ _ (by omega)]
    by_cases e : i = p
    · subst e; rw [if_pos rfl, upd_same]
    · rw [if_neg e, upd_other _ _ e]; exact S.f0 i hi
  · rw [rdT_set _ _ _ _ (by omega)]
    by_cases e : i = p
    · subst e; rw [if_pos rfl, upd_same]
    · rw [if_neg e, upd_other _ _ e]; exact S.f1 i hi
  · rw [rdT_set _ _ _ _ (by omega)]
    by_cases e : i = p
    · subst e
      rw [if_pos rfl, upd_same]
      have hna : a ∉ T := fun h => by
        have := (hTm a).1 h
        rw [Sp.new W] at this; cases this.1
      refine ⟨T ++ [a], rfl, ?_, fun b => ?_, ?_⟩
      · rw [List.nodup_append]
        exact ⟨hTn, by simp, fun x hx y hy e => by simp at hy; subst hy; subst e; exact hna hx⟩
      · rw [htk b, List.mem_append, hTm b, List.mem_singleton, Bool.or_eq_true, beq_iff_eq]
        constructor
        · rintro (⟨h1, h2⟩ | h)
          · exact ⟨.inl h1, h2⟩
          · subst h; exact ⟨.inr rfl, hat.1⟩
        · rintro ⟨h1 | h1, h2⟩
          · exact .inl ⟨h1, h2⟩
          · exact .inr h1
      · rw [Sp.mny, Sp.was.2, List.length_append, hTl]; rfl
    · rw [if_neg e, upd_other _ _ e]
      obtain ⟨T', h1, h2, h3, h4⟩ := S.f2 i hi
      refine ⟨T', h1, h2, fun b => ?_, h4⟩
      rw [h3 b, htk b, Bool.or_eq_true, beq_iff_eq]
      constructor
      · rintro ⟨k1, k2⟩; exact ⟨.inl k1, k2⟩
      · rintro ⟨k1 | k1, k2⟩
        · exact ⟨k1, k2⟩
        · subst k1; exact absurd (k2.symm.trans hat.1) e

/-- What the reference does with a page that has one free. -/
theorem Sim.tail (S : Sim A n R) (W : Wf A n) {c p a : Nat} {l : List Nat} (Sp : Spot A n c p a l) (hA : (A p).c = c ∧ (A p).fl = a :: l) :
    ∃ R', (if 0 ≤ (p : Int) then (if (p : Int) < (R.length : Int) then (if 0 < (((rd_T82 R (p : Int)).f1).length : Int) then (if 1 ≤ (((rd_T82 R (p : Int)).f1).length : Int) then ((some (([] : List Int) : List Int)).bind fun y158 => (if y158.length + ((rd_T82 R (p : Int)).f2).length < 17592186044416 then ((some (y158 ++ ((rd_T82 R (p : Int)).f2) : List Int)).bind fun y161 => (if y161.length < 17592186044416 then ((turnbuckleref03_with.f R (p : Int) ((rd_T82 R (p : Int)).f0) (((rd_T82 R (p : Int)).f1).drop 1) (y161 ++ [rd ((rd_T82 R (p : Int)).f1) 0])).bind fun t167 => (some (t167, rd ((rd_T82 R (p : Int)).f1) 0, (0 : Int)))) else (none))) else (none))) else (none)) else (none)) else (none)) else (none)) = some (R', (a : Int), 0) ∧ Sim (upd A p ⟨c, l⟩) n R' := by
  have hp := Sp.pg
  have hl := S.len
  have hn := W.le
  obtain ⟨T, hT, hTn, hTm, hTl⟩ := S.f2 p hp.2
  have hml := Go.Proofs.YtbngmkopgoelbaaDoor.mny_le (A p) p
  refine ⟨_, ?_, S.took W Sp hT hTn hTm hTl⟩
  rw [S.f1 p hp.2, S.f0 p hp.2, hT, hA.2, hA.1]
  rw [if_pos (by omega), if_pos (by omega), if_pos (by simp), if_pos (by simp; omega)]
  simp only [Option.bind_some, List.nil_append, List.length_nil, Nat.zero_add, zs_length]
  rw [if_pos (by omega), if_pos (by omega)]
  have e1 : rd (zs (a :: l)) 0 = (a : Int) := rfl
  have e2 : (zs (a :: l)).drop 1 = zs l := rfl
  rw [e1, e2, zs_one, zs_append, with_eq _ _ _ _ _ (by omega) (by omega)]
  rfl
/-- A fresh page, whose blocks the reference tells. -/
theorem Sim.fresh (S : Sim A n R) (W : Wf A n) {c p : Nat} (hC : isC c) (hp : 1 ≤ p ∧ p < n) (h0 : (A p).c = 0) :
    Sim (upd A p ⟨c, blks p c⟩) n (R.set p ⟨(c : Int), zs (blks p c), []⟩) ∧ True := by
  have hl := S.len
  have key : ∀ b, b / 512 = p → tkn (upd A p ⟨c, blks p c⟩) b = false := fun b hb => by
    unfold tkn
    rw [hb, upd_same]
    show (c != 0 && b % c == 0 && !((blks p c).contains b)) = false
    by_cases hm : b % c = 0
    · have : b ∈ blks p c := (Go.Proofs.YtbngmkopgoelbaaDoor.mem_blks hC).2 ⟨hb, hm⟩
      simp [this]
    · simp [hm]
  refine ⟨⟨by rw [List.length_set, hl], fun i hi => ?_, fun i hi => ?_, fun i hi => ?_⟩, trivial⟩
  · rw [rdT_set _ _ _ _ (by omega)]
    by_cases e : i = p
    · subst e; rw [if_pos rfl, upd_same]
    · rw [if_neg e, upd_other _ _ e]; exact S.f0 i hi
  · rw [rdT_set _ _ _ _ (by omega)]
    by_cases e : i = p
    · subst e; rw [if_pos rfl, upd_same]
    · rw [if_neg e, upd_other _ _ e]; exact S.f1 i hi
  · rw [rdT_set _ _ _ _ (by omega)]
    by_cases e : i = p
    · subst e
      rw [if_pos rfl, upd_same]
      refine ⟨[], rfl, List.nodup_nil, fun b => ?_, ?_⟩
      · constructor
        · intro h; cases h
        · rintro ⟨h1, h2⟩; rw [key b h2] at h1; cases h1
      · rw [Go.Proofs.YtbngmkopgoelbaaDoor.mny_full hC]; rfl
    · rw [if_neg e, upd_other _ _ e]
      obtain ⟨T', h1, h2, h3, h4⟩ := S.f2 i hi
      refine ⟨T', h1, h2, fun b => ?_, h4⟩
      rw [h3 b]
      constructor
      · rintro ⟨k1, k2⟩
        refine ⟨?_, k2⟩
        unfold tkn at k1 ⊢
        rw [k2] at k1 ⊢
        rw [upd_other _ _ e]; exact k1
      · rintro ⟨k1, k2⟩
        refine ⟨?_, k2⟩
        unfold tkn at k1 ⊢
        rw [k2] at k1 ⊢
        rw [upd_other _ _ e] at k1; exact k1
theorem Sim.l2 (hR : R.length = n) (hn : n ≤ 128) {c p : Nat} (hC : isC c) (hp : p < n) {r : List S82 × Int × Int} (hend : ∃ k, turnbuckleref03_Alloc.l2 k R (c : Int) (p : Int) 512 (c : Int) (zs (blks p c)) = some r) : ∀ d q : Nat, q + d = 512 / c →
    ∃ k, turnbuckleref03_Alloc.l2 k R (c : Int) (p : Int) ((c * q : Nat) : Int) (c : Int) (zs ((List.range q).map (fun k => 512 * p + c * k))) = some r
  | 0, q, h => by
    have hd := hC.div
    have e1 : c * q = 512 := by rw [← hd.1]; congr 1
    have e2 : (List.range q).map (fun k => 512 * p + c * k) = blks p c := by unfold blks; rw [show q = 512 / c from by omega]
    rw [e1, e2]; exact hend
  | d + 1, q, h => by
    obtain ⟨k, hk⟩ := Sim.l2 hR hn hC hp hend d (q + 1) (by omega)
    have hd := hC.div
    have hcp := hC.pos
    refine ⟨k + 1, ?_⟩
    have hq : c * q + c ≤ 512 := by
      have : c * (q + 1) ≤ c * (512 / c) := Nat.mul_le_mul_left _ (by omega)
      rw [Nat.mul_succ] at this; omega
    unfold turnbuckleref03_Alloc.l2
    rw [if_pos (by omega), if_pos (by rw [zs_length]; simp; omega)]
    have e1 : wrap64 (((c * q : Nat) : Int) + (c : Int)) = ((c * (q + 1) : Nat) : Int) := by rw [w64 (by omega) (by omega), Nat.mul_succ]; omega
    have e2 : wrap64 (wrap64 (512 * (p : Int)) + ((c * q : Nat) : Int)) = ((512 * p + c * q : Nat) : Int) := by
      rw [w64 (x := 512 * (p : Int)) (by omega) (by omega), w64 (by omega) (by omega)]; omega
    rw [e1, e2, zs_one, zs_append]
    rw [List.range_succ, List.map_append] at hk
    exact hk

/-- The reference takes what the slab takes. -/
theorem Alloc_ref (S : Sim A n R) (W : Wf A n) (hn1 : 1 ≤ n) (m a : Nat) (h1 : 1 ≤ m) (h2 : m ≤ 256) {A' : Nat → Ap} (h : allc A n (cls m) = some (a, A')) : ∃ k R', turnbuckleref03_Alloc.f k R (m : Int) = some (R', (a : Int), 0) ∧ Sim A' n R' := by
  have hC := cls_isC m
  have hcp := hC.pos
  have hl := S.len
  have hn := W.le
  obtain ⟨p, l, Sp, rfl, hcase⟩ := spot_of W hC h
  have hp := Sp.pg
  have P0 : ((A 0).c == cls m && !((A 0).fl.isEmpty)) = false := by
    rw [W.zero]
    have : ((0 : Nat) == cls m) = false := beq_eq_false_iff_ne.2 (by omega)
    rw [this]; rfl
  obtain ⟨k1, hk1⟩ := Class_eq m h1 h2
  have fin : (∃ k R', turnbuckleref03_Alloc.l0 k R ((cls m : Nat) : Int) 0 ((n - 1 : Nat) : Int) = some (R', (a : Int), 0) ∧ Sim (upd A p ⟨cls m, l⟩) n R') → ∃ k R', turnbuckleref03_Alloc.f k R (m : Int) = some (R', (a : Int), 0) ∧ Sim (upd A p ⟨cls m, l⟩) n R' := by
    rintro ⟨k, R', hk, hS⟩
    have up1 : turnbuckleref03_Class.f (k1 + k) (m : Int) = some ((cls m : Nat) : Int) := by
      have : ∀ d, turnbuckleref03_Class.f (k1 + d) (m : Int) = some ((cls m : Nat) : Int) := fun d => by
        induction d with
        | zero => exact hk1
        | succ d ih => exact turnbuckleref03_Class.mono _ _ _ ih
      exact this k
    have up2 : turnbuckleref03_Alloc.l0 (k1 + k) R ((cls m : Nat) : Int) 0 ((n - 1 : Nat) : Int) = some (R', (a : Int), 0) := by
      have : ∀ d, turnbuckleref03_Alloc.l0 (k + d) R ((cls m : Nat) : Int) 0 ((n - 1 : Nat) : Int) = some (R', (a : Int), 0) := fun d => by
        induction d with
        | zero => exact hk
        | succ d ih => exact (turnbuckleref03_Alloc.mono_l _).2.1 _ _ _ _ _ ih
      rw [Nat.add_comm]; exact this k1
    refine ⟨k1 + k + 1, R', ?_, hS⟩
    unfold turnbuckleref03_Alloc.f
    rw [if_neg (by omega), decide_eq_false (by omega)]
    show ((turnbuckleref03_Class.f (k1 + k) (m : Int)).bind fun t119 => (turnbuckleref03_Alloc.l0 (k1 + k) R t119 0 (wrap64 ((R.length : Int) - 1)))) = _
    rw [up1]
    simp only [Option.bind_some]
    rw [show wrap64 ((R.length : Int) - 1) = ((n - 1 : Nat) : Int) from by rw [w64 (by omega) (by omega)]; omega]
    exact up2
  apply fin
  rcases hcase with ⟨hh, hfl⟩ | ⟨hh, hfr, hbl⟩
  · have hr := find_range.1 hh
    have hcl : (A p).c = cls m := by
      have := hr.2.1
      simp only [Bool.and_eq_true, beq_iff_eq] at this
      exact this.1
    obtain ⟨R', hT, hS⟩ := S.tail W Sp ⟨hcl, hfl⟩
    have := S.l0 hn (cls m) (r := (R', (a : Int), 0)) (n - 1) 0 (by omega) (by
      rw [lst_some (P := fun i => (A i).c == cls m && !((A i).fl.isEmpty)) hp.1 hr.2.1 (fun i _ hi => hr.2.2 i hi) (by omega)]
      refine ⟨1, ?_⟩
      unfold turnbuckleref03_Alloc.l0
      rw [if_neg (by omega), if_neg (by omega)]
      exact hT)
    obtain ⟨k, hk⟩ := this
    exact ⟨k, R', hk, hS⟩
  · have hr := find_range.1 hfr
    have hno := find_range_none.1 hh
    have hcl : (A p).c = 0 := by
      have := hr.2.1
      simp only [Bool.and_eq_true, beq_iff_eq] at this
      exact this.2
    obtain ⟨SF, _⟩ := S.fresh W hC hp hcl
    -- the fresh page is a page that has one free
    have Sp2 : Spot (upd A p ⟨cls m, blks p (cls m)⟩) n (cls m) p a l := ⟨hp, hC, .inl ⟨by rw [upd_same], by rw [upd_same]; exact hbl⟩, Sp.nd, Sp.mem⟩
    have hw0 := with_eq R p ((cls m : Nat) : Int) (zs (blks p (cls m))) [] (by omega) (by omega)
    obtain ⟨T, hT1, hT2, hT3, hT4⟩ := SF.f2 p hp.2
    have hT0 : T = [] := by
      have e : rd_T82 (R.set p ⟨((cls m : Nat) : Int), zs (blks p (cls m)), []⟩) (p : Int) = ⟨((cls m : Nat) : Int), zs (blks p (cls m)), []⟩ := by rw [rdT_set _ _ _ _ (by omega), if_pos rfl]
      rw [e] at hT1
      cases T with
      | nil => rfl
      | cons x T => cases hT1
    have e0 := SF.f0 p hp.2
    have e1 := SF.f1 p hp.2
    rw [upd_same] at e0 e1
    have S2 : Sim (upd A p ⟨cls m, l⟩) n ((R.set p ⟨((cls m : Nat) : Int), zs (blks p (cls m)), []⟩).set p ⟨((cls m : Nat) : Int), zs l, zs [a]⟩) := by
      have S3 := S.took W Sp (T := []) (by
        obtain ⟨T', h1', h2', h3', h4'⟩ := S.f2 p hp.2
        have : T' = [] := List.eq_nil_iff_forall_not_mem.2 (fun b hb => by
          have ⟨k1, k2⟩ := (h3' b).1 hb
          unfold tkn at k1
          rw [k2, hcl] at k1; cases k1)
        rw [h1', this]) List.nodup_nil (fun b => ⟨fun h => (by cases h), fun ⟨k1, k2⟩ => by
          unfold tkn at k1
          rw [k2, hcl] at k1; cases k1⟩) (by
          have := W.none_ p hcl
          rw [show A p = ⟨0, []⟩ from by rw [← hcl, ← this], Go.Proofs.YtbngmkopgoelbaaDoor.mny_none]; rfl)
      rw [List.set_set]
      exact S3
    have hend : ∃ k, turnbuckleref03_Alloc.l2 k R ((cls m : Nat) : Int) (p : Int) 512 ((cls m : Nat) : Int) (zs (blks p (cls m))) = some ((R.set p ⟨((cls m : Nat) : Int), zs (blks p (cls m)), []⟩).set p ⟨((cls m : Nat) : Int), zs l, zs [a]⟩, (a : Int), 0) := by
      refine ⟨1, ?_⟩
      unfold turnbuckleref03_Alloc.l2
      rw [if_neg (by omega), hw0]
      simp only [Option.bind_some]
      rw [e0, e1, hT1, hT0, hbl]
      rw [if_pos (by omega), if_pos (by rw [List.length_set]; omega), if_pos (by simp), if_pos (by simp; omega)]
      simp only [List.nil_append, List.length_nil, Nat.zero_add]
      rw [if_pos (by simp [zs]), if_pos (by simp [zs])]
      have e2 : rd (zs (a :: l)) 0 = (a : Int) := rfl
      have e3 : (zs (a :: l)).drop 1 = zs l := rfl
      rw [e2, e3, with_eq _ _ _ _ _ (by rw [List.length_set]; omega) (by rw [List.length_set]; omega)]
      rfl
    obtain ⟨k2, hk2⟩ := Sim.l2 hl hn hC hp.2 hend (512 / cls m) 0 (by omega)
    obtain ⟨k3, hk3⟩ := S.l1 hn (cls m) (r := ((R.set p ⟨((cls m : Nat) : Int), zs (blks p (cls m)), []⟩).set p ⟨((cls m : Nat) : Int), zs l, zs [a]⟩, (a : Int), 0)) (n - 1) 0 (by omega) (by
      rw [lst_some (P := fun i => (A i).c == 0) hp.1 (by rw [hcl]; rfl) (fun i hi1 hi2 => by
        have := hr.2.2 i hi2
        have e1 : (i != 0) = true := by rw [bne_iff_ne]; omega
        rw [e1, Bool.true_and] at this
        exact this) (by omega)]
      refine ⟨k2 + 1, ?_⟩
      unfold turnbuckleref03_Alloc.l1
      rw [if_neg (by omega), if_neg (by omega)]
      rw [Nat.mul_zero] at hk2
      exact hk2)
    obtain ⟨k4, hk4⟩ := S.l0 hn (cls m) (r := ((R.set p ⟨((cls m : Nat) : Int), zs (blks p (cls m)), []⟩).set p ⟨((cls m : Nat) : Int), zs l, zs [a]⟩, (a : Int), 0)) (n - 1) 0 (by omega) (by
      rw [lst_none (P := fun i => (A i).c == cls m && !((A i).fl.isEmpty)) (fun i _ hi => hno i (by omega))]
      refine ⟨k3 + 1, ?_⟩
      unfold turnbuckleref03_Alloc.l0
      rw [if_neg (by omega), if_pos (by simp), show wrap64 ((R.length : Int) - 1) = ((n - 1 : Nat) : Int) from by rw [w64 (by omega) (by omega)]; omega]
      exact hk3)
    exact ⟨k4, _, hk4, S2⟩

theorem Alloc_ref_full (S : Sim A n R) (W : Wf A n) (hn1 : 1 ≤ n) (m : Nat) (h1 : 1 ≤ m) (h2 : m ≤ 256) (h : allc A n (cls m) = none) : ∃ k, turnbuckleref03_Alloc.f k R (m : Int) = some (R, 0, 5) := by
  have hC := cls_isC m
  have hcp := hC.pos
  have hl := S.len
  have hn := W.le
  unfold allc Go.Proofs.YtbngmkopgoelbaaDoor.spot at h
  cases hh : hit A n (cls m) with
  | some p => rw [hh] at h; simp at h
  | none =>
    rw [hh] at h
    simp only [Option.map_map, Option.map_eq_none_iff] at h
    have hno := find_range_none.1 hh
    have hfr := find_range_none.1 h
    obtain ⟨k1, hk1⟩ := Class_eq m h1 h2
    obtain ⟨k3, hk3⟩ := S.l1 hn (cls m) (r := (R, 0, 5)) (n - 1) 0 (by omega) (by
      rw [lst_none (P := fun i => (A i).c == 0) (fun i hi1 hi2 => by
        have := hfr i (by omega)
        have e1 : (i != 0) = true := by rw [bne_iff_ne]; omega
        rw [e1, Bool.true_and] at this
        exact this)]
      refine ⟨1, ?_⟩
      unfold turnbuckleref03_Alloc.l1
      rw [if_neg (by omega), if_pos (by simp)])
    obtain ⟨k4, hk4⟩ := S.l0 hn (cls m) (r := (R, 0, 5)) (n - 1) 0 (by omega) (by
      rw [lst_none (P := fun i => (A i).c == cls m && !((A i).fl.isEmpty)) (fun i _ hi => hno i (by omega))]
      refine ⟨k3 + 1, ?_⟩
      unfold turnbuckleref03_Alloc.l0
      rw [if_neg (by omega), if_pos (by simp), show wrap64 ((R.length : Int) - 1) = ((n - 1 : Nat) : Int) from by rw [w64 (by omega) (by omega)]; omega]
      exact hk3)
    have up1 : turnbuckleref03_Class.f (k1 + k4) (m : Int) = some ((cls m : Nat) : Int) := by
      have : ∀ d, turnbuckleref03_Class.f (k1 + d) (m : Int) = some ((cls m : Nat) : Int) := fun d => by
        induction d with
        | zero => exact hk1
        | succ d ih => exact turnbuckleref03_Class.mono _ _ _ ih
      exact this k4
    have up2 : turnbuckleref03_Alloc.l0 (k1 + k4) R ((cls m : Nat) : Int) 0 ((n - 1 : Nat) : Int) = some (R, 0, 5) := by
      have : ∀ d, turnbuckleref03_Alloc.l0 (k4 + d) R ((cls m : Nat) : Int) 0 ((n - 1 : Nat) : Int) = some (R, 0, 5) := fun d => by
        induction d with
        | zero => exact hk4
        | succ d ih => exact (turnbuckleref03_Alloc.mono_l _).2.1 _ _ _ _ _ ih
      rw [Nat.add_comm]; exact this k1
    refine ⟨k1 + k4 + 1, ?_⟩
    unfold turnbuckleref03_Alloc.f
    rw [if_neg (by omega), decide_eq_false (by omega)]
    show ((turnbuckleref03_Class.f (k1 + k4) (m : Int)).bind fun t119 => (turnbuckleref03_Alloc.l0 (k1 + k4) R t119 0 (wrap64 ((R.length : Int) - 1)))) = _
    rw [up1]
    simp only [Option.bind_some]
    rw [show wrap64 ((R.length : Int) - 1) = ((n - 1 : Nat) : Int) from by rw [w64 (by omega) (by omega)]; omega]
    exact up2
theorem Alloc_ref_bad (R : List S82) (m : Int) (h : m < 1 ∨ 256 < m) : ∃ k, turnbuckleref03_Alloc.f k R m = some (R, 0, 1) := by
  refine ⟨1, ?_⟩
  unfold turnbuckleref03_Alloc.f
  by_cases h1 : m < 1
  · rw [if_pos h1]; rfl
  · rw [if_neg h1, decide_eq_true (by omega)]; rfl

/-- A page's blocks, one after the other. -/
theorem Sim.b1 (hR : R.length = n) (hn : n ≤ 128) (at_ : Int) {i : Nat} (hi : i < n) {T : List Nat} (hT : (rd_T82 R (i : Int)).f2 = zs T) (hTl : T.length ≤ 32) {r : Int × Bool}
    (hgo : (∀ b ∈ T, (b : Int) ≠ at_) → ∃ k, turnbuckleref03_Block.l0 k R at_ ((i + 1 : Nat) : Int) = some r) (hin : (∃ b ∈ T, (b : Int) = at_) → r = ((rd_T82 R (i : Int)).f0, true)) : ∀ d q : Nat, q + d = T.length → (∀ b ∈ T.take q, (b : Int) ≠ at_) →
    ∃ k, turnbuckleref03_Block.l1 k R at_ (i : Int) (q : Int) = some r
  | 0, q, h, hq => by
    have hq' : T.take q = T := List.take_of_length_le (by omega)
    rw [hq'] at hq
    obtain ⟨k, hk⟩ := hgo hq
    refine ⟨k + 1, ?_⟩
    unfold turnbuckleref03_Block.l1
    rw [if_pos (by omega), if_pos (by omega), hT, zs_length, if_neg (by omega), show wrap64 ((i : Int) + 1) = ((i + 1 : Nat) : Int) from by rw [w64 (by omega) (by omega)]; omega]
    exact hk
  | d + 1, q, h, hq => by
    have hlt : q < T.length := by omega
    have hg : T.getD q 0 = T[q] := by rw [List.getD_eq_getElem?_getD, List.getElem?_eq_getElem hlt]; rfl
    by_cases e : ((T.getD q 0 : Nat) : Int) = at_
    · refine ⟨1, ?_⟩
      unfold turnbuckleref03_Block.l1
      rw [if_pos (by omega), if_pos (by omega), hT, zs_length, if_pos (by omega), if_pos (by omega), zs_rd, if_pos e]
      rw [hin ⟨T.getD q 0, by rw [hg]; exact List.getElem_mem hlt, e⟩]
    · obtain ⟨k, hk⟩ := Sim.b1 hR hn at_ hi hT hTl hgo hin d (q + 1) (by omega) (fun b hb => by
        rw [List.take_add_one, List.getElem?_eq_getElem hlt] at hb
        rcases List.mem_append.1 hb with h1 | h1
        · exact hq b h1
        · simp at h1
          rw [h1, ← hg]; exact e)
      refine ⟨k + 1, ?_⟩
      unfold turnbuckleref03_Block.l1
      rw [if_pos (by omega), if_pos (by omega), hT, zs_length, if_pos (by omega), if_pos (by omega), zs_rd, if_neg e, show wrap64 ((q : Int) + 1) = ((q + 1 : Nat) : Int) from by rw [w64 (by omega) (by omega)]; omega]
      exact hk
/-- What Block answers. -/
def blkR (A : Nat → Ap) (at_ : Int) : Int × Bool := if Go.Proofs.YtbngmkopgoelbaaDoor.tI A at_ then (((A (at_.toNat / 512)).c : Int), true) else (0, false)
theorem Block_ref (S : Sim A n R) (W : Wf A n) (at_ : Int) : ∃ k, turnbuckleref03_Block.f k R at_ = some (blkR A at_) := by
  have hn := W.le
  have hl := S.len
  have key : ∀ d i : Nat, i + d = n → (∀ b j, j < i → tkn A b = true → b / 512 = j → (b : Int) ≠ at_) → ∃ k, turnbuckleref03_Block.l0 k R at_ (i : Int) = some (blkR A at_) := by
    intro d
    induction d with
    | zero =>
      intro i h hno
      refine ⟨1, ?_⟩
      unfold turnbuckleref03_Block.l0
      rw [if_neg (by omega)]
      unfold blkR
      cases ht : Go.Proofs.YtbngmkopgoelbaaDoor.tI A at_ with
      | false => rfl
      | true =>
        exfalso
        unfold Go.Proofs.YtbngmkopgoelbaaDoor.tI at ht
        simp only [Bool.and_eq_true, decide_eq_true_eq] at ht
        have hfit := W.fits ht.2
        have ⟨t1, _, _⟩ := tkn_iff.1 ht.2
        have := W.ins t1
        exact hno at_.toNat _ (by omega) ht.2 rfl (by omega)
    | succ d ih =>
      intro i h hno
      obtain ⟨T, hT, hTn, hTm, hTl⟩ := S.f2 i (by omega)
      have hml := Go.Proofs.YtbngmkopgoelbaaDoor.mny_le (A i) i
      obtain ⟨k, hk⟩ := Sim.b1 hl hn at_ (by omega) hT (by omega) (r := blkR A at_) (fun hno2 => ih (i + 1) (by omega) (fun b j hj hb hbj => by
        by_cases e : j = i
        · exact hno2 b ((hTm b).2 ⟨hb, by rw [hbj, e]⟩)
        · exact hno b j (by omega) hb hbj)) (fun ⟨b, hb, e⟩ => by
          have ⟨k1, k2⟩ := (hTm b).1 hb
          subst e
          unfold blkR
          rw [Go.Proofs.YtbngmkopgoelbaaDoor.tI_nat, k1, if_pos rfl, Int.toNat_natCast, k2, S.f0 i (by omega)]) T.length 0 (by omega) (fun b hb => by simp at hb)
      refine ⟨k + 1, ?_⟩
      unfold turnbuckleref03_Block.l0
      rw [if_pos (by omega)]
      exact hk
  obtain ⟨k, hk⟩ := key n 0 (by omega) (fun b j hj => by omega)
  exact ⟨k, hk⟩

theorem nodup_filter {T : List Nat} (hn : T.Nodup) {a : Nat} (h : a ∈ T) : (T.filter (fun b => b != a)).length + 1 = T.length := by
  have e := hn.erase_eq_filter a
  have hl := List.length_erase_of_mem h
  rw [e] at hl
  have := List.length_pos_of_mem h
  omega
/-- Those that are left, and what is done with them. -/
theorem Free_l0 (R : List S82) (a : Nat) (c0 : Int) (F : List Int) (T : List Nat) (hTl : T.length ≤ 32) {r : List S82 × Int} (hend : ∃ k, turnbuckleref03_Free.l0 k R (a : Int) (zs (T.filter (fun b => b != a))) ((T.length : Nat) : Int) c0 F (zs T) = some r) : ∀ d q : Nat, q + d = T.length →
    ∃ k, turnbuckleref03_Free.l0 k R (a : Int) (zs ((T.take q).filter (fun b => b != a))) (q : Int) c0 F (zs T) = some r
  | 0, q, h => by
    have hq : q = T.length := by omega
    rw [hq, List.take_length]; exact hend
  | d + 1, q, h => by
    obtain ⟨k, hk⟩ := Free_l0 R a c0 F T hTl hend d (q + 1) (by omega)
    have hlt : q < T.length := by omega
    have hg : T.getD q 0 = T[q] := by rw [List.getD_eq_getElem?_getD, List.getElem?_eq_getElem hlt]; rfl
    rw [List.take_add_one, List.getElem?_eq_getElem hlt, List.filter_append] at hk
    have hfl : ((T.take q).filter (fun b => b != a)).length ≤ 32 := Nat.le_trans (List.length_filter_le _ _) (by rw [List.length_take]; omega)
    refine ⟨k + 1, ?_⟩
    unfold turnbuckleref03_Free.l0
    rw [zs_length, if_pos (by omega), if_pos (by omega), zs_rd, show wrap64 ((q : Int) + 1) = ((q + 1 : Nat) : Int) from by rw [w64 (by omega) (by omega)]; omega]
    by_cases e : T.getD q 0 = a
    · rw [if_pos (by omega)]
      rw [← hg, e] at hk
      simpa using hk
    · rw [if_neg (by omega), if_pos (by rw [zs_length]; omega), zs_one, zs_append, hg]
      have : (T[q] != a) = true := by rw [bne_iff_ne, ← hg]; exact e
      simpa [this] using hk
end
end Go.Proofs.YtbngmkopgoelbaaDoor.Ref
