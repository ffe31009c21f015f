import Derived.Test.YtbngmkopgoelbaaDoorSl6
import Derived.Test.YtbngmkopgoelbaaDoorSl9
import Derived.Test.YtbngmkopgoelbaaDoorSl10
import Derived.Test.YtbngmkopgoelbaaDoorSl11
import Derived.Test.YtbngmkopgoelbaaDoorSlMgB
/- The slab (layer 3): its state in pages and free blocks; each function's step. -/
set_option linter.unusedVariables false
set_option linter.unusedSimpArgs false
namespace Go.Proofs.YtbngmkopgoelbaaDoor
open Go.RowKit

/-- A page as its numbers. -/
def conc (x : Ap) (i : Nat) : Pg := ⟨(x.c : Int), ((tw x i : Nat) : Int), ((mny x i : Nat) : Int), ((x.fl.headD 0 : Nat) : Int)⟩
structure Rp (A : Nat → Ap) (n : Nat) (bs : List Int) (f : Nat → Bool) (P : Nat → Pg) : Prop where
  wf : Wf A n
  len : bs.length = 512 * n
  f : ∀ i, f i = (decide (i < n) && (i == 0 || (A i).c != 0))
  P : ∀ i, i < 128 → P i = conc (A i) i
  link : ∀ i, linked bs (A i).fl

theorem mny_le' {c : Nat} {fl : List Nat} {p : Nat} (hc : isC c) : mny ⟨c, fl⟩ p ≤ 512 / c := by
  unfold mny
  have h1 := hc.div
  rw [cnt_beyond (gP ⟨c, fl⟩ p) (512 / c) (fun i hi => by unfold gP; rw [decide_eq_false (by show ¬ i < 512 / c; omega)]; rfl) 32 h1.2.1]
  exact cnt_le _ _
theorem Wf.use_le {A : Nat → Ap} {n : Nat} (W : Wf A n) (i : Nat) : (A i).c * mny (A i) i ≤ 512 := by
  by_cases h : (A i).c = 0
  · rw [h]; simp
  · have hc := W.cc i h
    have h1 := mny_le' (fl := (A i).fl) (p := i) hc
    have h2 := hc.div
    calc (A i).c * mny (A i) i ≤ (A i).c * (512 / (A i).c) := Nat.mul_le_mul_left _ h1
      _ = 512 := h2.1
theorem sm_le {h : Nat → Nat} {b : Nat} (hb : ∀ i, h i ≤ b) : ∀ n, sm h n ≤ b * n
  | 0 => by simp [sm]
  | n + 1 => by unfold sm; have := sm_le hb n; have := hb n; rw [Nat.mul_succ]; omega
theorem Wf.usd_le {A : Nat → Ap} {n : Nat} (W : Wf A n) : usd A n ≤ 512 * n := sm_le (fun i => W.use_le i) n

section
variable {A : Nat → Ap} {n : Nat} {bs : List Int} {f : Nat → Bool} {P : Nat → Pg}
theorem Rp.hitP (R : Rp A n bs f P) {c j : Nat} (hc : isC c) (hj : j < 128) : HitP P c j ↔ ((A j).c == c && !((A j).fl.isEmpty)) = true := by
  unfold HitP
  rw [R.P j hj]
  show ((A j).c : Int) = c ∧ (((A j).fl.headD 0 : Nat) : Int) ≠ 0 ↔ _
  have hcp := hc.pos
  cases hf : (A j).fl with
  | nil => simp
  | cons x l =>
    have hx : x ∈ (A j).fl := by rw [hf]; exact List.mem_cons_self ..
    have h1 := R.wf.ins (R.wf.memC hx)
    have h2 := R.wf.mem j x hx
    simp
    omega

/-- A block's cells where another page, or another block of the page, is turned. -/
theorem free_off (R : Rp A n bs f P) {i b : Nat} (hb : b ∈ (A i).fl) : b / 512 = i ∧ b % (A i).c = 0 ∧ isC (A i).c ∧ (A i).c ≠ 0 := by
  have h1 := R.wf.memC hb
  exact ⟨(R.wf.mem i b hb).1, (R.wf.mem i b hb).2, R.wf.cc i h1, h1⟩

/-- What is had when a block is taken. -/
theorem Rp.take (R : Rp A n bs f P) {c p a : Nat} {l : List Nat} (S : Spot A n c p a l) {bs1 : List Int} (hl : bs1.length = bs.length) (hlk : linked bs1 (a :: l))
    (hOut : ∀ j, j < 512 * p ∨ 512 * p + 512 ≤ j → gb bs1 j = gb bs j) {f' : Nat → Bool} {P' : Nat → Pg} (hf : ∀ i, f' i = (f i || i == p)) (hP : ∀ i, i < 128 → P' i = if i = p then conc ⟨c, l⟩ p else P i) :
    Rp (upd A p ⟨c, l⟩) n (fillA bs1 a c 0) f' P' := by
  have hcp := S.cc.pos
  have hat := S.at_
  have hin := inpage S.cc hat.2 hat.1
  refine ⟨S.wf R.wf, by rw [fillA_length, hl, R.len], fun i => ?_, fun i hi => ?_, fun i => ?_⟩
  · rw [hf, R.f i]
    have hp := S.pg
    by_cases e : i = p
    · subst e
      rw [upd_same, decide_eq_true hp.2]
      have : (c != 0) = true := by rw [bne_iff_ne]; omega
      simp [this]
    · rw [upd_other _ _ e, beq_eq_false_iff_ne.2 e, Bool.or_false]
  · rw [hP i hi]
    by_cases e : i = p
    · subst e; rw [if_pos rfl, upd_same]
    · rw [if_neg e, upd_other _ _ e]; exact R.P i hi
  · by_cases e : i = p
    · subst e
      rw [upd_same]
      refine linked_congr (fillA_length _ _ _ _) (fun b hb j h1 h2 => gb_fillA _ _ _ _ _ ?_) hlk.2
      have hb2 := S.mem b (List.mem_cons_of_mem _ hb)
      have hne : a ≠ b := fun e => S.not (by rw [e]; exact hb)
      rcases apart S.cc hat.2 hb2.2 hne with h | h <;> omega
    · rw [upd_other _ _ e]
      refine linked_congr (by rw [fillA_length, hl]) (fun b hb j h1 h2 => ?_) (R.link i)
      obtain ⟨k1, k2, k3, k4⟩ := free_off R hb
      have kin := inpage k3 k2 k1
      have := k3.pos
      rw [gb_fillA _ _ _ _ _ (by omega), hOut j (by omega)]
theorem Rp.take_keeps (R : Rp A n bs f P) {c p a : Nat} {l : List Nat} (S : Spot A n c p a l) {bs1 : List Int}
    (hOut : ∀ j, j < 512 * p ∨ 512 * p + 512 ≤ j → gb bs1 j = gb bs j) (hIn : (A p).c = c → bs1 = bs) (b j : Nat) (hb : tkn A b = true) (h1 : b ≤ j) (h2 : j < b + (A (b / 512)).c) : gb (fillA bs1 a c 0) j = gb bs j := by
  have hat := S.at_
  have hin := inpage S.cc hat.2 hat.1
  have ⟨t1, t2, t3⟩ := tkn_iff.1 hb
  have tc := R.wf.cc _ t1
  have tin := inpage tc t2 rfl
  have tp := tc.pos
  by_cases e : b / 512 = p
  · have hc : (A p).c = c := by
      rcases S.cl with h | h
      · exact h.1
      · rw [e] at t1; exact absurd h.1 t1
    rw [e, hc] at t2 h2
    have hne : a ≠ b := fun e2 => by
      have := S.new R.wf
      rw [e2] at this; rw [this] at hb; cases hb
    rw [hIn hc]
    rcases apart S.cc hat.2 t2 hne with h | h
    · exact gb_fillA _ _ _ _ _ (by omega)
    · exact gb_fillA _ _ _ _ _ (by omega)
  · rw [gb_fillA _ _ _ _ _ (by omega), hOut j (by omega)]
end

/-- What lay there when the call began lies as it lay, but for blocks of the call's own. -/
theorem Kept.fr {w0 w w1 : World} {S : Nat → Prop} (K : Kept w0 w) (h : Fr S w w1) (hS : ∀ i, S i → w0.heap.size ≤ i) : Kept w0 w1 :=
  ⟨⟨h.os.trans K.below.os, h.tape.trans K.below.tape, h.output.trans K.below.output, Nat.le_trans K.below.size h.size, fun i hi => (h.block i (Nat.lt_of_lt_of_le hi K.below.size) (fun hs => by have := hS i hs; omega)).trans (K.below.block i hi)⟩⟩
theorem Kept.tb {w0 w : World} (K : Kept w0 w) (T : Tb w0) : Tb w := T.below K.below T.lt

/-- A slab of the call's own. -/
structure St (w0 w : World) (s pa pd pp n : Nat) (A : Nat → Ap) (bs : List Int) : Prop where
  kept : Kept w0 w
  ex : ∃ f P, Sm w s pa pd pp n bs f P ((usd A n : Nat) : Int) ∧ Rp A n bs f P
  new : w0.heap.size ≤ s ∧ w0.heap.size ≤ pd ∧ w0.heap.size ≤ pp
  tb : Tb w0

section
variable {w0 w w1 : World} {s pa pd pp n : Nat} {A : Nat → Ap} {bs : List Int}
theorem St.then_ (S : St w0 w s pa pd pp n A bs) (k : Below w.heap.size w w1) : St w0 w1 s pa pd pp n A bs := by
  obtain ⟨f, P, h1, h2⟩ := S.ex
  exact ⟨S.kept.then_ k, ⟨f, P, h1.below k, h2⟩, S.new, S.tb⟩
theorem St.s3 (S : St w0 w s pa pd pp n A bs) : ∀ i, S3 s pd pp i → w0.heap.size ≤ i := by
  rintro i (rfl | rfl | rfl)
  · exact S.new.1
  · exact S.new.2.1
  · exact S.new.2.2
theorem St.wf (S : St w0 w s pa pd pp n A bs) : Wf A n := by obtain ⟨f, P, h1, h2⟩ := S.ex; exact h2.wf
theorem St.len (S : St w0 w s pa pd pp n A bs) : bs.length = 512 * n := by obtain ⟨f, P, h1, h2⟩ := S.ex; exact h2.len
theorem St.ar (S : St w0 w s pa pd pp n A bs) : Ar w pa pd bs := by obtain ⟨f, P, h1, h2⟩ := S.ex; exact h1.ar
theorem St.lt (S : St w0 w s pa pd pp n A bs) : s < w.heap.size ∧ pa < w.heap.size ∧ pd < w.heap.size ∧ pp < w.heap.size := by
  obtain ⟨f, P, h1, h2⟩ := S.ex
  exact ⟨h1.sb.lt, h1.ar.lt.1, h1.ar.lt.2, h1.po.lt⟩

theorem SNew_st (K : Kept w0 w) (T : Tb w0) (n : Nat) (h0 : 1 ≤ n) (h1 : n ≤ 128) :
    Calls Tryd.prog 10 #[.int .i64 (n : Int)] w fun e w' => ∃ s pa pd pp : Nat, e = .returned (.tuple #[.pointer (some ⟨s, 0, none⟩), .int .i64 0]) ∧ St w0 w' s pa pd pp n none0 (zeros (512 * n)) ∧ Below w.heap.size w w' := by
  refine (SNew_ok n w (K.tb T) h0 h1).mono ?_
  rintro e w' ⟨s, pa, pd, pp, h, hS, hB, k1, k2, k3⟩
  have := K.below.size
  refine ⟨s, pa, pd, pp, h, ⟨K.then_ hB, ⟨fun i => i == 0, fun _ => ⟨0, 0, 0, 0⟩, ?_, ?_⟩, ⟨by omega, by omega, by omega⟩, T⟩, hB⟩
  · rw [none0_usd]; exact hS
  · refine ⟨none0_wf h1, zeros_length _, fun i => ?_, fun i hi => ?_, fun i => trivial⟩
    · show (i == 0) = (decide (i < n) && (i == 0 || ((0 : Nat) != 0)))
      by_cases e : i = 0
      · subst e; rw [decide_eq_true (by omega)]; rfl
      · rw [beq_eq_false_iff_ne.2 e]; simp
    · show (⟨0, 0, 0, 0⟩ : Pg) = conc ⟨0, []⟩ i
      unfold conc
      have h1 : tw ⟨0, []⟩ i = 0 := by unfold tw; rw [gP_none]; exact wd_zero 32
      rw [h1, mny_none]
      rfl

theorem Alloc_some (S : St w0 w s pa pd pp n A bs) (m a : Nat) (h1 : 1 ≤ m) (h2 : m ≤ 256) {A' : Nat → Ap} (h : allc A n (cls m) = some (a, A')) :
    Calls Tryd.prog 11 #[.pointer (some ⟨s, 0, none⟩), .int .i64 (m : Int)] w fun e w' => e = .returned (.tuple #[.int .i64 (a : Int), .int .i64 0]) ∧
      ∃ bs', St w0 w' s pa pd pp n A' bs' ∧ (∀ b j, tkn A b = true → b ≤ j → j < b + (A (b / 512)).c → gb bs' j = gb bs j) ∧ (∀ j, a ≤ j → j < a + cls m → gb bs' j = 0) ∧ Fr (S3 s pd pp) w w' := by
  obtain ⟨f, P, hS, R⟩ := S.ex
  have hC := cls_isC m
  obtain ⟨p, l, hs, rfl, hcase⟩ := spot_of R.wf hC h
  have hat := hs.at_
  have hpg := hs.pg
  have hfit := hs.fits
  have n128 := R.wf.le
  have hu := R.wf.usd_le
  have hus := hs.usd R.wf
  have hst : conc ⟨cls m, l⟩ p = ⟨(cls m : Int), bits .or .u32 ((tw ⟨cls m, a :: l⟩ p : Nat) : Int) ((2 ^ (a % 512 / cls m) : Nat) : Int), ((mny ⟨cls m, a :: l⟩ p : Nat) : Int) + 1, ((l.headD 0 : Nat) : Int)⟩ := by
    unfold conc tw
    rw [word_or _ _ (r_lt hC), hs.mny]
    have e := gP_take (l := l) hC hat.2 hs.not
    rw [hat.1] at e
    rw [e]
    rfl
  rcases hcase with ⟨hh, hfl⟩ | ⟨hh, hfr, hbl⟩
  · have hr := find_range.1 hh
    have hcl : (A p).c = cls m := by
      have := hr.2.1
      simp only [Bool.and_eq_true, beq_iff_eq] at this
      exact this.1
    have hAp : A p = ⟨cls m, a :: l⟩ := by rw [← hcl, ← hfl]
    have hlk := R.link p
    rw [hfl] at hlk
    refine (Alloc_hit hS m p a (cls m) ((tw ⟨cls m, a :: l⟩ p : Nat) : Int) ((mny ⟨cls m, a :: l⟩ p : Nat) : Int) h1 h2 rfl hC hpg.1 (by omega) (by rw [R.P p (by omega), hAp]; rfl) (by omega) (by omega)
      (fun j hj hx => by have := hr.2.2 j hj; rw [(R.hitP hC (by omega)).1 hx] at this; cases this) (by omega) (by omega) (by have := mny_le (⟨cls m, a :: l⟩ : Ap) p; omega) (by omega) (by omega)).mono ?_
    rintro e w' ⟨he, hS', hF⟩
    refine ⟨he, _, ⟨S.kept.fr hF S.s3, ⟨_, _, by rw [hus]; exact hS', R.take hs rfl hlk (fun _ _ => rfl) (fun i => ?_) (fun i hi => ?_)⟩, S.new, S.tb⟩, fun b j => R.take_keeps hs (fun _ _ => rfl) (fun _ => rfl) b j, fun j k1 k2 => gb_fillA_in _ _ _ _ _ ⟨k1, k2⟩ (by rw [R.len]; omega), hF⟩
    · by_cases e : i = p
      · subst e
        rw [R.f i, decide_eq_true hpg.2, hcl]
        have : (cls m != 0) = true := by rw [bne_iff_ne]; have := hC.pos; omega
        rw [this]; simp
      · rw [beq_eq_false_iff_ne.2 e, Bool.or_false]
    · unfold updP
      by_cases e : i = p
      · rw [if_pos e, if_pos e, hst, hlk.1]
      · rw [if_neg e, if_neg e]
  · have hr := find_range.1 hfr
    have hno := find_range_none.1 hh
    have hcl : (A p).c = 0 := by
      have := hr.2.1
      simp only [Bool.and_eq_true, beq_iff_eq] at this
      exact this.2
    have hfullw : tw ⟨cls m, a :: l⟩ p = 0 := by unfold tw; rw [← hbl, gP_full hC]; exact wd_zero 32
    have hfullm : mny ⟨cls m, a :: l⟩ p = 0 := by rw [← hbl]; exact mny_full hC
    have haa : 512 * p = a := by
      obtain ⟨l', hl'⟩ := blks_cons (p := p) hC
      rw [hl'] at hbl
      injection hbl
    refine (Alloc_new hS (S.kept.tb S.tb) m p a (cls m) h1 h2 rfl hC R.len hpg.1 hpg.2 ?_ (fun i hi => ?_) (fun j hj hx => ?_) haa (by omega) (by omega)).mono ?_
    · rw [R.f p, hcl]
      have : (p == 0) = false := beq_eq_false_iff_ne.2 (by omega)
      rw [this]; simp
    · have := hr.2.2 i hi
      rw [R.f i, decide_eq_true (by omega)]
      by_cases e : i = 0
      · rw [e]; rfl
      · have e1 : (i != 0) = true := by rw [bne_iff_ne]; exact e
        rw [e1, Bool.true_and] at this
        have : (A i).c ≠ 0 := by simpa using this
        have e2 : ((A i).c != 0) = true := by rw [bne_iff_ne]; exact this
        rw [e2]; simp
    · have h3 := (R.hitP hC hj).1 hx
      by_cases hjn : j < n
      · rw [hno j hjn] at h3; cases h3
      · have := R.wf.out j (by omega)
        rw [this] at h3
        have : ((0 : Nat) == cls m) = false := beq_eq_false_iff_ne.2 (by have := hC.pos; omega)
        rw [this] at h3; cases h3
    · rintro e w' ⟨he, bs1, hl1, hlk, hout, hS', hF⟩
      rw [hbl] at hlk
      have hs0 := hst
      rw [hfullw, hfullm] at hs0
      refine ⟨he, _, ⟨S.kept.fr hF S.s3, ⟨_, _, by rw [hus]; exact hS', R.take hs hl1 hlk hout (fun i => rfl) (fun i hi => ?_)⟩, S.new, S.tb⟩, fun b j => R.take_keeps hs hout (fun h => by rw [hcl] at h; have := hC.pos; omega) b j, fun j k1 k2 => gb_fillA_in _ _ _ _ _ ⟨k1, k2⟩ (by rw [hl1, R.len]; omega), hF⟩
      unfold updP
      by_cases e : i = p
      · rw [if_pos e, if_pos e, hs0, hlk.1]; rfl
      · rw [if_neg e, if_neg e]

theorem Alloc_none (S : St w0 w s pa pd pp n A bs) (m : Nat) (h1 : 1 ≤ m) (h2 : m ≤ 256) (h : allc A n (cls m) = none) :
    Calls Tryd.prog 11 #[.pointer (some ⟨s, 0, none⟩), .int .i64 (m : Int)] w fun e w' => e = .returned (.tuple #[.int .i64 0, .int .i64 5]) ∧ St w0 w' s pa pd pp n A bs ∧ Fr (S3 s pd pp) w w' := by
  obtain ⟨f, P, hS, R⟩ := S.ex
  have hC := cls_isC m
  have n128 := R.wf.le
  unfold allc spot at h
  cases hh : hit A n (cls m) with
  | some p => rw [hh] at h; simp at h
  | none =>
    rw [hh] at h
    simp only [Option.map_map, Option.map_eq_none_iff] at h
    have hno := find_range_none.1 hh
    have hfr := find_range_none.1 h
    refine (Alloc_full hS (S.kept.tb S.tb) m (cls m) h1 h2 rfl (fun i hi => ?_) (fun j hj hx => ?_)).mono ?_
    · have := hfr i hi
      rw [R.f i, decide_eq_true hi]
      by_cases e : i = 0
      · rw [e]; rfl
      · have e1 : (i != 0) = true := by rw [bne_iff_ne]; exact e
        rw [e1, Bool.true_and] at this
        have : (A i).c ≠ 0 := by simpa using this
        have e2 : ((A i).c != 0) = true := by rw [bne_iff_ne]; exact this
        rw [e2]; simp
    · have h3 := (R.hitP hC hj).1 hx
      by_cases hjn : j < n
      · rw [hno j hjn] at h3; cases h3
      · have := R.wf.out j (by omega)
        rw [this] at h3
        have : ((0 : Nat) == cls m) = false := beq_eq_false_iff_ne.2 (by have := hC.pos; omega)
        rw [this] at h3; cases h3
    · rintro e w' ⟨he, hB⟩
      exact ⟨he, S.then_ hB, Fr.of_below hB⟩
end
end Go.Proofs.YtbngmkopgoelbaaDoor

/- The slab (layer 3): Free, Block, Used, Pages; the document's example. -/
set_option linter.unusedVariables false
set_option linter.unusedSimpArgs false
namespace Go.Proofs.YtbngmkopgoelbaaDoor
open Go.RowKit

/-- Is a place a block's that is taken? -/
def tI (A : Nat → Ap) (at_ : Int) : Bool := decide (0 ≤ at_) && tkn A at_.toNat
theorem tI_nat (A : Nat → Ap) (a : Nat) : tI A (a : Int) = tkn A a := by unfold tI; rw [decide_eq_true (by omega), Int.toNat_natCast]; rfl

section
variable {w0 w w1 : World} {s pa pd pp n : Nat} {A : Nat → Ap} {bs : List Int}
theorem Block_st (S : St w0 w s pa pd pp n A bs) (at_ : Int) :
    Calls Tryd.prog 12 #[.pointer (some ⟨s, 0, none⟩), .int .i64 at_] w fun e w' =>
      e = .returned (if tI A at_ then .tuple #[.int .i64 (((A (at_.toNat / 512)).c : Nat) : Int), .bool true] else .tuple #[.int .i64 0, .bool false]) ∧ Below w.heap.size w w' := by
  obtain ⟨f, P, hS, R⟩ := S.ex
  have n128 := R.wf.le
  by_cases ho : at_ < 512 ∨ (bs.length : Int) ≤ at_
  · have ht : tI A at_ = false := by
      cases ht : tI A at_
      · rfl
      · unfold tI at ht
        simp only [Bool.and_eq_true, decide_eq_true_eq] at ht
        have := R.wf.fits ht.2
        have := (this.2.2.2).pos
        have := R.len
        omega
    rw [ht]
    exact Block_out hS at_ ho
  · obtain ⟨a, rfl⟩ := Int.eq_ofNat_of_zero_le (show 0 ≤ at_ by omega)
    rw [tI_nat, Int.toNat_natCast]
    have hlen := R.len
    have hp : a / 512 < 128 := by omega
    by_cases hc : (A (a / 512)).c = 0
    · have ht : tkn A a = false := by unfold tkn; rw [hc]; rfl
      rw [ht]
      exact Block_zero hS a (a / 512) _ _ _ (by omega) (by omega) rfl hp (by rw [R.P _ hp]; unfold conc; rw [hc]; rfl)
    · have hC := R.wf.cc _ hc
      by_cases hm : a % (A (a / 512)).c = 0
      · have hg := gP_at (fl := (A (a / 512)).fl) hC hm
        have hw := word_and (gP (A (a / 512)) (a / 512)) (a % 512 / (A (a / 512)).c) (r_lt hC)
        refine (Block_in hS a (a / 512) (A (a / 512)).c ((tw (A (a / 512)) (a / 512) : Nat) : Int) _ _ (by omega) (by omega) rfl hp (by rw [R.P _ hp]; rfl) hC _ hw hm).mono ?_
        rintro e w' ⟨he, hB⟩
        refine ⟨?_, hB⟩
        rw [he]
        have ht : tkn A a = gP (A (a / 512)) (a / 512) (a % 512 / (A (a / 512)).c) := by
          rw [show gP (A (a / 512)) (a / 512) (a % 512 / (A (a / 512)).c) = _ from hg]
          unfold tkn
          have h1 : ((A (a / 512)).c != 0) = true := by rw [bne_iff_ne]; exact hc
          rw [h1, hm]; rfl
        rw [ht]
        cases gP (A (a / 512)) (a / 512) (a % 512 / (A (a / 512)).c)
        · rfl
        · have : (2 : Nat) ^ (a % 512 / (A (a / 512)).c) ≠ 0 := Nat.ne_of_gt (Nat.pow_pos (by omega))
          generalize (2 : Nat) ^ (a % 512 / (A (a / 512)).c) = y at *
          rw [if_pos rfl, if_pos rfl, if_neg (by omega)]
      · have ht : tkn A a = false := by
          unfold tkn
          rw [beq_eq_false_iff_ne.2 hm]; simp
        rw [ht]
        have := hC.pos
        exact Block_off hS a (a / 512) (A (a / 512)).c _ _ _ (by omega) (by omega) rfl hp (by rw [R.P _ hp]; rfl) (by omega) hm

theorem Free_no_st (S : St w0 w s pa pd pp n A bs) (at_ : Int) (h : tI A at_ = false) :
    Calls Tryd.prog 13 #[.pointer (some ⟨s, 0, none⟩), .int .i64 at_] w fun e w' => e = .returned (.int .i64 1) ∧ St w0 w' s pa pd pp n A bs ∧ Fr (S3 s pd pp) w w' := by
  have hB := Block_st S at_
  rw [h] at hB
  refine (Free_no _ _ hB).mono ?_
  rintro e w' ⟨he, hB⟩
  exact ⟨he, S.then_ hB, Fr.of_below hB⟩

theorem Free_yes (S : St w0 w s pa pd pp n A bs) (a : Nat) (h : tkn A a = true) :
    Calls Tryd.prog 13 #[.pointer (some ⟨s, 0, none⟩), .int .i64 (a : Int)] w fun e w' => e = .returned (.int .i64 0) ∧
      ∃ bs', St w0 w' s pa pd pp n (frd A a) bs' ∧ (∀ b j, tkn A b = true → b ≠ a → b ≤ j → j < b + (A (b / 512)).c → gb bs' j = gb bs j) ∧ Fr (S3 s pd pp) w w' := by
  have hB := Block_st S a
  rw [tI_nat, h, Int.toNat_natCast, if_pos rfl] at hB
  obtain ⟨f, P, hS, R⟩ := S.ex
  have n128 := R.wf.le
  have hlen := R.len
  have ⟨t1, t2, t3⟩ := tkn_iff.1 h
  have hC := R.wf.cc _ t1
  have hcp := hC.pos
  have hfit := R.wf.fits h
  have hu := R.wf.usd_le
  have husd := R.wf.usd_frd h
  have hgive := R.wf.mny_give h
  have hins := R.wf.ins t1
  have hp : a / 512 < 128 := by omega
  have hPp : P (a / 512) = ⟨((A (a / 512)).c : Int), ((tw (A (a / 512)) (a / 512) : Nat) : Int), ((mny (A (a / 512)) (a / 512) : Nat) : Int), (((A (a / 512)).fl.headD 0 : Nat) : Int)⟩ := R.P _ hp
  have hhd : (A (a / 512)).fl.headD 0 < 65536 := by
    cases hq : (A (a / 512)).fl with
    | nil => simp
    | cons x l =>
      have hx : x ∈ (A (a / 512)).fl := by rw [hq]; exact List.mem_cons_self ..
      have := (R.wf.mem _ x hx).1
      show x < 65536
      omega
  have hml := mny_le (A (a / 512)) (a / 512)
  have hms := R.wf.some_ _ t1
  have hin := inpage hC t2 rfl
  have keeps : ∀ (v : Int) b j, tkn A b = true → b ≠ a → b ≤ j → j < b + (A (b / 512)).c → gb (stA bs (a : Int) 4 v) j = gb bs j := fun v b j hb hne h1 h2 => by
    have ⟨u1, u2, u3⟩ := tkn_iff.1 hb
    have uC := R.wf.cc _ u1
    have uin := inpage uC u2 rfl
    have ucp := uC.pos
    refine gb_stA _ _ _ _ ?_
    by_cases e : b / 512 = a / 512
    · rw [e] at u2 h2
      rcases apart hC t2 u2 (fun x => hne x.symm) with k | k <;> omega
    · omega
  have links : ∀ (v : Int) i, i ≠ a / 512 → linked (stA bs (a : Int) 4 v) (A i).fl := fun v i hi => linked_congr (stA_length _ _ _ _) (fun b hb j h1 h2 => by
    obtain ⟨k1, k2, k3, k4⟩ := free_off R hb
    have kin := inpage k3 k2 k1
    have kcp := k3.pos
    exact gb_stA _ _ _ _ (by omega)) (R.link i)
  by_cases hm : mny (A (a / 512)) (a / 512) = 1
  · have hfr : frd A a = upd A (a / 512) ⟨0, []⟩ := by unfold frd; rw [if_pos hm]
    rw [hm] at hPp
    have hfp : f (a / 512) = true := by
      rw [R.f, decide_eq_true hins.2]
      have : ((A (a / 512)).c != 0) = true := by rw [bne_iff_ne]; exact t1
      rw [this]; simp
    refine (Free_last hS a (a / 512) (A (a / 512)).c _ _ rfl hp hPp hC hfit.1 (by omega) hB (by omega) (by omega) hins.2 hfp (by omega) (by omega)).mono ?_
    rintro e w' ⟨he, hS', hF⟩
    refine ⟨he, _, ⟨S.kept.fr hF S.s3, ⟨_, _, by rw [show ((usd (frd A a) n : Nat) : Int) = ((usd A n : Nat) : Int) - (((A (a / 512)).c : Nat) : Int) from by omega]; exact hS', ⟨R.wf.frd h, by rw [stA_length, hlen], fun i => ?_, fun i hi => ?_, fun i => ?_⟩⟩, S.new, S.tb⟩, keeps _, hF⟩
    · rw [hfr]
      by_cases e : i = a / 512
      · subst e
        rw [upd_same]
        have h0 : (a / 512 == 0) = false := beq_eq_false_iff_ne.2 (by omega)
        rw [h0]; simp
      · rw [upd_other _ _ e, beq_eq_false_iff_ne.2 e, R.f i]; simp
    · unfold updP
      rw [hfr]
      by_cases e : i = a / 512
      · subst e
        rw [if_pos rfl, upd_same]
        have h1 : tw ⟨0, []⟩ (a / 512) = 0 := by unfold tw; rw [gP_none]; exact wd_zero 32
        unfold conc
        rw [h1, mny_none]; rfl
      · rw [if_neg e, upd_other _ _ e]; exact R.P i hi
    · rw [hfr]
      by_cases e : i = a / 512
      · subst e; rw [upd_same]; trivial
      · rw [upd_other _ _ e]; exact links _ i e
  · have hfr : frd A a = upd A (a / 512) ⟨(A (a / 512)).c, a :: (A (a / 512)).fl⟩ := by unfold frd; rw [if_neg hm]
    refine (Free_more hS a (a / 512) (A (a / 512)).c _ _ _ rfl hp hPp hC hfit.1 (by omega) hB (by omega) (by omega) (by omega) (by omega) (by omega) (by omega)).mono ?_
    rintro e w' ⟨he, hS', hF⟩
    refine ⟨he, _, ⟨S.kept.fr hF S.s3, ⟨_, _, by rw [show ((usd (frd A a) n : Nat) : Int) = ((usd A n : Nat) : Int) - (((A (a / 512)).c : Nat) : Int) from by omega]; exact hS', ⟨R.wf.frd h, by rw [stA_length, hlen], fun i => ?_, fun i hi => ?_, fun i => ?_⟩⟩, S.new, S.tb⟩, keeps _, hF⟩
    · rw [hfr, R.f i]
      by_cases e : i = a / 512
      · subst e; rw [upd_same]
      · rw [upd_other _ _ e]
    · unfold updP
      rw [hfr]
      by_cases e : i = a / 512
      · subst e
        rw [if_pos rfl, upd_same]
        unfold conc
        have h1 := word_andNot (gP (A (a / 512)) (a / 512)) (a % 512 / (A (a / 512)).c) (r_lt hC)
        have h2 := gP_give (l := (A (a / 512)).fl) hC t2 t3
        show (⟨_, bits BinOp.andNot IntKind.u32 ((wd (gP (A (a / 512)) (a / 512)) 32 : Nat) : Int) _, _, _⟩ : Pg) = _
        rw [h1, hgive]
        unfold tw
        rw [h2]
        show (⟨_, _, (((mny ⟨(A (a / 512)).c, a :: (A (a / 512)).fl⟩ (a / 512) + 1 : Nat) : Int) - 1), _⟩ : Pg) = ⟨_, _, ((mny ⟨(A (a / 512)).c, a :: (A (a / 512)).fl⟩ (a / 512) : Nat) : Int), _⟩
        congr 1
        omega
      · rw [if_neg e, upd_other _ _ e]; exact R.P i hi
    · rw [hfr]
      by_cases e : i = a / 512
      · subst e
        rw [upd_same]
        refine linked_store (by omega) (fun b hb => ?_) hhd rfl (R.link _)
        have hb2 := R.wf.mem _ b hb
        rcases apart hC t2 hb2.2 (fun x => t3 (by have hb' := hb; rw [← x] at hb'; exact hb')) with k | k <;> omega
      · rw [upd_other _ _ e]; exact links _ i e

theorem Used_st (S : St w0 w s pa pd pp n A bs) :
    Calls Tryd.prog 18 #[.pointer (some ⟨s, 0, none⟩)] w fun e w' => e = .returned (.int .i64 ((usd A n : Nat) : Int)) ∧ w = w' := by
  obtain ⟨f, P, hS, R⟩ := S.ex
  exact Used_calls hS.sb
theorem Pages_st (S : St w0 w s pa pd pp n A bs) :
    Calls Tryd.prog 19 #[.pointer (some ⟨s, 0, none⟩)] w fun e w' => e = .returned (.int .i64 ((pgs A n : Nat) : Int)) ∧ Below w.heap.size w w' := by
  obtain ⟨f, P, hS, R⟩ := S.ex
  refine (Pages_calls hS.sb).mono ?_
  rintro e w' ⟨he, hB⟩
  refine ⟨?_, hB⟩
  rw [he]
  have e1 : cnt (fun i => decide (0 < (P i).c)) 128 = pgs A n := by
    unfold pgs
    rw [cnt_congr (fun i => decide (0 < (P i).c)) (fun i => (A i).c != 0) 128 (fun i hi => ?_)]
    · exact cnt_beyond _ n (fun i hi => by rw [R.wf.out i hi]; rfl) 128 R.wf.le
    · rw [R.P i hi]
      show decide ((0 : Int) < ((A i).c : Int)) = ((A i).c != 0)
      rw [Bool.eq_iff_iff, decide_eq_true_eq, bne_iff_ne]
      omega
  rw [e1]
theorem Arena_st (S : St w0 w s pa pd pp n A bs) :
    Calls Tryd.prog 14 #[.pointer (some ⟨s, 0, none⟩)] w fun e w' => e = .returned (.pointer (some ⟨pa, 0, none⟩)) ∧ w = w' := by
  obtain ⟨f, P, hS, R⟩ := S.ex
  exact SArena_calls hS.sb
/-- The arena filled within a block that is taken. -/
theorem Fill_st3 (S : St w0 w s pa pd pp n A bs) (a m : Nat) (v : Int) (h : tkn A a = true) (hm : m ≤ (A (a / 512)).c) (h0 : 0 ≤ v) (h1 : v ≤ 255) :
    Calls Tryd.prog 16 #[.pointer (some ⟨pa, 0, none⟩), .int .i64 (a : Int), .int .i64 (m : Int), .int .u8 v] w fun e w' =>
      e = .returned (.int .i64 0) ∧ St w0 w' s pa pd pp n A (fillA bs a m v) ∧ Fr (S3 s pd pp) w w' := by
  obtain ⟨f, P, hS, R⟩ := S.ex
  have hfit := R.wf.fits h
  have hcp := hfit.2.2.2.pos
  have hlen := R.len
  have ⟨t1, t2, t3⟩ := tkn_iff.1 h
  refine (Fill_any (a : Int) (m : Int) v w hS.ar (by omega) h0 h1).mono ?_
  rintro e w' ⟨he, hA, hg⟩
  have hF : Fr (S3 s pd pp) w w' := Fr.of_grown hg (fun j e => by injection e with e; exact .inr (.inr (.inl e.symm)))
  refine ⟨?_, ⟨S.kept.fr hF S.s3, ⟨f, P, hS.onA hA hg, ⟨R.wf, by rw [fillA_length, hlen], R.f, R.P, fun i => ?_⟩⟩, S.new, S.tb⟩, hF⟩
  · rw [he, rErr_ok (by omega) (by omega) (by omega)]
  · refine linked_congr (fillA_length _ _ _ _) (fun b hb j h1 h2 => gb_fillA _ _ _ _ _ ?_) (R.link i)
    obtain ⟨k1, k2, k3, k4⟩ := free_off R hb
    have kin := inpage k3 k2 k1
    have kcp := k3.pos
    by_cases e : i = a / 512
    · subst e
      rcases apart hfit.2.2.2 t2 k2 (fun x => t3 (by have hb' := hb; rw [← x] at hb'; exact hb')) with k | k <;> omega
    · omega
end
end Go.Proofs.YtbngmkopgoelbaaDoor

/- The slab (layer 3): the document's example holds. -/
set_option linter.unusedVariables false
set_option linter.unusedSimpArgs false
namespace Go.Proofs.YtbngmkopgoelbaaDoor
open Go.RowKit

def E1 : Nat → Ap := upd none0 1 ⟨16, (blks 1 16).tail⟩
def E2 : Nat → Ap := upd E1 1 ⟨16, (blks 1 16).tail.tail⟩
def E3 : Nat → Ap := upd E2 2 ⟨32, (blks 2 32).tail⟩
def E4 : Nat → Ap := frd E3 512
def E5 : Nat → Ap := upd E4 1 ⟨16, (E4 1).fl.tail⟩
theorem ex1 : allc none0 4 (cls 10) = some (512, E1) := by kernel_rfl
theorem ex2 : allc E1 4 (cls 16) = some (528, E2) := by kernel_rfl
theorem ex3 : allc E2 4 (cls 17) = some (1024, E3) := by kernel_rfl
theorem ex4 : tkn E3 512 = true := by kernel_rfl
theorem ex5 : allc E4 4 (cls 3) = some (512, E5) := by kernel_rfl
theorem ex6 : tI E5 528 = true := by kernel_rfl
theorem ex7 : (E5 ((528 : Int).toNat / 512)).c = 16 := by kernel_rfl
theorem ex8 : tI E5 529 = false := by kernel_rfl
theorem ex9 : usd E5 4 = 64 := by kernel_rfl

theorem Kept.frame {w0 w w1 : World} {s pa pd pp n : Nat} {A : Nat → Ap} {bs : List Int} (S : St w0 w s pa pd pp n A bs) (h : Fr (S3 s pd pp) w w1) : Kept w0 w1 := S.kept.fr h S.s3

set_option maxRecDepth 100000 in
set_option maxHeartbeats 1000000 in
theorem shown_calls (w : World) (T : Tb w) : Calls Tryd.prog 9 #[] w fun e w' => e = .returned (.bool true) ∧ Kept w w' := by
  have HT := Lib.hid T
  clear T
  go_enter Tryd.func9, Tryd.ntmps9
  go_wp2_with fail
  refine (SNew_st (Kept.refl w) HT.out 4 (by omega) (by omega)).mono ?_
  rintro e w1 ⟨s, pa, pd, pp, rfl, S1, _⟩
  have H1 := Lib.hid S1
  clear S1
  go_wp2_with fail
  refine (Alloc_some H1.out 10 512 (by omega) (by omega) ex1).mono ?_
  rintro e w2 ⟨rfl, b2, S2, _, _, _⟩
  have H2 := Lib.hid S2
  clear S2
  go_wp2_with fail
  refine (Alloc_some H2.out 16 528 (by omega) (by omega) ex2).mono ?_
  rintro e w3 ⟨rfl, b3, S3', _, _, _⟩
  have H3 := Lib.hid S3'
  clear S3'
  go_wp2_with fail
  refine (Alloc_some H3.out 17 1024 (by omega) (by omega) ex3).mono ?_
  rintro e w4 ⟨rfl, b4, S4, _, _, _⟩
  have H4 := Lib.hid S4
  clear S4
  go_wp2_with fail
  refine (Free_yes H4.out 512 ex4).mono ?_
  rintro e w5 ⟨rfl, b5, S5, _, _⟩
  have H5 := Lib.hid S5
  clear S5
  go_wp2_with fail
  refine (Alloc_some H5.out 3 512 (by omega) (by omega) ex5).mono ?_
  rintro e w6 ⟨rfl, b6, S6, _, _, _⟩
  have H6 := Lib.hid S6
  clear S6
  go_wp2_with fail
  refine (Block_st H6.out 528).mono ?_
  rintro e w7 ⟨rfl, hB7⟩
  rw [ex6, ex7, if_pos rfl]
  have H7 := Lib.hid (H6.out.then_ hB7)
  clear hB7
  go_wp2_with fail
  refine (Block_st H7.out 529).mono ?_
  rintro e w8 ⟨rfl, hB8⟩
  rw [ex8, if_neg (by decide)]
  have H8 := Lib.hid (H7.out.then_ hB8)
  clear hB8
  go_wp2_with fail
  refine (Used_st H8.out).mono ?_
  rintro e w9 ⟨rfl, rfl⟩
  rw [ex9]
  go_wp2
  go_ret
  exact ⟨rfl, H8.out.kept⟩
end Go.Proofs.YtbngmkopgoelbaaDoor
