/- The slab (layer 3): Free, Block, Used, Pages; the document's example. -/
import Derived.Test.YtbngmkopgoelbaaDoorSl12
set_option linter.unusedVariables false
set_option linter.unusedSimpArgs false
namespace Go.Proofs.YtbngmkopgoelbaaDoor
open Go.RowKit

/-- Is a place a block's that is taken? -/
def tI (A : Nat → Ap) (at_ : Int) : Bool := decide (0 ≤ at_) && tkn A at_.toNat
theorem tI_nat (A : Nat → Ap) (a : Nat) : tI A (a : Int) = tkn A a := by unfold tI; rw [decide_eq_true (by omega), Int.toNat_natCast]; rfl

section
variable {w0 w w1 : World} {s pa pd pp n : Nat} {A : Nat → Ap} {bs : List Int}
theorem Block_st (S : St w0 w s pa pd pp n A bs) (at_ : Int) :
    Calls Tryd.prog 12 #[.pointer (some ⟨s, 0, none⟩), .int .i64 at_] w fun e w' =>
      e = .returned (if tI A at_ then .tuple #[.int .i64 (((A (at_.toNat / 512)).c : Nat) : Int), .bool true] else .tuple #[.int .i64 0, .bool false]) ∧ Below w.heap.size w w' := by
  obtain ⟨f, P, hS, R⟩ := S.ex
  have n128 := R.wf.le
  by_cases ho : at_ < 512 ∨ (bs.length : Int) ≤ at_
  · have ht : tI A at_ = false := by
      cases ht : tI A at_
      · rfl
      · unfold tI at ht
        simp only [Bool.and_eq_true, decide_eq_true_eq] at ht
        have := R.wf.fits ht.2
        have := (this.2.2.2).pos
        have := R.len
        omega
    rw [ht]
    exact Block_out hS at_ ho
  · obtain ⟨a, rfl⟩ := Int.eq_ofNat_of_zero_le (show 0 ≤ at_ by omega)
    rw [tI_nat, Int.toNat_natCast]
    have hlen := R.len
    have hp : a / 512 < 128 := by omega
    by_cases hc : (A (a / 512)).c = 0
    · have ht : tkn A a = false := by unfold tkn; rw [hc]; rfl
      rw [ht]
      exact Block_zero hS a (a / 512) _ _ _ (by omega) (by omega) rfl hp (by rw [R.P _ hp]; unfold conc; rw [hc]; rfl)
    · have hC := R.wf.cc _ hc
      by_cases hm : a % (A (a / 512)).c = 0
      · have hg := gP_at (fl := (A (a / 512)).fl) hC hm
        have hw := word_and (gP (A (a / 512)) (a / 512)) (a % 512 / (A (a / 512)).c) (r_lt hC)
        refine (Block_in hS a (a / 512) (A (a / 512)).c ((tw (A (a / 512)) (a / 512) : Nat) : Int) _ _ (by omega) (by omega) rfl hp (by rw [R.P _ hp]; rfl) hC _ hw hm).mono ?_
        rintro e w' ⟨he, hB⟩
        refine ⟨?_, hB⟩
        rw [he]
        have ht : tkn A a = gP (A (a / 512)) (a / 512) (a % 512 / (A (a / 512)).c) := by
          rw [show gP (A (a / 512)) (a / 512) (a % 512 / (A (a / 512)).c) = _ from hg]
          unfold tkn
          have h1 : ((A (a / 512)).c != 0) = true := by rw [bne_iff_ne]; exact hc
          rw [h1, hm]; rfl
        rw [ht]
        cases gP (A (a / 512)) (a / 512) (a % 512 / (A (a / 512)).c)
        · rfl
        · have : (2 : Nat) ^ (a % 512 / (A (a / 512)).c) ≠ 0 := Nat.ne_of_gt (Nat.pow_pos (by omega))
          generalize (2 : Nat) ^ (a % 512 / (A (a / 512)).c) = y at *
          rw [if_pos rfl, if_pos rfl, if_neg (by omega)]
      · have ht : tkn A a = false := by
          unfold tkn
          rw [beq_eq_false_iff_ne.2 hm]; simp
        rw [ht]
        have := hC.pos
        exact Block_off hS a (a / 512) (A (a / 512)).c _ _ _ (by omega) (by omega) rfl hp (by rw [R.P _ hp]; rfl) (by omega) hm

theorem Free_no_st (S : St w0 w s pa pd pp n A bs) (at_ : Int) (h : tI A at_ = false) :
    Calls Tryd.prog 13 #[.pointer (some ⟨s, 0, none⟩), .int .i64 at_] w fun e w' => e = .returned (.int .i64 1) ∧ St w0 w' s pa pd pp n A bs ∧ Fr (S3 s pd pp) w w' := by
  have hB := Block_st S at_
  rw [h] at hB
  refine (Free_no _ _ hB).mono ?_
  rintro e w' ⟨he, hB⟩
  exact ⟨he, S.then_ hB, Fr.of_below hB⟩

theorem Free_yes (S : St w0 w s pa pd pp n A bs) (a : Nat) (h : tkn A a = true) :
    Calls Tryd.prog 13 #[.pointer (some ⟨s, 0, none⟩), .int .i64 (a : Int)] w fun e w' => e = .returned (.int .i64 0) ∧
      ∃ bs', St w0 w' s pa pd pp n (frd A a) bs' ∧ (∀ b j, tkn A b = true → b ≠ a → b ≤ j → j < b + (A (b / 512)).c → gb bs' j = gb bs j) ∧ Fr (S3 s pd pp) w w' := by
  have hB := Block_st S a
  rw [tI_nat, h, Int.toNat_natCast, if_pos rfl] at hB
  obtain ⟨f, P, hS, R⟩ := S.ex
  have n128 := R.wf.le
  have hlen := R.len
  have ⟨t1, t2, t3⟩ := tkn_iff.1 h
  have hC := R.wf.cc _ t1
  have hcp := hC.pos
  have hfit := R.wf.fits h
  have hu := R.wf.usd_le
  have husd := R.wf.usd_frd h
  have hgive := R.wf.mny_give h
  have hins := R.wf.ins t1
  have hp : a / 512 < 128 := by omega
  have hPp : P (a / 512) = ⟨((A (a / 512)).c : Int), ((tw (A (a / 512)) (a / 512) : Nat) : Int), ((mny (A (a / 512)) (a / 512) : Nat) : Int), (((A (a / 512)).fl.headD 0 : Nat) : Int)⟩ := R.P _ hp
  have hhd : (A (a / 512)).fl.headD 0 < 65536 := by
    cases hq : (A (a / 512)).fl with
    | nil => simp
    | cons x l =>
      have hx : x ∈ (A (a / 512)).fl := by rw [hq]; exact List.mem_cons_self ..
      have := (R.wf.mem _ x hx).1
      show x < 65536
      omega
  have hml := mny_le (A (a / 512)) (a / 512)
  have hms := R.wf.some_ _ t1
  have hin := inpage hC t2 rfl
  have keeps : ∀ (v : Int) b j, tkn A b = true → b ≠ a → b ≤ j → j < b + (A (b / 512)).c → gb (stA bs (a : Int) 4 v) j = gb bs j := fun v b j hb hne h1 h2 => by
    have ⟨u1, u2, u3⟩ := tkn_iff.1 hb
    have uC := R.wf.cc _ u1
    have uin := inpage uC u2 rfl
    have ucp := uC.pos
    refine gb_stA _ _ _ _ ?_
    by_cases e : b / 512 = a / 512
    · rw [e] at u2 h2
      rcases apart hC t2 u2 (fun x => hne x.symm) with k | k <;> omega
    · omega
  have links : ∀ (v : Int) i, i ≠ a / 512 → linked (stA bs (a : Int) 4 v) (A i).fl := fun v i hi => linked_congr (stA_length _ _ _ _) (fun b hb j h1 h2 => by
    obtain ⟨k1, k2, k3, k4⟩ := free_off R hb
    have kin := inpage k3 k2 k1
    have kcp := k3.pos
    exact gb_stA _ _ _ _ (by omega)) (R.link i)
  by_cases hm : mny (A (a / 512)) (a / 512) = 1
  · have hfr : frd A a = upd A (a / 512) ⟨0, []⟩ := by unfold frd; rw [if_pos hm]
    rw [hm] at hPp
    have hfp : f (a / 512) = true := by
      rw [R.f, decide_eq_true hins.2]
      have : ((A (a / 512)).c != 0) = true := by rw [bne_iff_ne]; exact t1
      rw [this]; simp
    refine (Free_last hS a (a / 512) (A (a / 512)).c _ _ rfl hp hPp hC hfit.1 (by omega) hB (by omega) (by omega) hins.2 hfp (by omega) (by omega)).mono ?_
    rintro e w' ⟨he, hS', hF⟩
    refine ⟨he, _, ⟨S.kept.fr hF S.s3, ⟨_, _, by rw [show ((usd (frd A a) n : Nat) : Int) = ((usd A n : Nat) : Int) - (((A (a / 512)).c : Nat) : Int) from by omega]; exact hS', ⟨R.wf.frd h, by rw [stA_length, hlen], fun i => ?_, fun i hi => ?_, fun i => ?_⟩⟩, S.new, S.tb⟩, keeps _, hF⟩
    · rw [hfr]
      by_cases e : i = a / 512
      · subst e
        rw [upd_same]
        have h0 : (a / 512 == 0) = false := beq_eq_false_iff_ne.2 (by omega)
        rw [h0]; simp
      · rw [upd_other _ _ e, beq_eq_false_iff_ne.2 e, R.f i]; simp
    · unfold updP
      rw [hfr]
      by_cases e : i = a / 512
      · subst e
        rw [if_pos rfl, upd_same]
        have h1 : tw ⟨0, []⟩ (a / 512) = 0 := by unfold tw; rw [gP_none]; exact wd_zero 32
        unfold conc
        rw [h1, mny_none]; rfl
      · rw [if_neg e, upd_other _ _ e]; exact R.P i hi
    · rw [hfr]
      by_cases e : i = a / 512
      · subst e; rw [upd_same]; trivial
      · rw [upd_other _ _ e]; exact links _ i e
  · have hfr : frd A a = upd A (a / 512) ⟨(A (a / 512)).c, a :: (A (a / 512)).fl⟩ := by unfold frd; rw [if_neg hm]
    refine (Free_more hS a (a / 512) (A (a / 512)).c _ _ _ rfl hp hPp hC hfit.1 (by omega) hB (by omega) (by omega) (by omega) (by omega) (by omega) (by omega)).mono ?_
    rintro e w' ⟨he, hS', hF⟩
    refine ⟨he, _, ⟨S.kept.fr hF S.s3, ⟨_, _, by rw [show ((usd (frd A a) n : Nat) : Int) = ((usd A n : Nat) : Int) - (((A (a / 512)).c : Nat) : Int) from by omega]; exact hS', ⟨R.wf.frd h, by rw [stA_length, hlen], fun i => ?_, fun i hi => ?_, fun i => ?_⟩⟩, S.new, S.tb⟩, keeps _, hF⟩
    · rw [hfr, R.f i]
      by_cases e : i = a / 512
      · subst e; rw [upd_same]
      · rw [upd_other _ _ e]
    · unfold updP
      rw [hfr]
      by_cases e : i = a / 512
      · subst e
        rw [if_pos rfl, upd_same]
        unfold conc
        have h1 := word_andNot (gP (A (a / 512)) (a / 512)) (a % 512 / (A (a / 512)).c) (r_lt hC)
        have h2 := gP_give (l := (A (a / 512)).fl) hC t2 t3
        show (⟨_, bits BinOp.andNot IntKind.u32 ((wd (gP (A (a / 512)) (a / 512)) 32 : Nat) : Int) _, _, _⟩ : Pg) = _
        rw [h1, hgive]
        unfold tw
        rw [h2]
        show (⟨_, _, (((mny ⟨(A (a / 512)).c, a :: (A (a / 512)).fl⟩ (a / 512) + 1 : Nat) : Int) - 1), _⟩ : Pg) = ⟨_, _, ((mny ⟨(A (a / 512)).c, a :: (A (a / 512)).fl⟩ (a / 512) : Nat) : Int), _⟩
        congr 1
        omega
      · rw [if_neg e, upd_other _ _ e]; exact R.P i hi
    · rw [hfr]
      by_cases e : i = a / 512
      · subst e
        rw [upd_same]
        refine linked_store (by omega) (fun b hb => ?_) hhd rfl (R.link _)
        have hb2 := R.wf.mem _ b hb
        rcases apart hC t2 hb2.2 (fun x => t3 (by have hb' := hb; rw [← x] at hb'; exact hb')) with k | k <;> omega
      · rw [upd_other _ _ e]; exact links _ i e

theorem Used_st (S : St w0 w s pa pd pp n A bs) :
    Calls Tryd.prog 18 #[.pointer (some ⟨s, 0, none⟩)] w fun e w' => e = .returned (.int .i64 ((usd A n : Nat) : Int)) ∧ w = w' := by
  obtain ⟨f, P, hS, R⟩ := S.ex
  exact Used_calls hS.sb
theorem Pages_st (S : St w0 w s pa pd pp n A bs) :
    Calls Tryd.prog 19 #[.pointer (some ⟨s, 0, none⟩)] w fun e w' => e = .returned (.int .i64 ((pgs A n : Nat) : Int)) ∧ Below w.heap.size w w' := by
  obtain ⟨f, P, hS, R⟩ := S.ex
  refine (Pages_calls hS.sb).mono ?_
  rintro e w' ⟨he, hB⟩
  refine ⟨?_, hB⟩
  rw [he]
  have e1 : cnt (fun i => decide (0 < (P i).c)) 128 = pgs A n := by
    unfold pgs
    rw [cnt_congr (fun i => decide (0 < (P i).c)) (fun i => (A i).c != 0) 128 (fun i hi => ?_)]
    · exact cnt_beyond _ n (fun i hi => by rw [R.wf.out i hi]; rfl) 128 R.wf.le
    · rw [R.P i hi]
      show decide ((0 : Int) < ((A i).c : Int)) = ((A i).c != 0)
      rw [Bool.eq_iff_iff, decide_eq_true_eq, bne_iff_ne]
      omega
  rw [e1]
theorem Arena_st (S : St w0 w s pa pd pp n A bs) :
    Calls Tryd.prog 14 #[.pointer (some ⟨s, 0, none⟩)] w fun e w' => e = .returned (.pointer (some ⟨pa, 0, none⟩)) ∧ w = w' := by
  obtain ⟨f, P, hS, R⟩ := S.ex
  exact SArena_calls hS.sb
/-- The arena filled within a block that is taken. -/
theorem Fill_st3 (S : St w0 w s pa pd pp n A bs) (a m : Nat) (v : Int) (h : tkn A a = true) (hm : m ≤ (A (a / 512)).c) (h0 : 0 ≤ v) (h1 : v ≤ 255) :
    Calls Tryd.prog 16 #[.pointer (some ⟨pa, 0, none⟩), .int .i64 (a : Int), .int .i64 (m : Int), .int .u8 v] w fun e w' =>
      e = .returned (.int .i64 0) ∧ St w0 w' s pa pd pp n A (fillA bs a m v) ∧ Fr (S3 s pd pp) w w' := by
  obtain ⟨f, P, hS, R⟩ := S.ex
  have hfit := R.wf.fits h
  have hcp := hfit.2.2.2.pos
  have hlen := R.len
  have ⟨t1, t2, t3⟩ := tkn_iff.1 h
  refine (Fill_any (a : Int) (m : Int) v w hS.ar (by omega) h0 h1).mono ?_
  rintro e w' ⟨he, hA, hg⟩
  have hF : Fr (S3 s pd pp) w w' := Fr.of_grown hg (fun j e => by injection e with e; exact .inr (.inr (.inl e.symm)))
  refine ⟨?_, ⟨S.kept.fr hF S.s3, ⟨f, P, hS.onA hA hg, ⟨R.wf, by rw [fillA_length, hlen], R.f, R.P, fun i => ?_⟩⟩, S.new, S.tb⟩, hF⟩
  · rw [he, rErr_ok (by omega) (by omega) (by omega)]
  · refine linked_congr (fillA_length _ _ _ _) (fun b hb j h1 h2 => gb_fillA _ _ _ _ _ ?_) (R.link i)
    obtain ⟨k1, k2, k3, k4⟩ := free_off R hb
    have kin := inpage k3 k2 k1
    have kcp := k3.pos
    by_cases e : i = a / 512
    · subst e
      rcases apart hfit.2.2.2 t2 k2 (fun x => t3 (by have hb' := hb; rw [← x] at hb'; exact hb')) with k | k <;> omega
    · omega
end
end Go.Proofs.YtbngmkopgoelbaaDoor
