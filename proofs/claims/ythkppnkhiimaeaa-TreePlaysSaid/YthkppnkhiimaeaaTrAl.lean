/- Lemmas of the claim TreePlays. -/
import Derived.Test.YthkppnkhiimaeaaTrP0
import Derived.Deep.QuietTactic
import Derived.BigQuiet
/- The law TreePlays: alike. -/
set_option linter.unusedVariables false
set_option linter.unusedSimpArgs false
namespace Go.Proofs.Ythkppnkhiimaeaa.PTreePlays
open Go.RowKit Go.Proofs.Ythkppnkhiimaeaa Go.Proofs.YthkppnkhiimaeaaW.PrintWords Go.Proofs.YthkppnkhiimaeaaW.PrintLast Go.Proofs.YthkppnkhiimaeaaW.PrintMore
theorem leaf_quiet (n : Int) (h0 : 0 ≤ n) (h1 : n ≤ 1000000) (w : World) (m : Nat) :
    Calls Try.prog 13 #[.int .i64 n] (w.drewN m) fun e w'' => e = .returned (.int .i64 (32 * n)) ∧ ∃ m, w'' = w.drewN m := by
  refine Calls.quiet_of_same ((leaf_calls n h0 h1 _).mono ?_)
  rintro e w' ⟨h, rfl⟩
  exact ⟨h, rfl⟩
set_option maxRecDepth 100000 in
set_option maxHeartbeats 4000000 in
theorem alike_calls {w0 w : World} {p d g0 : Nat} {P : Nat → Prop} {hv : Value} {N : Nat} {key kw : Int → Int} {l : List S80} {top : Int} {h : Hp} (S : Hs w0 w p d kw h) (M : Sm N key l top h) (L : Kd.R k80 80 w g0 P hv l) (hP : ∀ k, P k → k ≠ d) :
    Calls Try.prog 25 #[.pointer (some ⟨p, 0, none⟩), .agg #[hv, .int .i64 top]] w fun e w' => e = .returned (.bool true) ∧ Hs w0 w' p d kw h ∧ Kd1 w w' d := by
  obtain ⟨A0, c0, rfl, hc0, hC0⟩ := Kd.R_reads L
  have HS := Lib.hid S
  have HL := Lib.hid L
  have HM := Lib.hid M
  have hdw := S.new
  have HP := Lib.hid hP
  clear S L hP M hC0
  go_enter Try.func25, Try.ntmps25
  go_wp2_with fail
  have hBa : Below w.heap.size w (w.alloc (.cells #[.slice A0 l.length c0, .int .i64 top] 49)) := (Below.refl _ _).alloc (Nat.le_refl _) _
  have HXa : Hid (Xl (w.alloc (.cells #[.slice A0 l.length c0, .int .i64 top] 49)) w.heap.size (.slice A0 l.length c0) (.int .i64 top)) := Lib.hid (heap_alloc_new w _)
  have HSa := Lib.hid (HS.out.then_ hBa)
  have HLa := Lib.hid (Kd.R_below HL.out hBa)
  have HKa : Hid (Kd1 w (w.alloc (.cells #[.slice A0 l.length c0, .int .i64 top] 49)) d) := Lib.hid (kd_below hBa)
  have HGD : Hid (w.heap.size ≠ d) := Lib.hid (by omega)
  clear hBa HS HL hdw
  generalize (w.alloc (.cells #[.slice A0 l.length c0, .int .i64 top] 49)) = wa at *
  generalize w.heap.size = gb at *
  refine (Root_hs HSa.out).mono ?_
  rintro e w1 ⟨rfl, S1, hg1⟩
  have HK1 : Hid (Kd1 wa w1 d) := Lib.hid (kd_grown hg1)
  have HX1 := Lib.hid (HXa.out.kept HK1.out HGD.out)
  have HL1 := Lib.hid (Kd.R_kept HLa.out HK1.out (fun k hk e => HP.out k hk e))
  have HS1 := Lib.hid S1
  have htop : h.top = 32 * top := HM.out.tp
  have htr := HM.out.tr
  have hN40 := HM.out.le
  have hlen := HM.out.len
  subst hlen
  unfold rn at htr
  clear S1 hg1
  rw [htop]
  have hx1 := HX1.out.c1
  go_wp2_with fail
  refine (leaf_calls top htr.1 (by omega) _).mono ?_
  rintro e w2 ⟨rfl, rfl⟩
  clear hx1
  go_wp2_with fail
  have hu80 := Try.underlying80
  try go_simp
  go_loopw [7] (fun v wr => ∃ q : Nat, q ≤ l.length ∧ v = .int .i64 ((q : Int) + 1) ∧ Hs w0 wr p d kw h ∧ Kd1 wa wr d) (fun v _ => l.length + 1 - (intOf v).toNat)
  case atStart => exact ⟨0, by omega, rfl, HS1.out, HK1.out⟩
  case round =>
    obtain ⟨q, hq, rfl, hS, hK⟩ := hrel
    have HSr := Lib.hid hS
    have HKr := Lib.hid hK
    clear hS hK HSa HS1 HK1 HX1 HL1
    have HXr := Lib.hid (HXa.out.kept HKr.out HGD.out)
    have HLr := Lib.hid (Kd.R_kept HLa.out HKr.out (fun k hk e => HP.out k hk e))
    have hx0 := HXr.out.c0
    by_cases hqN : q < l.length
    · have hr0 := Kd.R_reads' HLr.out
      obtain ⟨ad, e, z0, z1, z2, z3, z4, z5⟩ := at_T80 hr0.2.2 (q : Int) (by omega) (by omega)
      subst e
      clear hr0
      simp only [Int.toNat_natCast] at z0 z1 z2 z3 z4 z5
      have hq1 : (q : Int) + 1 ≤ (l.length : Int) := by omega
      have hq2 : (q : Int) < (l.length : Int) := by omega
      have hb1 : decide ((q : Int) + 1 ≤ (l.length : Int)) = true := decide_eq_true (by omega)
      have hb2 : decide (0 ≤ (q : Int)) = true := decide_eq_true (by omega)
      have hb3 : decide ((q : Int) < (l.length : Int)) = true := decide_eq_true (by omega)
      have hw1 : IntKind.i64.wrap ((q : Int) + 1 - 1) = (q : Int) := by rw [IntKind.wrap_i64]; omega
      go_wp2_with fail
      have A : At l.length key (rd_T80 l (q : Int)) (32 * ((q : Int) + 1)) h := by
        have hh := HM.out.at_ ((q : Int) + 1) (by omega) (by omega)
        unfold G at hh
        rw [if_pos ⟨by omega, by omega⟩, show (q : Int) + 1 - 1 = (q : Int) from by omega] at hh
        exact hh
      have hn : isN (32 * ((q : Int) + 1)) := by unfold isN; omega
      clear z0 z1 z2 z3 z4 z5 hb1 hb2 hb3 hw1 hx0 hq2
      generalize rd_T80 l (q : Int) = x at *
      have hBb : Below wr.heap.size wr (wr.alloc (.cells #[.int .u64 x.f0, .int .i64 x.f1, .int .i64 x.f2, .int .i64 x.f3, .bool x.f4, .bool x.f5] 80)) := (Below.refl _ _).alloc (Nat.le_refl _) _
      have HXb : Hid (Xx (wr.alloc (.cells #[.int .u64 x.f0, .int .i64 x.f1, .int .i64 x.f2, .int .i64 x.f3, .bool x.f4, .bool x.f5] 80)) wr.heap.size x) := Lib.hid (heap_alloc_new wr _)
      have HSb := Lib.hid (HSr.out.then_ hBb)
      have HKb : Hid (Kd1 wa (wr.alloc (.cells #[.int .u64 x.f0, .int .i64 x.f1, .int .i64 x.f2, .int .i64 x.f3, .bool x.f4, .bool x.f5] 80)) d) := Lib.hid (HKr.out.trans (kd_below hBb))
      have HGX : Hid (wr.heap.size ≠ d) := Lib.hid (by have := HSr.out.new.2.1; omega)
      clear hBb HSr HKr HXr HLr
      generalize (wr.alloc (.cells #[.int .u64 x.f0, .int .i64 x.f1, .int .i64 x.f2, .int .i64 x.f3, .bool x.f4, .bool x.f5] 80)) = wb at *
      generalize wr.heap.size = gx at *
      refine (leaf_calls ((q : Int) + 1) (by omega) (by omega) _).mono ?_
      rintro e w2 ⟨rfl, rfl⟩
      have hf0 : h.ch false (32 * ((q : Int) + 1)) = 32 * x.f1 := A.c0
      have hf1 : h.ch true (32 * ((q : Int) + 1)) = 32 * x.f2 := A.c1
      have hfp : h.P (32 * ((q : Int) + 1)) = 32 * x.f3 := A.p
      have hfc : redH h (32 * ((q : Int) + 1)) = x.f5 := by
        unfold redH
        rw [A.c, show (32 * ((q : Int) + 1) != 0) = true from by rw [bne_iff_ne]; omega]
        cases x.f5 <;> rfl
      have hfo := A.o
      have hr1 := A.r1
      have hr2 := A.r2
      have hr3 := A.r3
      unfold rn at hr1 hr2 hr3
      clear A
      have HN := Lib.hid hn
      have hmb1 : 32 ≤ 32 * ((q : Int) + 1) := by omega
      have hmb2 : 32 * ((q : Int) + 1) ≤ 1280 := by omega
      clear hn
      generalize hm : 32 * ((q : Int) + 1) = m at *
      have HF0 := Lib.hid hf0
      have HF1 := Lib.hid hf1
      have HFP := Lib.hid hfp
      have HFC := Lib.hid hfc
      have HFO := Lib.hid hfo
      clear hf0 hf1 hfp hfc hfo
      have HMm := Lib.hid hm
      clear hm
      go_wp2_with fail
      refine (Child_hs HSb.out HN.out false).mono ?_
      rintro e v1 ⟨rfl, S0, hg0⟩
      rw [HF0.out]
      have HSc0 := Lib.hid S0
      have HKc0 := Lib.hid (HKb.out.trans (kd_grown hg0))
      have HXc0 := Lib.hid (HXb.out.kept (d := d) (kd_grown hg0) HGX.out)
      clear S0 hg0 HSb HKb HXb
      go_wp2_with fail
      refine (leaf_calls ((q : Int) + 1) (by omega) (by omega) _).mono ?_
      rintro e w2 ⟨rfl, rfl⟩
      rw [HMm.out]
      go_wp2_with fail
      refine (Child_hs HSc0.out HN.out true).mono ?_
      rintro e v2 ⟨rfl, S1, hg1⟩
      rw [HF1.out]
      have HSc1 := Lib.hid S1
      have HKc1 := Lib.hid (HKc0.out.trans (kd_grown hg1))
      have HXc1 := Lib.hid (HXc0.out.kept (d := d) (kd_grown hg1) HGX.out)
      clear S1 hg1 HSc0 HKc0 HXc0
      go_wp2_with fail
      refine (leaf_calls ((q : Int) + 1) (by omega) (by omega) _).mono ?_
      rintro e w2 ⟨rfl, rfl⟩
      rw [HMm.out]
      go_wp2_with fail
      refine (Owner_hs HSc1.out HN.out).mono ?_
      rintro e v3 ⟨rfl, S2, hg2⟩
      have HSc2 := Lib.hid S2
      have HKc2 := Lib.hid (HKc1.out.trans (kd_grown hg2))
      have HXc2 := Lib.hid (HXc1.out.kept (d := d) (kd_grown hg2) HGX.out)
      clear S2 hg2 HSc1 HKc1 HXc1
      go_wp2_with fail
      refine (leaf_calls ((q : Int) + 1) (by omega) (by omega) _).mono ?_
      rintro e w2 ⟨rfl, rfl⟩
      rw [HMm.out]
      go_wp2_with fail
      refine (Red_hs HSc2.out HN.out).mono ?_
      rintro e v4 ⟨rfl, S3, hg3⟩
      rw [HFC.out]
      have HSc3 := Lib.hid S3
      have HKc3 := Lib.hid (HKc2.out.trans (kd_grown hg3))
      have HXc3 := Lib.hid (HXc2.out.kept (d := d) (kd_grown hg3) HGX.out)
      clear S3 hg3 HSc2 HKc2 HXc2
      go_wp2_with fail
      refine (leaf_calls ((q : Int) + 1) (by omega) (by omega) _).mono ?_
      rintro e w2 ⟨rfl, rfl⟩
      rw [HMm.out]
      go_wp2_with fail
      refine (LoadUp_hs HSc3.out HN.out).mono ?_
      rintro e v5 ⟨rfl, S4, hg4⟩
      rw [HFP.out]
      have HSc4 := Lib.hid S4
      have HKc4 := Lib.hid (HKc3.out.trans (kd_below hg4))
      have HXc4 := Lib.hid (HXc3.out.kept (d := d) (kd_below hg4) HGX.out)
      clear S4 hg4 HSc3 HKc3 HXc3
      have hx1 := HXc4.out.c1
      have hx2 := HXc4.out.c2
      have hx3 := HXc4.out.c3
      have hx4 := HXc4.out.c4
      have hx5 := HXc4.out.c5
      have hup : IntKind.i64.wrap (32 * x.f3) = 32 * x.f3 := by rw [IntKind.wrap_i64]; omega
      obtain ⟨b4, hb4⟩ : ∃ b4, x.f4 = b4 := ⟨_, rfl⟩
      have hfo := HFO.out
      rw [hb4] at hx4 hfo
      clear hb4
      have hw1 : IntKind.i64.wrap ((q : Int) + 1) = (q : Int) + 1 := by rw [IntKind.wrap_i64]; omega
      generalize x.f1 = y1 at *
      generalize x.f2 = y2 at *
      generalize x.f3 = y3 at *
      generalize x.f5 = y5 at *
      obtain ⟨hr1a, hr1b⟩ := hr1
      obtain ⟨hr2a, hr2b⟩ := hr2
      obtain ⟨hr3a, hr3b⟩ := hr3
      have HHO : Hid (h.O m = if b4 = true then 8 else 0) := Lib.hid hfo
      clear hfo
      have HHX := Lib.hid hx1
      cases b4
      all_goals
        have ho := HHO.out
        first | rw [if_pos rfl] at ho | rw [if_neg (by decide)] at ho
        rw [ho]
        clear ho
        go_wp2_with fail
        refine (leaf_calls y1 (by omega) (by omega) _).mono ?_
        rintro e w2 ⟨rfl, rfl⟩
        go_wp2_with fail
        refine (leaf_calls y2 (by omega) (by omega) _).mono ?_
        rintro e w2 ⟨rfl, rfl⟩
        go_wp2_with fail
        refine (leaf_calls y3 (by omega) (by omega) _).mono ?_
        rintro e w2 ⟨rfl, rfl⟩
        go_wp2_with fail
        go_roundw
        case rel => exact ⟨q + 1, by omega, by go_num, HSc4.out, HKc4.out⟩
        case measure => simp [intOf]; omega
    · have hqe : q = l.length := by omega
      subst hqe
      have hb1 : decide (((l.length : Nat) : Int) + 1 ≤ ((l.length : Nat) : Int)) = false := decide_eq_false (by omega)
      go_wp2_with fail
      go_ret
      exact ⟨rfl, HSr.out, (HKa.out.trans HKr.out)⟩
end Go.Proofs.Ythkppnkhiimaeaa.PTreePlays
