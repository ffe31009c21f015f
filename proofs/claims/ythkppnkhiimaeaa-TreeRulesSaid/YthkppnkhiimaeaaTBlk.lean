/- TreeRules: blacks: as many on each way down. -/
import Derived.Test.YthkppnkhiimaeaaTDeep
set_option linter.unusedVariables false
set_option linter.unusedSimpArgs false
namespace Go.Proofs.Ythkppnkhiimaeaa
open Go.RowKit

theorem rt_cases {h : Hp} {q : Int} {t : Bt} (R : Rep h q t) : (t.rt = 0 ∧ t.red = false) ∨ (isN t.rt ∧ redH h t.rt = t.red) := by
  cases t with
  | nil => exact .inl ⟨rfl, rfl⟩
  | node c l n r => exact .inr ⟨R.1, redH_rt R⟩

set_option maxRecDepth 100000 in
set_option maxHeartbeats 4000000 in
theorem blacks_hs {w0 : World} {p d : Nat} {kw : Int → Int} {h : Hp} : ∀ (t : Bt) (q : Int) (m k : Nat) (w : World), Hs w0 w p d kw h → Rep h q t → ok t k → dep t ≤ m → m ≤ 50 →
    Calls Try.prog 18 #[.pointer (some ⟨p, 0, none⟩), .int .i64 t.rt, .int .i64 (m : Int)] w fun e w' => e = .returned (.int .i64 (k : Nat)) ∧ Hs w0 w' p d kw h ∧ w.grownBy w' (some d)
  | .nil, q, m, k, w, S, R, hk, hm, h50 => by
    have HS := Lib.hid S
    obtain rfl : k = 0 := hk
    clear S
    show Calls _ _ #[.pointer (some ⟨p, 0, none⟩), .int .i64 0, .int .i64 (m : Int)] w _
    go_enter Try.func18, Try.ntmps18
    go_wp2
    go_ret
    exact ⟨rfl, HS.out, only_of_below (Below.refl _ _) _⟩
  | .node c l n r, q, m, k, w, S, R, hk, hm, h50 => by
    have hrn : redH h n = c := redH_rt R
    obtain ⟨h1, h2, h3, h4, h5, h6, h7, h8⟩ := R
    have hm1 : 1 ≤ m := by unfold dep at hm; omega
    have hl : dep l ≤ m - 1 := by unfold dep at hm; split at hm <;> omega
    have hr : dep r ≤ m - 1 := by unfold dep at hm; split at hm <;> omega
    have hkb : k ≤ 50 := by
      have : ∀ (t : Bt) (k : Nat), ok t k → k ≤ dep t := by
        intro t
        induction t with
        | nil => intro k h; obtain rfl : k = 0 := h; omega
        | node c l n r il ir =>
          intro k h
          cases c
          · obtain ⟨j, rfl, a, b⟩ := h
            have := il j a
            unfold dep; split <;> omega
          · have := il k h.1
            unfold dep; split <;> omega
      have := this _ _ hk
      omega
    have hnb : (n == 0) = false := beq_eq_false_iff_ne.2 h1.ne0
    have hmb : ((m : Int) == 0) = false := beq_eq_false_iff_ne.2 (by omega)
    have hmm : (m : Int) - 1 = ((m - 1 : Nat) : Int) := by omega
    have HMM := Lib.hid hmm
    have HS0 := Lib.hid S
    have HN := Lib.hid h1
    have H5 := Lib.hid h5
    have H6 := Lib.hid h6
    have HR := Lib.hid hrn
    have hlc := rt_cases h7
    have hrc := rt_cases h8
    show Calls _ _ #[.pointer (some ⟨p, 0, none⟩), .int .i64 n, .int .i64 (m : Int)] w _
    cases c
    · -- black
      obtain ⟨j, rfl, k1, k2⟩ := hk
      have il := Lib.hid (fun (w : World) (S : Hs w0 w p d kw h) => blacks_hs l n (m - 1) j w S h7 k1 hl (by omega))
      have ir := Lib.hid (fun (w : World) (S : Hs w0 w p d kw h) => blacks_hs r n (m - 1) j w S h8 k2 hr (by omega))
      clear S h1 h2 h3 h4 h5 h6 h7 h8 hm hl hr hmm hrn k1 k2
      rcases hlc with ⟨hl0, hlr⟩ | ⟨hlN, hlr⟩
      · rw [hl0] at H5 il
        clear hl0 hlr
        rcases hrc with ⟨hr0, hrr⟩ | ⟨hrN, hrr⟩
        · rw [hr0] at H6 ir
          clear hr0 hrr
          go_enter Try.func18, Try.ntmps18
          go_wp2_with fail
          refine (Child_hs HS0.out HN.out false).mono ?_
          rintro e w1 ⟨rfl, S1, hg⟩
          rw [H5.out]
          have HS1 := Lib.hid S1
          have HG1 := Lib.hid (hg)
          clear S1 hg
          go_wp2_with fail
          refine (Child_hs HS1.out HN.out true).mono ?_
          rintro e w2 ⟨rfl, S2, hg⟩
          rw [H6.out]
          have HS2 := Lib.hid S2
          have HG2 := Lib.hid (HG1.out.trans hg)
          clear S2 hg
          go_wp2_with fail
          refine (Red_hs HS2.out HN.out).mono ?_
          rintro e w3 ⟨rfl, S3, hg⟩
          rw [HR.out]
          have HS3 := Lib.hid S3
          have HG3 := Lib.hid (HG2.out.trans hg)
          clear S3 hg
          go_wp2_with fail
          rw [HMM.out]
          refine (il.out _ HS3.out).mono ?_
          rintro e w4 ⟨rfl, S4, hg⟩
          have HS4 := Lib.hid S4
          have HG4 := Lib.hid (HG3.out.trans hg)
          clear S4 hg
          go_wp2_with fail
          rw [HMM.out]
          refine (ir.out _ HS4.out).mono ?_
          rintro e w5 ⟨rfl, S5, hg⟩
          have HS5 := Lib.hid S5
          have HG5 := Lib.hid (HG4.out.trans hg)
          clear S5 hg
          go_wp2
          go_ret
          exact ⟨ret_int (by simp), HS5.out, HG5.out⟩
        · have HRN := Lib.hid hrN
          obtain ⟨rr, hrv⟩ : ∃ x, r.rt = x := ⟨_, rfl⟩
          rw [hrv] at H6 ir hrr HRN
          have hrb : (rr != 0) = true := by rw [bne_iff_ne]; exact HRN.out.ne0
          obtain ⟨rc, hrcv⟩ : ∃ x, r.red = x := ⟨_, rfl⟩
          rw [hrcv] at hrr
          have HRR := Lib.hid hrr
          clear hrr hrv hrN hrcv
          go_enter Try.func18, Try.ntmps18
          go_wp2_with fail
          refine (Child_hs HS0.out HN.out false).mono ?_
          rintro e w1 ⟨rfl, S1, hg⟩
          rw [H5.out]
          have HS1 := Lib.hid S1
          have HG1 := Lib.hid (hg)
          clear S1 hg
          go_wp2_with fail
          refine (Child_hs HS1.out HN.out true).mono ?_
          rintro e w2 ⟨rfl, S2, hg⟩
          rw [H6.out]
          have HS2 := Lib.hid S2
          have HG2 := Lib.hid (HG1.out.trans hg)
          clear S2 hg
          go_wp2_with fail
          refine (Red_hs HS2.out HN.out).mono ?_
          rintro e w3 ⟨rfl, S3, hg⟩
          rw [HR.out]
          have HS3 := Lib.hid S3
          have HG3 := Lib.hid (HG2.out.trans hg)
          clear S3 hg
          go_wp2_with fail
          refine (Red_hs HS3.out HRN.out).mono ?_
          rintro e w4 ⟨rfl, S4, hg⟩
          rw [HRR.out]
          have HS4 := Lib.hid S4
          have HG4 := Lib.hid (HG3.out.trans hg)
          clear S4 hg
          go_wp2_with fail
          rw [HMM.out]
          refine (il.out _ HS4.out).mono ?_
          rintro e w5 ⟨rfl, S5, hg⟩
          have HS5 := Lib.hid S5
          have HG5 := Lib.hid (HG4.out.trans hg)
          clear S5 hg
          go_wp2_with fail
          rw [HMM.out]
          refine (ir.out _ HS5.out).mono ?_
          rintro e w6 ⟨rfl, S6, hg⟩
          have HS6 := Lib.hid S6
          have HG6 := Lib.hid (HG5.out.trans hg)
          clear S6 hg
          go_wp2
          go_ret
          exact ⟨ret_int (by simp), HS6.out, HG6.out⟩
      · have HL := Lib.hid hlN
        obtain ⟨lr, hlv⟩ : ∃ x, l.rt = x := ⟨_, rfl⟩
        rw [hlv] at H5 il hlr HL
        have hlb : (lr != 0) = true := by rw [bne_iff_ne]; exact HL.out.ne0
        obtain ⟨lc, hlcv⟩ : ∃ x, l.red = x := ⟨_, rfl⟩
        rw [hlcv] at hlr
        have HLR := Lib.hid hlr
        clear hlr hlv hlN hlcv
        rcases hrc with ⟨hr0, hrr⟩ | ⟨hrN, hrr⟩
        · rw [hr0] at H6 ir
          clear hr0 hrr
          go_enter Try.func18, Try.ntmps18
          go_wp2_with fail
          refine (Child_hs HS0.out HN.out false).mono ?_
          rintro e w1 ⟨rfl, S1, hg⟩
          rw [H5.out]
          have HS1 := Lib.hid S1
          have HG1 := Lib.hid (hg)
          clear S1 hg
          go_wp2_with fail
          refine (Child_hs HS1.out HN.out true).mono ?_
          rintro e w2 ⟨rfl, S2, hg⟩
          rw [H6.out]
          have HS2 := Lib.hid S2
          have HG2 := Lib.hid (HG1.out.trans hg)
          clear S2 hg
          go_wp2_with fail
          refine (Red_hs HS2.out HN.out).mono ?_
          rintro e w3 ⟨rfl, S3, hg⟩
          rw [HR.out]
          have HS3 := Lib.hid S3
          have HG3 := Lib.hid (HG2.out.trans hg)
          clear S3 hg
          go_wp2_with fail
          refine (Red_hs HS3.out HL.out).mono ?_
          rintro e w4 ⟨rfl, S4, hg⟩
          rw [HLR.out]
          have HS4 := Lib.hid S4
          have HG4 := Lib.hid (HG3.out.trans hg)
          clear S4 hg
          go_wp2_with fail
          rw [HMM.out]
          refine (il.out _ HS4.out).mono ?_
          rintro e w5 ⟨rfl, S5, hg⟩
          have HS5 := Lib.hid S5
          have HG5 := Lib.hid (HG4.out.trans hg)
          clear S5 hg
          go_wp2_with fail
          rw [HMM.out]
          refine (ir.out _ HS5.out).mono ?_
          rintro e w6 ⟨rfl, S6, hg⟩
          have HS6 := Lib.hid S6
          have HG6 := Lib.hid (HG5.out.trans hg)
          clear S6 hg
          go_wp2
          go_ret
          exact ⟨ret_int (by simp), HS6.out, HG6.out⟩
        · have HRN := Lib.hid hrN
          obtain ⟨rr, hrv⟩ : ∃ x, r.rt = x := ⟨_, rfl⟩
          rw [hrv] at H6 ir hrr HRN
          have hrb : (rr != 0) = true := by rw [bne_iff_ne]; exact HRN.out.ne0
          obtain ⟨rc, hrcv⟩ : ∃ x, r.red = x := ⟨_, rfl⟩
          rw [hrcv] at hrr
          have HRR := Lib.hid hrr
          clear hrr hrv hrN hrcv
          go_enter Try.func18, Try.ntmps18
          go_wp2_with fail
          refine (Child_hs HS0.out HN.out false).mono ?_
          rintro e w1 ⟨rfl, S1, hg⟩
          rw [H5.out]
          have HS1 := Lib.hid S1
          have HG1 := Lib.hid (hg)
          clear S1 hg
          go_wp2_with fail
          refine (Child_hs HS1.out HN.out true).mono ?_
          rintro e w2 ⟨rfl, S2, hg⟩
          rw [H6.out]
          have HS2 := Lib.hid S2
          have HG2 := Lib.hid (HG1.out.trans hg)
          clear S2 hg
          go_wp2_with fail
          refine (Red_hs HS2.out HN.out).mono ?_
          rintro e w3 ⟨rfl, S3, hg⟩
          rw [HR.out]
          have HS3 := Lib.hid S3
          have HG3 := Lib.hid (HG2.out.trans hg)
          clear S3 hg
          go_wp2_with fail
          refine (Red_hs HS3.out HL.out).mono ?_
          rintro e w4 ⟨rfl, S4, hg⟩
          rw [HLR.out]
          have HS4 := Lib.hid S4
          have HG4 := Lib.hid (HG3.out.trans hg)
          clear S4 hg
          go_wp2_with fail
          refine (Red_hs HS4.out HRN.out).mono ?_
          rintro e w5 ⟨rfl, S5, hg⟩
          rw [HRR.out]
          have HS5 := Lib.hid S5
          have HG5 := Lib.hid (HG4.out.trans hg)
          clear S5 hg
          go_wp2_with fail
          rw [HMM.out]
          refine (il.out _ HS5.out).mono ?_
          rintro e w6 ⟨rfl, S6, hg⟩
          have HS6 := Lib.hid S6
          have HG6 := Lib.hid (HG5.out.trans hg)
          clear S6 hg
          go_wp2_with fail
          rw [HMM.out]
          refine (ir.out _ HS6.out).mono ?_
          rintro e w7 ⟨rfl, S7, hg⟩
          have HS7 := Lib.hid S7
          have HG7 := Lib.hid (HG6.out.trans hg)
          clear S7 hg
          go_wp2
          go_ret
          exact ⟨ret_int (by simp), HS7.out, HG7.out⟩
    · -- red
      obtain ⟨k1, k2, hcl, hcr⟩ := hk
      have il := Lib.hid (fun (w : World) (S : Hs w0 w p d kw h) => blacks_hs l n (m - 1) k w S h7 k1 hl (by omega))
      have ir := Lib.hid (fun (w : World) (S : Hs w0 w p d kw h) => blacks_hs r n (m - 1) k w S h8 k2 hr (by omega))
      clear S h1 h2 h3 h4 h5 h6 h7 h8 hm hl hr hmm hrn k1 k2
      rcases hlc with ⟨hl0, hlr⟩ | ⟨hlN, hlr⟩
      · rw [hl0] at H5 il
        clear hl0 hlr
        rcases hrc with ⟨hr0, hrr⟩ | ⟨hrN, hrr⟩
        · rw [hr0] at H6 ir
          clear hr0 hrr
          go_enter Try.func18, Try.ntmps18
          go_wp2_with fail
          refine (Child_hs HS0.out HN.out false).mono ?_
          rintro e w1 ⟨rfl, S1, hg⟩
          rw [H5.out]
          have HS1 := Lib.hid S1
          have HG1 := Lib.hid (hg)
          clear S1 hg
          go_wp2_with fail
          refine (Child_hs HS1.out HN.out true).mono ?_
          rintro e w2 ⟨rfl, S2, hg⟩
          rw [H6.out]
          have HS2 := Lib.hid S2
          have HG2 := Lib.hid (HG1.out.trans hg)
          clear S2 hg
          go_wp2_with fail
          refine (Red_hs HS2.out HN.out).mono ?_
          rintro e w3 ⟨rfl, S3, hg⟩
          rw [HR.out]
          have HS3 := Lib.hid S3
          have HG3 := Lib.hid (HG2.out.trans hg)
          clear S3 hg
          go_wp2_with fail
          rw [HMM.out]
          refine (il.out _ HS3.out).mono ?_
          rintro e w4 ⟨rfl, S4, hg⟩
          have HS4 := Lib.hid S4
          have HG4 := Lib.hid (HG3.out.trans hg)
          clear S4 hg
          go_wp2_with fail
          rw [HMM.out]
          refine (ir.out _ HS4.out).mono ?_
          rintro e w5 ⟨rfl, S5, hg⟩
          have HS5 := Lib.hid S5
          have HG5 := Lib.hid (HG4.out.trans hg)
          clear S5 hg
          go_wp2
          go_ret
          exact ⟨ret_int (by simp), HS5.out, HG5.out⟩
        · have HRN := Lib.hid hrN
          obtain ⟨rr, hrv⟩ : ∃ x, r.rt = x := ⟨_, rfl⟩
          rw [hrv] at H6 ir hrr HRN
          have hrb : (rr != 0) = true := by rw [bne_iff_ne]; exact HRN.out.ne0
          rw [hcr] at hrr
          have HRR := Lib.hid hrr
          clear hrr hrv hrN
          go_enter Try.func18, Try.ntmps18
          go_wp2_with fail
          refine (Child_hs HS0.out HN.out false).mono ?_
          rintro e w1 ⟨rfl, S1, hg⟩
          rw [H5.out]
          have HS1 := Lib.hid S1
          have HG1 := Lib.hid (hg)
          clear S1 hg
          go_wp2_with fail
          refine (Child_hs HS1.out HN.out true).mono ?_
          rintro e w2 ⟨rfl, S2, hg⟩
          rw [H6.out]
          have HS2 := Lib.hid S2
          have HG2 := Lib.hid (HG1.out.trans hg)
          clear S2 hg
          go_wp2_with fail
          refine (Red_hs HS2.out HN.out).mono ?_
          rintro e w3 ⟨rfl, S3, hg⟩
          rw [HR.out]
          have HS3 := Lib.hid S3
          have HG3 := Lib.hid (HG2.out.trans hg)
          clear S3 hg
          go_wp2_with fail
          refine (Red_hs HS3.out HRN.out).mono ?_
          rintro e w4 ⟨rfl, S4, hg⟩
          rw [HRR.out]
          have HS4 := Lib.hid S4
          have HG4 := Lib.hid (HG3.out.trans hg)
          clear S4 hg
          go_wp2_with fail
          rw [HMM.out]
          refine (il.out _ HS4.out).mono ?_
          rintro e w5 ⟨rfl, S5, hg⟩
          have HS5 := Lib.hid S5
          have HG5 := Lib.hid (HG4.out.trans hg)
          clear S5 hg
          go_wp2_with fail
          rw [HMM.out]
          refine (ir.out _ HS5.out).mono ?_
          rintro e w6 ⟨rfl, S6, hg⟩
          have HS6 := Lib.hid S6
          have HG6 := Lib.hid (HG5.out.trans hg)
          clear S6 hg
          go_wp2
          go_ret
          exact ⟨ret_int (by simp), HS6.out, HG6.out⟩
      · have HL := Lib.hid hlN
        obtain ⟨lr, hlv⟩ : ∃ x, l.rt = x := ⟨_, rfl⟩
        rw [hlv] at H5 il hlr HL
        have hlb : (lr != 0) = true := by rw [bne_iff_ne]; exact HL.out.ne0
        rw [hcl] at hlr
        have HLR := Lib.hid hlr
        clear hlr hlv hlN
        rcases hrc with ⟨hr0, hrr⟩ | ⟨hrN, hrr⟩
        · rw [hr0] at H6 ir
          clear hr0 hrr
          go_enter Try.func18, Try.ntmps18
          go_wp2_with fail
          refine (Child_hs HS0.out HN.out false).mono ?_
          rintro e w1 ⟨rfl, S1, hg⟩
          rw [H5.out]
          have HS1 := Lib.hid S1
          have HG1 := Lib.hid (hg)
          clear S1 hg
          go_wp2_with fail
          refine (Child_hs HS1.out HN.out true).mono ?_
          rintro e w2 ⟨rfl, S2, hg⟩
          rw [H6.out]
          have HS2 := Lib.hid S2
          have HG2 := Lib.hid (HG1.out.trans hg)
          clear S2 hg
          go_wp2_with fail
          refine (Red_hs HS2.out HN.out).mono ?_
          rintro e w3 ⟨rfl, S3, hg⟩
          rw [HR.out]
          have HS3 := Lib.hid S3
          have HG3 := Lib.hid (HG2.out.trans hg)
          clear S3 hg
          go_wp2_with fail
          refine (Red_hs HS3.out HL.out).mono ?_
          rintro e w4 ⟨rfl, S4, hg⟩
          rw [HLR.out]
          have HS4 := Lib.hid S4
          have HG4 := Lib.hid (HG3.out.trans hg)
          clear S4 hg
          go_wp2_with fail
          rw [HMM.out]
          refine (il.out _ HS4.out).mono ?_
          rintro e w5 ⟨rfl, S5, hg⟩
          have HS5 := Lib.hid S5
          have HG5 := Lib.hid (HG4.out.trans hg)
          clear S5 hg
          go_wp2_with fail
          rw [HMM.out]
          refine (ir.out _ HS5.out).mono ?_
          rintro e w6 ⟨rfl, S6, hg⟩
          have HS6 := Lib.hid S6
          have HG6 := Lib.hid (HG5.out.trans hg)
          clear S6 hg
          go_wp2
          go_ret
          exact ⟨ret_int (by simp), HS6.out, HG6.out⟩
        · have HRN := Lib.hid hrN
          obtain ⟨rr, hrv⟩ : ∃ x, r.rt = x := ⟨_, rfl⟩
          rw [hrv] at H6 ir hrr HRN
          have hrb : (rr != 0) = true := by rw [bne_iff_ne]; exact HRN.out.ne0
          rw [hcr] at hrr
          have HRR := Lib.hid hrr
          clear hrr hrv hrN
          go_enter Try.func18, Try.ntmps18
          go_wp2_with fail
          refine (Child_hs HS0.out HN.out false).mono ?_
          rintro e w1 ⟨rfl, S1, hg⟩
          rw [H5.out]
          have HS1 := Lib.hid S1
          have HG1 := Lib.hid (hg)
          clear S1 hg
          go_wp2_with fail
          refine (Child_hs HS1.out HN.out true).mono ?_
          rintro e w2 ⟨rfl, S2, hg⟩
          rw [H6.out]
          have HS2 := Lib.hid S2
          have HG2 := Lib.hid (HG1.out.trans hg)
          clear S2 hg
          go_wp2_with fail
          refine (Red_hs HS2.out HN.out).mono ?_
          rintro e w3 ⟨rfl, S3, hg⟩
          rw [HR.out]
          have HS3 := Lib.hid S3
          have HG3 := Lib.hid (HG2.out.trans hg)
          clear S3 hg
          go_wp2_with fail
          refine (Red_hs HS3.out HL.out).mono ?_
          rintro e w4 ⟨rfl, S4, hg⟩
          rw [HLR.out]
          have HS4 := Lib.hid S4
          have HG4 := Lib.hid (HG3.out.trans hg)
          clear S4 hg
          go_wp2_with fail
          refine (Red_hs HS4.out HRN.out).mono ?_
          rintro e w5 ⟨rfl, S5, hg⟩
          rw [HRR.out]
          have HS5 := Lib.hid S5
          have HG5 := Lib.hid (HG4.out.trans hg)
          clear S5 hg
          go_wp2_with fail
          rw [HMM.out]
          refine (il.out _ HS5.out).mono ?_
          rintro e w6 ⟨rfl, S6, hg⟩
          have HS6 := Lib.hid S6
          have HG6 := Lib.hid (HG5.out.trans hg)
          clear S6 hg
          go_wp2_with fail
          rw [HMM.out]
          refine (ir.out _ HS6.out).mono ?_
          rintro e w7 ⟨rfl, S7, hg⟩
          have HS7 := Lib.hid S7
          have HG7 := Lib.hid (HG6.out.trans hg)
          clear S7 hg
          go_wp2
          go_ret
          exact ⟨ret_int (by simp), HS7.out, HG7.out⟩
end Go.Proofs.Ythkppnkhiimaeaa
