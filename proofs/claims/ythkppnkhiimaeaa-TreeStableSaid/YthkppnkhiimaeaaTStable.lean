/- TreeStable: leaves stand sorted by their keys, ones of the same key as they were added; all removed, all is 0. -/
import Derived.Test.YthkppnkhiimaeaaTSt0
set_option linter.unusedVariables false
set_option linter.unusedSimpArgs false
namespace Go.Proofs.Ythkppnkhiimaeaa
open Go.RowKit

set_option maxRecDepth 100000 in
set_option maxHeartbeats 4000000 in
theorem TreeStable_calls (A : Option Addr) (len cap : Nat) (f : Nat → Int) (turn : Int) (w : World) (c : ColI w A len 1 0 .u64 f) (hlc : len ≤ cap) (hm : len ≤ maxLen) (ht : 0 ≤ turn ∧ turn ≤ 65535) :
    Calls Try.prog 7 #[.slice A len cap, .int .u16 turn] w fun e w' => e = .returned (.bool true) ∧ Kept w w' := by
  have hA : 0 < len → ∃ ad : Addr, A = some ad := fun h => by obtain ⟨ad, e, _⟩ := c 0 h; exact ⟨ad, e⟩
  obtain ⟨N, hNe⟩ : ∃ N, min len 40 = N := ⟨_, rfl⟩
  have hN : N ≤ 40 := by omega
  have hky : Ky w A N f := ⟨fun i hi => (Ky.of_col c).at_ i (by omega)⟩
  obtain ⟨i0, hi, hz0, hz1, hz2⟩ := info_parts int_info
  obtain ⟨tn, rfl⟩ := Int.eq_ofNat_of_zero_le ht.1
  have htn : tn ≤ 65535 := by omega
  have HKy := Lib.hid hky
  have HA := Lib.hid hA
  have HM := Lib.hid hm
  have HNE := Lib.hid hNe
  clear c hA hky hNe hm ht
  go_enter Try.func7, Try.ntmps7
  go_wp2_with fail
  refine (shown_calls _).mono ?_
  rintro e w1 ⟨rfl, K1⟩
  have HK1 := Lib.hid K1
  clear K1
  go_wp2_with fail
  refine (few_calls hlc HM.out HA.out).mono ?_
  rintro e w' ⟨rfl, rfl⟩
  rw [HNE.out]
  clear hlc
  go_wp2_with fail
  refine (fresh_fh HK1.out (HKy.out.below HK1.out.below) hN).mono ?_
  rintro e w2 ⟨p, d, kw, rfl, F2, _, _⟩
  have HT2 := Lib.hid F2.ts
  have HKEY := Lib.hid F2.key
  have HKZ := Lib.hid F2.kz
  clear F2
  go_wp2
  go_loopg [7] N (fun gq v wr => ∃ (k : Nat) (h : Hp) (t : Bt), k ≤ N ∧ gq = N - k ∧ v = .int .i64 (k : Int) ∧ Ts w wr p d kw h t ∧ Fst t k ∧ Stb (keyOf kw) t.ids)
  case atStart => exact ⟨0, _, _, by omega, by omega, rfl, HT2.out, Fst.nil, List.Pairwise.nil⟩
  case round =>
    clear HT2
    obtain ⟨k, h, t, hk, rfl, rfl, hT, hF, hSt⟩ := hrel
    have HT := Lib.hid hT
    have HF := Lib.hid hF
    have HSt := Lib.hid hSt
    clear hT hF hSt
    by_cases hlt : k < N
    · have hd : decide ((k : Int) < (N : Int)) = true := decide_eq_true (by omega)
      have hk40 : k < 40 := by omega
      go_wp2_with fail
      refine (leaf_calls ((k : Int) + 1) (by omega) (by omega) _).mono ?_
      rintro e w' ⟨rfl, rfl⟩
      obtain ⟨h', t', _, a2, a3⟩ := Add_ts HT.out (isN_lf hk40) HF.out.not
      have HT3 := Lib.hid a2
      have HC3 := Lib.hid a3
      clear a2 a3
      go_wp2_with fail
      refine HC3.out.mono ?_
      rintro e w4 ⟨rfl, T4, _⟩
      have HT4 := Lib.hid T4
      have HF4 := Lib.hid (HF.out.add HT3.out)
      have HS4 : Hid (Stb (keyOf kw) t'.ids) := Lib.hid (by
        rw [HT3.out]
        refine stb_ins HSt.out (fun a ha => ?_)
        obtain ⟨j, hj, rfl⟩ := lf_of_mem ((HF.out.mem a).1 ha)
        unfold lf; omega)
      have HO4 : Hid (h'.O (lf k) ≠ 0) := Lib.hid (by rw [HT4.out.own (isN_lf hk40), if_pos (by rw [HT3.out, mem_ins_iff]; exact .inl rfl)]; decide)
      clear T4 HT3 HC3
      go_wp2_with fail
      refine (leaf_calls ((k : Int) + 1) (by omega) (by omega) _).mono ?_
      rintro e w' ⟨rfl, rfl⟩
      go_wp2_with fail
      refine (Add_hs_in HT4.out.S (isN_lf hk40) HO4.out).mono ?_
      rintro e w5 ⟨rfl, S5, _⟩
      have HT5 := Lib.hid (HT4.out.with_ S5)
      clear S5
      go_wp2
      go_roundg (N - (k + 1))
      case measure => omega
      case rel => exact ⟨k + 1, h', t', by omega, rfl, by go_num, HT5.out, HF4.out, HS4.out⟩
    · obtain rfl : N = k := by omega
      have hd : decide ((N : Int) < (N : Int)) = false := decide_eq_false (by omega)
      clear hlt hk
      go_wp2_with fail
      refine (All_ts HT.out).mono ?_
      rintro e w5 ⟨v, rfl, hrow, T5, hg5⟩
      have hB5 := hg5.size
      obtain ⟨B, hB⟩ : ∃ B, wr.heap.size = B := ⟨_, rfl⟩
      have hnw := HT.out.S.new
      have hkb := HT.out.S.kept.below.size
      rw [hB] at hrow hnw hkb hB5
      obtain ⟨L, hL⟩ : ∃ L, t.ids = L := ⟨_, rfl⟩
      have hLlen : L.length = N := by rw [← hL]; exact HF.out.len
      have HLm : Hid (∀ x, x ∈ L → ∃ a, a < N ∧ x = lf a) := Lib.hid (fun x hx => lf_of_mem ((HF.out.mem x).1 (by rw [hL]; exact hx)))
      have HSL : Hid (Stb (keyOf kw) L) := Lib.hid (by rw [← hL]; exact HSt.out)
      have HZL : Hid (Kz kw L) := Lib.hid (fun a ha hn => HKZ.out a ha (fun n hn2 => hn n (by rw [← hL]; exact (HF.out.mem n).2 hn2)))
      rw [hL] at hrow
      obtain ⟨A5, c5, rfl⟩ := row_form hrow
      have HROW := Lib.hid hrow
      have HNW := Lib.hid hnw
      have HKB := Lib.hid hkb
      have HLL := Lib.hid hLlen
      have HT5 : Hid (∃ h t, Ts w w5 p d kw h t ∧ t.ids = L) := Lib.hid ⟨h, t, T5, hL⟩
      have HB5 := Lib.hid hB5
      clear T5 hrow hnw hkb hB hL HF HT HSt HKZ hg5 hB5
      have HKy5 : Hid (Ky w5 A N f) := Lib.hid (HKy.out.below (by obtain ⟨h, t, T, _⟩ := HT5.out; exact T.S.kept.below))
      rw [hLlen]
      go_wp2
      go_loopg [10] N (fun gq vk wr => ∃ (j : Nat), 1 ≤ j ∧ (j ≤ N ∨ j = 1) ∧ gq = N + 1 - j ∧ vk = .int .i64 (j : Int) ∧ Below w5.heap.size w5 wr)
      case atStart => exact ⟨1, by omega, by omega, by omega, rfl, Below.refl _ _⟩
      case round =>
        obtain ⟨j, hj1, hj2, rfl, rfl, hBw⟩ := hrel
        have HBW := Lib.hid hBw
        have HROWr : Hid (wr.ownsRow B 3 1 (.slice A5 L.length c5) L.length (nums L)) := Lib.hid (HROW.out.kept (only_of_below hBw none) (by cases hv : (Value.slice A5 L.length c5).ownBlock with | none => exact .inl rfl | some k => exact .inr (by simp)))
        have HKyr : Hid (Ky wr A N f) := Lib.hid (HKy5.out.below hBw)
        clear hBw
        by_cases hjl : j < N
        · have hdj : decide ((j : Int) < (N : Int)) = true := decide_eq_true (by omega)
          obtain ⟨g, c', hs, hgB, hcells⟩ := row_slice HROWr.out rfl (by rw [HLL.out]; omega)
          injection hs with hs1 hs2 hs3
          subst hs1
          have hc1 := hcells (j - 1) (by rw [HLL.out]; omega)
          have hc2 := hcells j (by rw [HLL.out]; omega)
          obtain ⟨a, haN, hax⟩ := HLm.out _ (getD_mem' (L := L) (k := j - 1) (by rw [HLL.out]; omega))
          obtain ⟨b, hbN, hbx⟩ := HLm.out _ (getD_mem' (L := L) (k := j) (by rw [HLL.out]; omega))
          have hst := stb_get HSL.out hj1 (by rw [HLL.out]; exact hjl)
          rw [hax, hbx, HKEY.out a haN, HKEY.out b hbN] at hst
          obtain ⟨ea, hea⟩ : ∃ e, L.getD (j - 1) 0 = e := ⟨_, rfl⟩
          obtain ⟨eb, heb⟩ : ∃ e, L.getD j 0 = e := ⟨_, rfl⟩
          rw [hea] at hc1 hax
          rw [heb] at hc2 hbx
          have hlab : a < b → ea < eb := fun h => by rw [hax, hbx]; unfold lf; omega
          have ha40 : a < 40 := by omega
          have hb40 : b < 40 := by omega
          have htd1 : Int.tdiv ea 32 = (a : Int) + 1 := by rw [hax]; unfold lf; rw [Int.tdiv_eq_ediv_of_nonneg (by omega)]; omega
          have htd2 : Int.tdiv eb 32 = (b : Int) + 1 := by rw [hbx]; unfold lf; rw [Int.tdiv_eq_ediv_of_nonneg (by omega)]; omega
          clear hea heb
          obtain ⟨ad, rfl, _, hka, fa0, fa1⟩ := HKyr.out.at_ a haN
          obtain ⟨ad', hade, _, hkb, fb0, fb1⟩ := HKyr.out.at_ b hbN
          injection hade with hade
          subst hade
          have hjt : ((j : Int) - 1).toNat = j - 1 := by omega
          have hj0 : 0 ≤ (j : Int) - 1 := by omega
          have hjM : (j : Int) - 1 < (N : Int) := by omega
          have haN' : (a : Int) < (N : Int) := by omega
          have hbN' : (b : Int) < (N : Int) := by omega
          have hab : f a < f b ∨ f a = f b ∧ a < b := by
            rcases hst with hst | ⟨hs1, hs2⟩
            · exact .inl hst
            · exact .inr ⟨hs1, by unfold lf at hs2; omega⟩
          have HAB := Lib.hid hab
          have HLAB := Lib.hid hlab
          clear hcells hgB hs2 hs3 hst hab hax hbx hlab
          obtain ⟨x, hx⟩ : ∃ x, f a = x := ⟨_, rfl⟩
          obtain ⟨y, hy⟩ : ∃ y, f b = y := ⟨_, rfl⟩
          rw [hx] at hka
          rw [hy] at hkb
          have HX := Lib.hid hx
          have HY := Lib.hid hy
          clear hx hy fa0 fa1 fb0 fb1
          have hxy : x < y ∨ x = y ∧ ea < eb := by
            rcases HAB.out with h1 | ⟨h1, h2⟩
            · rw [HX.out, HY.out] at h1; exact .inl h1
            · rw [HX.out, HY.out] at h1; exact .inr ⟨h1, HLAB.out h2⟩
          rcases hxy with hxy | ⟨hxy, hee⟩
          · have q1 : decide (y < x) = false := decide_eq_false (by omega)
            have q2 : (x == y) = false := beq_eq_false_iff_ne.2 (by omega)
            clear hxy
            go_wp2_with fail
            go_quiet (fail)
            go_wp2
            go_roundg (N + 1 - (j + 1))
            case measure => omega
            case rel => exact ⟨j + 1, by omega, by omega, rfl, by go_num, HBW.out.trans ⟨rfl, rfl, rfl, Nat.le_refl _, fun _ _ => rfl⟩⟩
          · subst hxy
            have q1 : decide (x < x) = false := decide_eq_false (by omega)
            have q2 : (x == x) = true := beq_iff_eq.2 rfl
            have q3 : decide (eb ≤ ea) = false := decide_eq_false (by omega)
            clear hee
            go_wp2_with fail
            go_quiet (fail)
            go_wp2
            go_roundg (N + 1 - (j + 1))
            case measure => omega
            case rel => exact ⟨j + 1, by omega, by omega, rfl, by go_num, HBW.out.trans ⟨rfl, rfl, rfl, Nat.le_refl _, fun _ _ => rfl⟩⟩
        · have hdj : decide ((j : Int) < (N : Int)) = false := decide_eq_false (by omega)
          have HT6 : Hid (∃ h t, Ts w wr p d kw h t ∧ t.ids = L) := Lib.hid (by obtain ⟨h, t, T, e⟩ := HT5.out; exact ⟨h, t, T.with_ (T.S.then_ HBW.out), e⟩)
          have HB6 : Hid (B ≤ wr.heap.size) := Lib.hid (Nat.le_trans HB5.out HBW.out.size)
          have HR6 : Hid (∃ v, wr.ownsRow B 3 1 v L.length (nums L) ∧ v = .slice A5 N c5) := Lib.hid ⟨_, HROWr.out, by rw [HLL.out]⟩
          clear HT5 HROW HROWr HKyr HKy5 HBW HSL HKEY HB5
          go_wp2_with fail
          go_loopg [8] N (fun gq vl wr => ∃ (M : List Int) (h : Hp) (t : Bt) (kw' : Int → Int), gq = M.length ∧ M.length ≤ 40 ∧ wr.ownsRow B 3 1 vl M.length (nums M) ∧ Ts w wr p d kw' h t ∧ t.ids = M ∧ Kz kw' M ∧ B ≤ wr.heap.size)
          case atStart =>
            obtain ⟨h, t, T, e⟩ := HT6.out
            obtain ⟨v, hv, rfl⟩ := HR6.out
            exact ⟨L, h, t, kw, HLL.out.symm, by rw [HLL.out]; exact hN, hv, T, e, HZL.out, HB6.out⟩
          case round =>
            clear HT6 HR6 HB6 HZL HLm HLL
            obtain ⟨M, h, t, kw', rfl, hM40, hrow, hT, hids, hKz, hBx⟩ := hrel
            obtain ⟨A3, c3, rfl⟩ := row_form hrow
            have HRowM := Lib.hid hrow
            have HT := Lib.hid hT
            have HI := Lib.hid hids
            have HZ := Lib.hid hKz
            have HBx := Lib.hid hBx
            clear hrow hT hids hKz hBx
            by_cases hpos : 0 < M.length
            · have hdp : decide ((0 : Int) < (M.length : Int)) = true := decide_eq_true (by omega)
              obtain ⟨g, c', hs, hgB, hcells⟩ := row_slice HRowM.out rfl hpos
              injection hs with hs1 hs2 hs3
              subst hs1
              obtain ⟨j, hj0⟩ : ∃ j, tn % M.length = j := ⟨_, rfl⟩
              have hj : j < M.length := by have := Nat.mod_lt tn hpos; omega
              have hmod : ((tn : Nat) : Int).tmod ((M.length : Nat) : Int) = (j : Int) := by rw [Int.tmod_eq_emod_of_nonneg (by omega), ← Int.natCast_emod, hj0]
              have hmod2 : ((tn : Nat) : Int) % ((M.length : Nat) : Int) = (j : Int) := by rw [← Int.natCast_emod, hj0]
              have hcj := hcells j hj
              obtain ⟨n, hn⟩ : ∃ n, M.getD j 0 = n := ⟨_, rfl⟩
              have HND0 := HT.out.F.ndT
              rw [HI.out] at HND0
              have hmem := getD_mem' hj
              have her := erase_at HND0 hj
              rw [hn] at hcj hmem her
              have HER := Lib.hid her
              have HND : Hid (n ∉ M.erase n) := Lib.hid (fun hh => by
                have := (List.Nodup.mem_erase_iff HND0).1 hh
                exact this.1 rfl)
              have HIN : Hid (n ∈ t.ids) := Lib.hid (by rw [HI.out]; exact hmem)
              have HNN : Hid (isN n) := Lib.hid (HT.out.F.T.isN n HIN.out)
              have hnr : 32 ≤ n ∧ n ≤ 1280 := by have := HNN.out; unfold isN at this; omega
              obtain ⟨hnr1, hnr2⟩ := hnr
              have hji : (j : Int) < (M.length : Int) := by omega
              have hjn : ¬ ((j : Int) < 0) := by omega
              have hcap : M.length ≤ c3 := row_cap HRowM.out
              have hcp1 : (j : Int) ≤ (c3 : Int) := by omega
              have hcp2 : (M.length : Int) ≤ (c3 : Int) := by omega
              have hcp3 : (j : Int) + 1 ≤ (M.length : Int) := by omega
              have hcp4 : (0 : Int) ≤ (j : Int) := by omega
              clear hcells hs2 hs3 hgB hj0 hn hmem her HND0
              go_wp2_with fail
              have hgl : g < wr.heap.size := (HRowM.out.lt g rfl).2
              have HE := Lib.hid (row_empty wr)
              have HN1 := Lib.hid (news_head HRowM.out (Nat.le_of_lt hj))
              have HV1 : Hid (∀ u ∈ (nums M).take j, u.oneCell' = true) := Lib.hid (fun u hu => nums_one M u (List.mem_of_mem_take hu))
              have HV2 : Hid (∀ u ∈ (nums M).drop (j + 1), u.oneCell' = true) := Lib.hid (fun u hu => nums_one M u (List.mem_of_mem_drop hu))
              have hb1 : 0 + j ≤ maxLen := by unfold maxLen; omega
              have hb2 : (0 + j) * 8 ≤ 140737488355328 := by omega
              have hb3 : wr.heap.size ≤ (wr.alloc (.cells #[] 3)).drew.heap.size := by show wr.heap.size ≤ (wr.alloc (.cells #[] 3)).heap.size; simp
              have hew : IntKind.i64.wrap ((j : Int) + 1) = (j : Int) + 1 := by rw [IntKind.wrap_i64]; omega
              have hb4 : j + (M.length - (j + 1)) ≤ maxLen := by unfold maxLen; omega
              have hb5 : (j + (M.length - (j + 1))) * 8 ≤ 140737488355328 := by omega
              have hcp5 : (j : Int) ≤ (j : Int) + 1 := by omega
              have hcp6 : (0 : Int) ≤ (j : Int) + 1 := by omega
              by_cases hcc : c3 = j + 1
              · subst hcc
                go_region_law (first | (refine step_append_any _ (by rfl) (.tmp 114) (.tmp 117) 38 (by rfl) wr.heap.size 3 i0 (.int .i64 0) 1 8 Try.underlying38 hi hz0 hz1 hz2 rfl (by decide) (.slice (some ⟨wr.heap.size, 0, none⟩) 0 0) 0 [] (by rfl) HE.out ⟨g, 0, none⟩ j (j + 1) ((nums M).take j) (by rfl) HN1.out.1 HN1.out.2 HV1.out hb1 hb2 hb3 ?_; intro v1 w1 hown1 hg1 hob1; rw [Nat.zero_add, List.nil_append] at hown1; have HR1 := Lib.hid (row_two HRowM.out hg1); have HO1 := Lib.hid hown1; have hsz1 := hg1.size; have HG1 := Lib.hid hg1; clear hown1 hg1 hob1) | (refine step_append_any _ (by rfl) (.tmp 118) (.tmp 122) 38 (by rfl) wr.heap.size 3 i0 (.int .i64 0) 1 8 Try.underlying38 hi hz0 hz1 hz2 rfl (by decide) _ j ((nums M).take j) (by rfl) HO1.out ⟨g, 0, none⟩ 0 0 ((nums M).drop (j + 1)) (by rfl) (by have := (news_over HR1.out hj hcap rfl).1; omega) (news_over HR1.out hj hcap rfl).2 HV2.out (by unfold maxLen; omega) (by omega) (Nat.le_trans hb3 hsz1) ?_; intro v2 w4 hown2 hg2 hob2))
                have S3a := Ts.other (HT.out.with_ (HT.out.S.then_ (((Below.refl _ wr).alloc (Nat.le_refl _) (.cells #[] 3)).drew))) HG1.out (fun k hk => by
                  have hk : some wr.heap.size = some k := hk
                  injection hk with hk
                  have := HNW.out; have := HBx.out; have := HKB.out
                  omega)
                have S4 := Lib.hid (S3a.other hg2 (fun k hk => by have := (HO1.out.lt k hk).1; have := HNW.out; have := HBx.out; have := HKB.out; omega))
                rw [nums_erase, show j + 0 = (M.take j ++ M.drop (j + 1)).length from by rw [List.length_append, List.length_take, List.length_drop]; omega] at hown2
                have HO2 := Lib.hid (row_mono hown2 HBx.out)
                have hsz2 := hg2.size
                have HB4 : Hid (B ≤ w4.heap.size) := Lib.hid (by have := HBx.out; omega)
                clear S3a hown2 hg2 hob2
                obtain ⟨M2, hM2⟩ : ∃ M2, M.take j ++ M.drop (j + 1) = M2 := ⟨_, rfl⟩
                rw [hM2] at HO2
                have HM2 := Lib.hid hM2
                clear hM2
                obtain ⟨h', t', _, a2, a3⟩ := Remove_ts S4.out HIN.out
                have HI5 : Hid (t'.ids = M2) := Lib.hid (by rw [a2, HI.out, HER.out, HM2.out])
                have HC5 := Lib.hid a3
                clear a2 a3
                go_wp2_with fail
                refine HC5.out.mono ?_
                rintro e w5' ⟨rfl, T5, hg5⟩
                have HT5 := Lib.hid T5
                have HO5 := Lib.hid (row_keep HO2.out hg5 HNW.out.2.1)
                have HB5 : Hid (B ≤ w5'.heap.size) := Lib.hid (Nat.le_trans HB4.out hg5.size)
                have HNI : Hid (n ∉ t'.ids) := Lib.hid (by rw [HI5.out, ← HM2.out, ← HER.out]; exact fun hh => HND.out hh)
                have HOn : Hid (h'.O n ≠ 8) := Lib.hid (by rw [HT5.out.own HNN.out, if_neg HNI.out]; decide)
                clear T5 hg5 HC5
                go_wp2_with fail
                refine (Remove_hs_no HT5.out.S HNN.out HOn.out).mono ?_
                rintro e w6 ⟨rfl, S6, hg6⟩
                have HT6 := Lib.hid (HT5.out.with_ S6)
                have HO6 := Lib.hid (row_keep HO5.out hg6 HNW.out.2.1)
                have HB6 : Hid (B ≤ w6.heap.size) := Lib.hid (Nat.le_trans HB5.out hg6.size)
                clear S6 hg6
                go_wp2_with fail
                refine (Store_ts HT6.out HNN.out HNI.out).mono ?_
                rintro e w7 ⟨rfl, T7, hg7⟩
                have HT7 := Lib.hid T7
                have HO7 := Lib.hid (row_keep HO6.out hg7 HNW.out.2.1)
                have HB7 : Hid (B ≤ w7.heap.size) := Lib.hid (Nat.le_trans HB6.out hg7.size)
                have HZ7 : Hid (Kz (setKey kw' n 0) M2) := Lib.hid (by rw [← HM2.out, ← HER.out]; exact HZ.out.clear n)
                have HL2 : Hid (M2.length + 1 = M.length) := Lib.hid (by rw [← HM2.out, List.length_append, List.length_take, List.length_drop]; omega)
                clear T7 hg7
                go_wp2
                go_roundg M2.length
                case measure => have := HL2.out; omega
                case rel => exact ⟨M2, h', t', setKey kw' n 0, rfl, by have := HL2.out; omega, HO7.out, HT7.out, HI5.out, HZ7.out, HB7.out⟩
              · go_region_law (first | (refine step_append_any _ (by rfl) (.tmp 114) (.tmp 117) 38 (by rfl) wr.heap.size 3 i0 (.int .i64 0) 1 8 Try.underlying38 hi hz0 hz1 hz2 rfl (by decide) (.slice (some ⟨wr.heap.size, 0, none⟩) 0 0) 0 [] (by rfl) HE.out ⟨g, 0, none⟩ j c3 ((nums M).take j) (by rfl) HN1.out.1 HN1.out.2 HV1.out hb1 hb2 hb3 ?_; intro v1 w1 hown1 hg1 hob1; rw [Nat.zero_add, List.nil_append] at hown1; have HR1 := Lib.hid (row_two HRowM.out hg1); have HO1 := Lib.hid hown1; have hsz1 := hg1.size; have HG1 := Lib.hid hg1; clear hown1 hg1 hob1) | (refine step_append_any _ (by rfl) (.tmp 118) (.tmp 122) 38 (by rfl) wr.heap.size 3 i0 (.int .i64 0) 1 8 Try.underlying38 hi hz0 hz1 hz2 rfl (by decide) _ j ((nums M).take j) (by rfl) HO1.out ⟨g, j + 1, none⟩ (M.length - (j + 1)) (c3 - (j + 1)) ((nums M).drop (j + 1)) (by rfl) (news_tail HR1.out hj).1 (news_tail HR1.out hj).2 HV2.out hb4 hb5 (Nat.le_trans hb3 hsz1) ?_; intro v2 w4 hown2 hg2 hob2))
                have S3a := Ts.other (HT.out.with_ (HT.out.S.then_ (((Below.refl _ wr).alloc (Nat.le_refl _) (.cells #[] 3)).drew))) HG1.out (fun k hk => by
                  have hk : some wr.heap.size = some k := hk
                  injection hk with hk
                  have := HNW.out; have := HBx.out; have := HKB.out
                  omega)
                have S4 := Lib.hid (S3a.other hg2 (fun k hk => by have := (HO1.out.lt k hk).1; have := HNW.out; have := HBx.out; have := HKB.out; omega))
                rw [nums_erase, show j + (M.length - (j + 1)) = (M.take j ++ M.drop (j + 1)).length from by rw [List.length_append, List.length_take, List.length_drop]; omega] at hown2
                have HO2 := Lib.hid (row_mono hown2 HBx.out)
                have hsz2 := hg2.size
                have HB4 : Hid (B ≤ w4.heap.size) := Lib.hid (by have := HBx.out; omega)
                clear S3a hown2 hg2 hob2
                obtain ⟨M2, hM2⟩ : ∃ M2, M.take j ++ M.drop (j + 1) = M2 := ⟨_, rfl⟩
                rw [hM2] at HO2
                have HM2 := Lib.hid hM2
                clear hM2
                obtain ⟨h', t', _, a2, a3⟩ := Remove_ts S4.out HIN.out
                have HI5 : Hid (t'.ids = M2) := Lib.hid (by rw [a2, HI.out, HER.out, HM2.out])
                have HC5 := Lib.hid a3
                clear a2 a3
                go_wp2_with fail
                refine HC5.out.mono ?_
                rintro e w5' ⟨rfl, T5, hg5⟩
                have HT5 := Lib.hid T5
                have HO5 := Lib.hid (row_keep HO2.out hg5 HNW.out.2.1)
                have HB5 : Hid (B ≤ w5'.heap.size) := Lib.hid (Nat.le_trans HB4.out hg5.size)
                have HNI : Hid (n ∉ t'.ids) := Lib.hid (by rw [HI5.out, ← HM2.out, ← HER.out]; exact fun hh => HND.out hh)
                have HOn : Hid (h'.O n ≠ 8) := Lib.hid (by rw [HT5.out.own HNN.out, if_neg HNI.out]; decide)
                clear T5 hg5 HC5
                go_wp2_with fail
                refine (Remove_hs_no HT5.out.S HNN.out HOn.out).mono ?_
                rintro e w6 ⟨rfl, S6, hg6⟩
                have HT6 := Lib.hid (HT5.out.with_ S6)
                have HO6 := Lib.hid (row_keep HO5.out hg6 HNW.out.2.1)
                have HB6 : Hid (B ≤ w6.heap.size) := Lib.hid (Nat.le_trans HB5.out hg6.size)
                clear S6 hg6
                go_wp2_with fail
                refine (Store_ts HT6.out HNN.out HNI.out).mono ?_
                rintro e w7 ⟨rfl, T7, hg7⟩
                have HT7 := Lib.hid T7
                have HO7 := Lib.hid (row_keep HO6.out hg7 HNW.out.2.1)
                have HB7 : Hid (B ≤ w7.heap.size) := Lib.hid (Nat.le_trans HB6.out hg7.size)
                have HZ7 : Hid (Kz (setKey kw' n 0) M2) := Lib.hid (by rw [← HM2.out, ← HER.out]; exact HZ.out.clear n)
                have HL2 : Hid (M2.length + 1 = M.length) := Lib.hid (by rw [← HM2.out, List.length_append, List.length_take, List.length_drop]; omega)
                clear T7 hg7
                go_wp2
                go_roundg M2.length
                case measure => have := HL2.out; omega
                case rel => exact ⟨M2, h', t', setKey kw' n 0, rfl, by have := HL2.out; omega, HO7.out, HT7.out, HI5.out, HZ7.out, HB7.out⟩
            · have hdp : decide ((0 : Int) < (M.length : Int)) = false := decide_eq_false (by omega)
              have hnil : M = [] := List.eq_nil_of_length_eq_zero (by omega)
              have HZr := Lib.hid (HT.out.zr (by rw [HI.out, hnil]) (by rw [← hnil]; exact HZ.out))
              clear HT HZ HI hnil HRowM
              go_wp2_with fail
              refine (Bytes_zr HZr.out).mono ?_
              rintro e wb ⟨g, rfl, hb, Zb⟩
              have HB := Lib.hid hb
              have HZb := Lib.hid Zb
              clear hb Zb
              go_wp2
              go_loop [17] (fun i => ∃ k : Nat, k ≤ 2048 ∧ i = .int .i64 k) (fun i => 2048 - (intOf i).toNat)
              case atStart => exact ⟨0, by omega, rfl⟩
              case round =>
                obtain ⟨k, hk, rfl⟩ := hrel
                by_cases hlt : k < 2048
                · have hcell : wb.cell? ⟨g, k, none⟩ = some (.int .u8 0) := HB.out k hlt
                  go_wp2
                  go_round
                  case rel => exact ⟨k + 1, by omega, by go_num⟩
                  case measure => simp [intOf]; omega
                · have hkk : (2048 : Int) ≤ (k : Int) := by omega
                  go_wp2
                  go_ret
                  exact ⟨rfl, HZb.out.kept⟩
end Go.Proofs.Ythkppnkhiimaeaa
