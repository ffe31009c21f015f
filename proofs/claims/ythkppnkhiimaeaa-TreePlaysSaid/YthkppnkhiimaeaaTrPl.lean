/- Lemmas of the claim TreePlays. -/
import Derived.Test.YthkppnkhiimaeaaTrP1
/- The law TreePlays: the walk. -/
set_option linter.unusedVariables false
set_option linter.unusedSimpArgs false
namespace Go.Proofs.Ythkppnkhiimaeaa.PTreePlays
open Go.RowKit Go.Proofs.Ythkppnkhiimaeaa Go.Proofs.YthkppnkhiimaeaaW.PrintWords Go.Proofs.YthkppnkhiimaeaaW.PrintLast Go.Proofs.YthkppnkhiimaeaaW.PrintMore
theorem add_of_add (a : Addr) (i j : Nat) : (a.add i).add j = a.add (i + j) := by
  unfold Addr.add
  by_cases hi : i = 0
  · subst hi; simp
  · by_cases hj : j = 0
    · subst hj; simp
    · simp [hi, hj, Nat.add_assoc]
set_option maxRecDepth 100000 in
set_option maxHeartbeats 4000000 in
theorem TreePlays_calls (A : Option Addr) (len cap : Nat) (f : Nat → Int) (A1 : Option Addr) (dl dc : Nat) (f0 : Nat → Bool) (f1 : Nat → Int) (w : World) (c : ColI w A len 1 0 .u64 f) (hlc : len ≤ cap) (hm : len ≤ maxLen)
    (e0 : ColB w A1 dl 2 0 f0) (e1 : ColI w A1 dl 2 1 .u8 f1) (hm1 : dl ≤ maxLen) :
    Calls Try.prog 6 #[.slice A len cap, .slice A1 dl dc] w fun e w' => e = .returned (.bool true) ∧ Go.Proofs.Ythkppnkhiimaeaa.Kept w w' := by
  have hA : 0 < len → ∃ ad : Addr, A = some ad := fun h => by obtain ⟨ad, e, _⟩ := c 0 h; exact ⟨ad, e⟩
  obtain ⟨N, hNe⟩ : ∃ N, min len 40 = N := ⟨_, rfl⟩
  have hN : N ≤ 40 := by omega
  have hky : Ky w A N f := ⟨fun i hi => (Ky.of_col c).at_ i (by omega)⟩
  have HKy := Lib.hid hky
  have HA := Lib.hid hA
  have HM := Lib.hid hm
  have HNE := Lib.hid hNe
  have HE0 := Lib.hid e0
  have HE1 := Lib.hid e1
  have hdl : dl ≤ 9223372036854775807 := by unfold maxLen at hm1; omega
  clear c hA hky hNe hm e0 e1 hm1
  by_cases hN0 : N = 0
  · subst hN0
    go_enter Try.func6, Try.ntmps6
    go_wp2_with fail
    refine (shown_calls _).mono ?_
    rintro e w1 ⟨rfl, K1⟩
    have HK1 := Lib.hid K1
    clear K1
    go_wp2_with fail
    refine (few_calls hlc HM.out HA.out).mono ?_
    rintro e w' ⟨rfl, rfl⟩
    rw [HNE.out]
    go_wp2
    go_ret
    exact ⟨rfl, HK1.out⟩
  have hNb : (((N : Nat) : Int) == 0) = false := beq_eq_false_iff_ne.2 (by omega)
  go_enter Try.func6, Try.ntmps6
  go_wp2_with fail
  refine (shown_calls _).mono ?_
  rintro e w1 ⟨rfl, K1⟩
  have HK1 := Lib.hid K1
  clear K1
  go_wp2_with fail
  refine (few_calls hlc HM.out HA.out).mono ?_
  rintro e w' ⟨rfl, rfl⟩
  rw [HNE.out]
  have HNC : Hid (N ≤ cap) := Lib.hid (by have := HNE.out; omega)
  clear hlc
  go_wp2_with fail
  refine (fresh_fh HK1.out (HKy.out.below HK1.out.below) hN).mono ?_
  rintro e w2 ⟨p, d, kw, rfl, F2, _, _⟩
  have HT2 := Lib.hid F2.ts
  have HKEY := Lib.hid F2.key
  have HKL : Hid ((ksl f N).length = N) := Lib.hid (ksl_length f N)
  have hCk := C_of_ky (HKy.out.below (HT2.out.S.kept.below)) hN
  have hMk := Make_eq (ks := ksl f N) (by rw [ksl_length]; exact hN)
  have hM0 : Sm N (keyOf kw) (mk80 (ksl f N)) 0 hp0 := by
    have := sm0 (ks := ksl f N) (kw := keyOf kw) (by rw [ksl_length]; exact hN) (fun i hi => by
      rw [ksl_length] at hi
      rw [ksl_get f N i hi]
      exact F2.key i hi)
    rw [ksl_length] at this
    exact this
  have hMk2 := turnbuckleref11_Make.calls _ A cap (ksl f N) _ _ w2 hCk (by rw [ksl_length]; exact HNC.out) hMk
  rw [ksl_length] at hMk2
  have HMk2 := Lib.hid hMk2
  have HM0 := Lib.hid hM0
  clear F2 hCk hMk hM0 hMk2
  go_wp2_with fail
  refine HMk2.out.mono ?_
  rintro e w4 ⟨v0, rfl, hr4, hb4⟩
  obtain ⟨A0, c0, hv0⟩ := Kd.R_slice hr4
  subst hv0
  have hsz := hb4.size
  have hn2 := HT2.out.S.new
  have hBa : Below w4.heap.size w4 (w4.alloc (.cells #[.slice A0 (mk80 (ksl f N)).length c0, .int .i64 0] 49)) := (Below.refl _ _).alloc (Nat.le_refl _) _
  have HT5 := Lib.hid (HT2.out.with_ ((HT2.out.S.then_ hb4).then_ hBa))
  have HR5 : Hid (Rt w (w4.alloc (.cells #[.slice A0 (mk80 (ksl f N)).length c0, .int .i64 0] 49)) p d w4.heap.size (.slice A0 (mk80 (ksl f N)).length c0) (mk80 (ksl f N)) 0) := Lib.hid
    ⟨Kd.R_below (Kd.R_lower (Kd.R_mono (Kd.R_bound hr4) (fun k hk => by omega)) (HT2.out.S.kept.below.size)) hBa, heap_alloc_new w4 _, by omega, by omega, by have := HT2.out.S.kept.below.size; omega⟩
  clear hr4 hb4 hsz hn2 hBa HT2 HMk2
  go_wp2_with fail
  generalize w4.alloc (.cells #[.slice A0 (mk80 (ksl f N)).length c0, .int .i64 0] 49) = wa at *
  generalize w4.heap.size = g at *
  generalize mk80 (ksl f N) = l0 at *
  go_loopg [8] (min dl 80) (fun gq vi wr => ∃ (k : Nat) (h : Hp) (t : Bt) (hv : Value) (l : List S80) (top : Int), k ≤ min dl 80 ∧ gq = min dl 80 - k ∧ vi = .int .i64 (k : Int) ∧ Ts w wr p d kw h t ∧ Sm N (keyOf kw) l top h ∧ Rt w wr p d g hv l top)
  case atStart => exact ⟨0, _, _, _, _, _, by omega, by omega, rfl, HT5.out, HM0.out, HR5.out⟩
  case round =>
    clear HT5 HR5 HM0
    obtain ⟨k, h, t, hv, l, top, hk, rfl, rfl, hT, hMs, hR⟩ := hrel
    have HT := Lib.hid hT
    have HMs := Lib.hid hMs
    obtain ⟨A0, c0, hv0⟩ := Kd.R_slice hR.lx
    have HR := Lib.hid hR
    clear hT hMs hR
    by_cases hlt : k < min dl 80
    · have hd : decide ((k : Int) < (dl : Int)) = true := decide_eq_true (by omega)
      have hd2 : decide ((k : Int) < (80 : Int)) = true := decide_eq_true (by omega)
      obtain ⟨ad, rfl, hbl, hc1, hw1⟩ := HE1.out k (by omega)
      obtain ⟨ad', hade, hbl0, hc0⟩ := HE0.out k (by omega)
      injection hade with hade
      subst hade
      obtain ⟨n0, n1⟩ := bd_u8 hw1
      have KB := HT.out.S.kept.below
      have hk0 : wr.cell? (ad.add (k * 2 + 0)) = some (.bool (f0 k)) := (KB.cell (by rw [block_add]; exact hbl0)).trans hc0
      have hk1 : wr.cell? (ad.add (k * 2 + 1)) = some (.int .u8 (f1 k)) := (KB.cell (by rw [block_add]; exact hbl)).trans hc1
      rw [← add_of_add] at hk0 hk1
      have hk0 : wr.cell? (ad.add (k * 2)) = some (.bool (f0 k)) := hk0
      have hk1 : wr.cell? ⟨(ad.add (k * 2)).block, (ad.add (k * 2)).off + 1, none⟩ = some (.int .u8 (f1 k)) := hk1
      obtain ⟨nn, hnn⟩ := Int.eq_ofNat_of_zero_le n0
      rw [hnn] at hk1 n1
      obtain ⟨i, hi⟩ : ∃ i, nn % N = i := ⟨_, rfl⟩
      have hiN : i < N := by have := Nat.mod_lt nn (show 0 < N by omega); omega
      have hmod : ((nn : Nat) : Int).tmod ((N : Nat) : Int) = (i : Int) := by rw [Int.tmod_eq_emod_of_nonneg (by omega), ← Int.natCast_emod, hi]
      have hmod2 : ((nn : Nat) : Int) % ((N : Nat) : Int) = (i : Int) := by rw [← Int.natCast_emod, hi]
      have hk0' := hk0
      obtain ⟨b, hb⟩ : ∃ b, f0 k = b := ⟨_, rfl⟩
      rw [hb] at hk0'
      subst hv0
      have HK1c := Lib.hid hk1
      clear n0 hnn hi KB hc0 hc1 hw1 hbl hbl0 hb hk0
      cases b
      · obtain ⟨h1, t1, kf, l1, top1, cc, hE, hM1, hI⟩ := add_both HT.out HMs.out hiN
        have HE := Lib.hid hE
        have HM1 := Lib.hid hM1
        clear hE hM1
        go_wp2_with fail
        refine (leaf_calls (1 + (i : Int)) (by omega) (by omega) _).mono ?_
        rintro e w' ⟨rfl, rfl⟩
        go_wp2_with fail
        refine hI.mono ?_
        rintro e w3 ⟨rfl, T3, hg3⟩
        have HT3 := Lib.hid T3
        have HR3 := Lib.hid (HR.out.kept (kd_grown hg3))
        clear hI T3 hg3 hk0'
        have hx0 := HR3.out.xl.c0
        have hx1 := HR3.out.xl.c1
        go_wp2_with fail
        refine (turnbuckleref11_Add.calls kf (fun k => k ≠ p ∧ k ≠ d ∧ k ≠ g) _ l top (1 + (i : Int)) l1 top1 cc w _ HT3.out.S.kept.below HR3.out.lx HE.out).mono ?_
        rintro e w5 ⟨u0, rfl, hr5, hb5, hk5⟩
        obtain ⟨B0, b0, hu0⟩ := Kd.R_slice hr5
        subst hu0
        have hX5 : Xl w5 g (.slice A0 l.length c0) (.int .i64 top) := (hk5.2 g HR3.out.xl.lt (fun e => e.2.2 rfl)).trans HR3.out.xl
        have hy0 := hX5.c0
        have hy1 := hX5.c1
        have hf0 := blk_frozen hX5 0
        have hf1 := blk_frozen hX5 1
        have hst := HR3.out.step (top' := top1) HT3.out hr5 hb5 hk5
        have HT5 := Lib.hid hst.2
        have HR5 := Lib.hid hst.1
        have hz0 := HR5.out.xl.c0
        have hz1 := HR5.out.xl.c1
        clear hst hr5 hb5 hk5 hX5 hx0 hx1
        go_wp2_with fail
        refine (alike_calls HT5.out.S HM1.out HR5.out.lx (fun k hk => hk.2.1)).mono ?_
        rintro e w7 ⟨rfl, S7, hK7⟩
        have HT7 := Lib.hid (HT5.out.with_ S7)
        have HR7 := Lib.hid (HR5.out.kept hK7)
        clear S7 hK7 hz0 hz1 hy0 hy1 hf0 hf1
        obtain ⟨k8, m8, e8, e9, e10⟩ := first_sim HT7.out.F HM1.out
        have HE8 := Lib.hid e8
        have HE9 := Lib.hid e9
        unfold rn at e10
        obtain ⟨m8a, m8b⟩ := e10
        clear e8 e9
        go_wp2_with fail
        refine (First_ts HT7.out).mono ?_
        rintro e w8 ⟨rfl, T8, hg8⟩
        rw [HE9.out]
        have HT8 := Lib.hid T8
        have HR8 := Lib.hid (HR7.out.kept (kd_grown hg8))
        clear T8 hg8
        have hx0 := HR8.out.xl.c0
        have hx1 := HR8.out.xl.c1
        have HC8 := Lib.hid (Kd.R_reads' HR8.out.lx)
        go_wp2_with fail
        refine (turnbuckleref11_Lowest.calls k8 B0 b0 l1 top1 top1 m8 _ HC8.out.2.2 HC8.out.2.1 HE8.out).mono ?_
        rintro e w9 ⟨rfl, hb9⟩
        have HT9 := Lib.hid (HT8.out.with_ (HT8.out.S.then_ hb9))
        have HR9 := Lib.hid (HR8.out.kept (kd_below hb9))
        clear hb9 hx0 hx1
        go_wp2_with fail
        refine (leaf_calls m8 (by omega) (by omega) _).mono ?_
        rintro e w' ⟨rfl, rfl⟩
        go_wp2_with fail
        go_roundg (min dl 80 - (k + 1))
        case measure => omega
        case rel => exact ⟨k + 1, h1, t1, _, l1, top1, by omega, rfl, by go_num, HT9.out, HM1.out, HR9.out⟩
      · obtain ⟨h1, t1, kf, l1, top1, cc, hE, hM1, hI⟩ := rem_both HT.out HMs.out hiN
        have HE := Lib.hid hE
        have HM1 := Lib.hid hM1
        clear hE hM1
        go_wp2_with fail
        refine (leaf_calls (1 + (i : Int)) (by omega) (by omega) _).mono ?_
        rintro e w' ⟨rfl, rfl⟩
        go_wp2_with fail
        refine hI.mono ?_
        rintro e w3 ⟨rfl, T3, hg3⟩
        have HT3 := Lib.hid T3
        have HR3 := Lib.hid (HR.out.kept (kd_grown hg3))
        clear hI T3 hg3 hk0'
        have hx0 := HR3.out.xl.c0
        have hx1 := HR3.out.xl.c1
        go_wp2_with fail
        refine (turnbuckleref11_Remove.calls kf (fun k => k ≠ p ∧ k ≠ d ∧ k ≠ g) _ l top (1 + (i : Int)) l1 top1 cc w _ HT3.out.S.kept.below HR3.out.lx HE.out).mono ?_
        rintro e w5 ⟨u0, rfl, hr5, hb5, hk5⟩
        obtain ⟨B0, b0, hu0⟩ := Kd.R_slice hr5
        subst hu0
        have hX5 : Xl w5 g (.slice A0 l.length c0) (.int .i64 top) := (hk5.2 g HR3.out.xl.lt (fun e => e.2.2 rfl)).trans HR3.out.xl
        have hy0 := hX5.c0
        have hy1 := hX5.c1
        have hf0 := blk_frozen hX5 0
        have hf1 := blk_frozen hX5 1
        have hst := HR3.out.step (top' := top1) HT3.out hr5 hb5 hk5
        have HT5 := Lib.hid hst.2
        have HR5 := Lib.hid hst.1
        have hz0 := HR5.out.xl.c0
        have hz1 := HR5.out.xl.c1
        clear hst hr5 hb5 hk5 hX5 hx0 hx1
        go_wp2_with fail
        refine (alike_calls HT5.out.S HM1.out HR5.out.lx (fun k hk => hk.2.1)).mono ?_
        rintro e w7 ⟨rfl, S7, hK7⟩
        have HT7 := Lib.hid (HT5.out.with_ S7)
        have HR7 := Lib.hid (HR5.out.kept hK7)
        clear S7 hK7 hz0 hz1 hy0 hy1 hf0 hf1
        obtain ⟨k8, m8, e8, e9, e10⟩ := first_sim HT7.out.F HM1.out
        have HE8 := Lib.hid e8
        have HE9 := Lib.hid e9
        unfold rn at e10
        obtain ⟨m8a, m8b⟩ := e10
        clear e8 e9
        go_wp2_with fail
        refine (First_ts HT7.out).mono ?_
        rintro e w8 ⟨rfl, T8, hg8⟩
        rw [HE9.out]
        have HT8 := Lib.hid T8
        have HR8 := Lib.hid (HR7.out.kept (kd_grown hg8))
        clear T8 hg8
        have hx0 := HR8.out.xl.c0
        have hx1 := HR8.out.xl.c1
        have HC8 := Lib.hid (Kd.R_reads' HR8.out.lx)
        go_wp2_with fail
        refine (turnbuckleref11_Lowest.calls k8 B0 b0 l1 top1 top1 m8 _ HC8.out.2.2 HC8.out.2.1 HE8.out).mono ?_
        rintro e w9 ⟨rfl, hb9⟩
        have HT9 := Lib.hid (HT8.out.with_ (HT8.out.S.then_ hb9))
        have HR9 := Lib.hid (HR8.out.kept (kd_below hb9))
        clear hb9 hx0 hx1
        go_wp2_with fail
        refine (leaf_calls m8 (by omega) (by omega) _).mono ?_
        rintro e w' ⟨rfl, rfl⟩
        go_wp2_with fail
        go_roundg (min dl 80 - (k + 1))
        case measure => omega
        case rel => exact ⟨k + 1, h1, t1, _, l1, top1, by omega, rfl, by go_num, HT9.out, HM1.out, HR9.out⟩
    · have hno : ((dl : Int) ≤ (k : Int)) ∨ ((k : Int) < (dl : Int)) ∧ k = 80 := by omega
      clear hlt
      subst hv0
      rcases hno with hno | ⟨hno, rfl⟩
      all_goals
        go_wp2_with fail
        refine (All_ts HT.out).mono ?_
        rintro e wb ⟨v1, rfl, hrow, Tb, hgb⟩
        have hNl : t.ids.length ≤ 40 := HT.out.F.len
        obtain ⟨A5, c5, rfl, hRi⟩ := Ri.of_row hrow rfl
        have HTb := Lib.hid Tb
        have HRb := Lib.hid (HR.out.kept (kd_grown hgb))
        have HRi := Lib.hid hRi
        obtain ⟨ka, L, hal, hmap⟩ := all_sim HMs.out t 0 top HTb.out.F.T (by omega) (by rw [← HMs.out.tp]; exact HTb.out.F.C.symm) HMs.out.tr
        have HAL := Lib.hid (hal 0)
        have HMAP := Lib.hid hmap
        have hLl : L.length = t.ids.length := by rw [← hmap, List.length_map]
        have HC := Lib.hid (Kd.R_reads' HRb.out.lx)
        have hx0 := HRb.out.xl.c0
        have hx1 := HRb.out.xl.c1
        clear hrow Tb hgb hRi hal hmap
        obtain ⟨M, hM⟩ : ∃ M, t.ids.length = M := ⟨_, rfl⟩
        rw [hM] at hLl hNl ⊢
        have HML := Lib.hid hM
        have HLL := Lib.hid hLl
        clear hM hLl
        go_wp2_with fail
        refine (turnbuckleref11_All.calls _ _ _ l top top L _ HC.out.2.2 HC.out.2.1 HAL.out).mono ?_
        rintro e wc ⟨v2, rfl, hr2, hb2⟩
        obtain ⟨A6, c6, hv6⟩ := Kd.R_slice hr2
        subst hv6
        rw [HLL.out]
        have HR2 := Lib.hid hr2
        have HTc := Lib.hid (HTb.out.with_ (HTb.out.S.then_ hb2))
        have HRi2 := Lib.hid (HRi.out.below hb2)
        clear hr2 hb2 hx0 hx1
        have HGET : Hid (∀ j, j < M → t.ids.getD j 0 = 32 * L.getD j 0 ∧ 0 ≤ L.getD j 0 ∧ L.getD j 0 ≤ 40) := Lib.hid (fun j hj => by
          have hjL : j < L.length := by rw [HLL.out]; exact hj
          have e1 : t.ids.getD j 0 = 32 * L.getD j 0 := by
            rw [← HMAP.out, List.getD_eq_getElem?_getD, List.getElem?_map, List.getD_eq_getElem?_getD, List.getElem?_eq_getElem hjL]
            rfl
          have hmem : t.ids.getD j 0 ∈ t.ids := by
            rw [List.getD_eq_getElem?_getD, List.getElem?_eq_getElem (by rw [HML.out]; exact hj)]
            exact List.getElem_mem _
          have hisn : isN (t.ids.getD j 0) := HTb.out.F.T.isN _ hmem
          unfold isN at hisn
          exact ⟨e1, by omega, by omega⟩)
        have HCC := Lib.hid (Kd.R_reads' HR2.out)
        have HTcw := Lib.hid HTc.out.S.kept
        clear HR HR2 HTb HRb HRi HC HAL HT HMs
        go_wp2_with fail
        go_loopw [17] (fun v wr => ∃ j : Nat, j ≤ M ∧ v = .int .i64 (j : Int) ∧ Below wc.heap.size wc wr) (fun v _ => M - (intOf v).toNat)
        case atStart => exact ⟨0, by omega, rfl, Below.refl _ _⟩
        case round =>
          obtain ⟨j, hj, rfl, hB⟩ := hrel
          have HB := Lib.hid hB
          clear hB
          by_cases hjM : j < M
          · have hdj : decide ((j : Int) < (M : Int)) = true := decide_eq_true (by omega)
            obtain ⟨g5, rfl, hg5, hc5⟩ := (HRi2.out.below HB.out).at_ j (by rw [HML.out]; exact hjM)
            obtain ⟨e1, e2, e3⟩ := HGET.out j hjM
            rw [e1] at hc5
            obtain ⟨ad6, rfl, hc6⟩ := Kd.at_int (Kd.C_below HCC.out.2.2 HB.out) (j : Int) (by omega) (by rw [HLL.out]; omega)
            unfold rd at hc6
            rw [Int.toNat_natCast] at hc6
            generalize L.getD j 0 = y at *
            have hjM2 : (j : Int) < (M : Int) := by omega
            clear e1 hg5
            go_wp2_with fail
            go_quiet ((go_at_call 13; exact leaf_quiet _ (by omega) (by omega) _ _))
            go_wp2
            go_roundw
            case rel => exact ⟨j + 1, by omega, by go_num, HB.out.trans ⟨rfl, rfl, rfl, Nat.le_refl _, fun _ _ => rfl⟩⟩
            case measure => simp [intOf]; omega
          · have hdj : decide ((j : Int) < (M : Int)) = false := decide_eq_false (by omega)
            go_wp2
            go_ret
            exact ⟨rfl, HTcw.out.then_ HB.out⟩
end Go.Proofs.Ythkppnkhiimaeaa.PTreePlays
