/- The reference's Text: the walk. -/
import Derived.Test.YtlomgbackphmmaaDoorInRf2
import Derived.Test.YtlomgbackphmmaaDoorInBx
import Derived.Test.YtlomgbackphmmaaDoorInS
import Derived.Test.YtlomgbackphmmaaDoorRg
import Derived.Deep.DeepCutAuto
set_option linter.unusedVariables false
set_option linter.unusedSimpArgs false
namespace Go.Proofs.YtlomgbackphmmaaDoor.RefC
open Go.RowKit Go.Lib Go.Proofs.YtlomgbackphmmaaDoorW.PrintWords Go.Proofs.YtlomgbackphmmaaDoor.PInsnReads
open Go.Proofs.YtlomgbackphmmaaDoor (Yes OpV Settled st_val st_move st_assign st_call region_settled edges_all settled_all puts Ins z0 chk isOp bnd hasW over dig dig_size data_inj txt parts wl wrd chk_op tx Bx)

theorem ix (P : ByteArray) (i : Int) (h0 : 0 ≤ i) (h1 : i < (P.size : Int)) (w : World) : (Instr.index 9 (.string P) (.int .i64 i)).run Tryd.prog w = .ok (.int .u8 (bt P i)) w := by
  rw [run_index_string w 9 P .i64 i Tryd.underlying9, dif_pos ⟨h0, h1⟩]
  rw [bt_at]
theorem sl (P : ByteArray) (j : Nat) (w : World) (h : 2 * j + 2 ≤ P.size) : (Instr.slice 9 (.string P) (some (.int .i64 (2 * (j : Int) + 1))) (some (.int .i64 (2 * (j : Int) + 2))) none).run Tryd.prog w = .ok (.string (P.extract (2 * j + 1) (2 * j + 2))) w := by
  rw [run_slice_string_if w 9 P .i64 .i64 _ _ Tryd.underlying9, if_pos ⟨by omega, by omega⟩, if_pos ⟨by omega, by omega⟩]
  rw [show (2 * (j : Int) + 1).toNat = 2 * j + 1 from by omega, show (2 * (j : Int) + 2).toNat = 2 * j + 2 from by omega]
theorem addS (a b : ByteArray) (h : a.size + b.size ≤ 1000) (w : World) : (binOp .add 9 (.string a) (.string b)).run Tryd.prog w = .ok (.string (a ++ b)) w := by
  have h2 : a.size + b.size ≤ 9223372036854775807 := by omega
  have h3 : (a ++ b).size ≤ 9223372036854775807 := by rw [size_add]; exact h2
  go_simp
theorem head_ix (c : Int) (n : Nat) (h1 : 1 ≤ c) (h2 : c ≤ (n : Int)) (hn : n ≤ 22) : (c - 1) % 256 = c - 1 := by omega

set_option maxRecDepth 100000 in
set_option maxHeartbeats 4000000 in
theorem RText (x : Ins) (hx : x.Ok) (w : World) : Calls Tryd.prog 12 #[.agg x.cells] w fun e w' => e = .returned (.tuple #[.string (tx x), .int .i64 (chk x)]) ∧ Below w.heap.size w w' := by
  have HC := Lib.hid (fun w => RCheck x hx w)
  have HV := Lib.hid (fun f w => Rvalue x hx f w)
  by_cases h : chk x = 0
  · have htx : tx x = txt x := by unfold tx; rw [if_pos h]
    obtain ⟨F, P, W, m, s0, hp⟩ := pt x hx h
    have hsz : ∀ j, (rts x P W s0 j).size ≤ 20 + 12 * j := rts_size x hx P W hp.wz s0 hp.s0z
    have HSZ := Lib.hid hsz
    have HRT0 : Hid (rts x P W s0 0 = s0) := Lib.hid rfl
    have HRS : Hid (∀ j, rts x P W s0 (j + 1) = pcs x P W j (rts x P W s0 j)) := Lib.hid (fun j => rfl)
    have HKD := Lib.hid hp.kd
    have HWD := Lib.hid hp.word
    have HFV := Lib.hid (fun f => fv_range x hx f)
    have HHD := Lib.hid hp.head
    have HALL := Lib.hid hp.all
    have hop := chk_op h
    have hw : wrap64 x.op = x.op := w64 (by omega) (by omega)
    have HPT := Lib.hid (fun w => turnbuckleref06_Parts.calls x.op F P w hp.f)
    have HWO := Lib.hid (fun w => turnbuckleref06_Words.calls 10 x.op W w hp.w)
    have hP := hp.sz
    have hm4 := hp.m4
    have HM := Lib.hid hp.wl
    have hfz := hp.fz
    have HWZ : Hid (∀ i : Nat, (W.getD i ⟨#[]⟩).size ≤ 9) := Lib.hid (getD_sz W hp.wz)
    rw [htx]
    clear htx hp hsz hw
    rw [h] at HC ⊢
    clear h hx
    obtain ⟨xo, xa, xb, xc, xi⟩ := x
    dsimp only at HPT HWO HHD
    generalize rts ⟨xo, xa, xb, xc, xi⟩ P W s0 = rt at *
    generalize txt ⟨xo, xa, xb, xc, xi⟩ = tt at *
    go_enter Tryd.func12, Tryd.ntmps12
    go_wp2_with fail
    have HX0 := Lib.hid (Bx.new w ⟨xo, xa, xb, xc, xi⟩)
    have HA := Lib.hid ((Below.refl _ w).alloc (Nat.le_refl _) (.cells #[.int .u8 xo, .int .u8 xa, .int .u8 xb, .int .u8 xc, .int .u32 xi] 24))
    refine (HC.out _).mono ?_
    rintro e w1 ⟨rfl, hB1⟩
    have HX1 := Lib.hid (HX0.out.below hB1)
    have HB1 := Lib.hid (HA.out.trans (hB1.mono HA.out.size))
    clear hB1 HX0 HA
    have x0 := HX1.out.k0
    go_wp2_with fail
    refine (HPT.out _).mono ?_
    rintro e w2 ⟨rfl, hD2⟩
    have HX2 := Lib.hid (HX1.out.below hD2.below)
    have HB2 := Lib.hid (HB1.out.trans (hD2.below.mono HB1.out.size))
    clear hD2 HX1 HB1 x0
    go_wp2_with fail
    refine (HWO.out _).mono ?_
    rintro e w3 ⟨v3, rfl, hR3, hB3⟩
    have HX3 := Lib.hid (HX2.out.below hB3)
    have HB3 := Lib.hid (HB2.out.trans (hB3.mono HB2.out.size))
    obtain ⟨A3, c3, rfl⟩ := Kd.R_slice hR3
    have HR3 := Lib.hid (Kd.R_reads' hR3).2.2
    clear hB3 HX2 HB2 hR3
    have hw0 := HX3.out.k3
    go_upto_region 8 with (fail)
    go_cut [35] (fun v wc => ∃ b : Bool, v = .bool b ∧ Hid (b = false → s0 = F) ∧ Hid (b = true → 1 ≤ xc ∧ xc ≤ (W.length : Int) ∧
      ((F = ⟨#[]⟩ ∧ s0 = W.getD (xc - 1).toNat ⟨#[]⟩) ∨ (F = ⟨#[105]⟩ ∧ s0 = W.getD (xc - 1).toNat ⟨#[]⟩ ++ (⟨#[105]⟩ : ByteArray)) ∨ (F = ⟨#[106]⟩ ∧ s0 = (⟨#[106]⟩ : ByteArray) ++ W.getD (xc - 1).toNat ⟨#[]⟩) ∨
        (F = ⟨#[106, 105]⟩ ∧ s0 = ((⟨#[106]⟩ : ByteArray) ++ W.getD (xc - 1).toNat ⟨#[]⟩) ++ (⟨#[105]⟩ : ByteArray)))) ∧ Hid (Bx wc w.heap.size ⟨xo, xa, xb, xc, xi⟩) ∧ Hid (Kd.string.C wc A3 W.length W) ∧ Hid (Below w.heap.size w wc))
    case first =>
      rcases HHD.out with ⟨h1, h2⟩ | ⟨h1, h2, h3⟩ | ⟨h1, h2, h3⟩
      · have q1 : decide (0 < W.length) = false := decide_eq_false (by omega)
        have q2 : decide ((0 : Int) < (W.length : Int)) = false := decide_eq_false (by omega)
        have H2 := Lib.hid h2
        clear h1 h2 HHD
        go_wp2
        go_meet
        exact ⟨false, rfl, Lib.hid (fun _ => H2.out), Lib.hid (fun e => absurd e (by decide)), HX3, HR3, HB3⟩
      · subst h2
        have q1 : decide (0 < W.length) = true := decide_eq_true (by omega)
        have q2 : decide ((0 : Int) < (W.length : Int)) = true := decide_eq_true (by omega)
        have H2 := Lib.hid h3
        clear h1 h3 HHD
        go_wp2
        go_meet
        exact ⟨false, rfl, Lib.hid (fun _ => H2.out), Lib.hid (fun e => absurd e (by decide)), HX3, HR3, HB3⟩
      · have q1 : decide (0 < W.length) = true := decide_eq_true (by omega)
        have q2 : decide ((0 : Int) < (W.length : Int)) = true := decide_eq_true (by omega)
        have q3 : (xo != 14) = true := by rw [bne_iff_ne]; exact h2
        have H2 := Lib.hid h3
        clear h1 h2 h3 HHD
        go_wp2
        go_meet
        exact ⟨true, rfl, Lib.hid (fun e => absurd e (by decide)), Lib.hid (fun _ => H2.out), HX3, HR3, HB3⟩
    case rest =>
      clear HHD HX3 HR3 HB3 hw0
      obtain ⟨b, rfl, HF, HT, HX3, HR3, HB3⟩ := hcut
      have hw0 := HX3.out.k3
      go_upto_if 35 with (fail)
      go_cut [9] (fun v wc => v = .string s0 ∧ Hid (Bx wc w.heap.size ⟨xo, xa, xb, xc, xi⟩) ∧ Hid (Kd.string.C wc A3 W.length W) ∧ Hid (Below w.heap.size w wc))
      case first =>
        cases b
        · obtain rfl := HF.out rfl
          go_wp2
          go_meet
          exact ⟨rfl, HX3, HR3, HB3⟩
        · obtain ⟨h1, h2, h3⟩ := HT.out rfl
          clear HF HT
          have hr : (xc - 1) % 256 = xc - 1 := head_ix xc W.length h1 h2 HM.out
          have p1 : 0 ≤ xc - 1 := by omega
          have p2 : xc - 1 < (W.length : Int) := by omega
          obtain ⟨ad, rfl, hcell⟩ := Kd.at_string HR3.out (xc - 1) p1 p2
          have hrd : rdOf ByteArray.empty W (xc - 1) = W.getD (xc - 1).toNat ⟨#[]⟩ := rfl
          rw [hrd, show (xc - 1).toNat = xc.toNat - 1 from by omega] at hcell
          have hz := HWZ.out (xc.toNat - 1)
          rw [show (xc - 1).toNat = xc.toNat - 1 from by omega] at h3
          have H3 := Lib.hid h3
          clear h3 hrd
          generalize W.getD (xc.toNat - 1) ⟨#[]⟩ = wd at *
          rcases H3.out with ⟨rfl, rfl⟩ | ⟨rfl, rfl⟩ | ⟨rfl, rfl⟩ | ⟨rfl, rfl⟩
          all_goals
            clear H3
            go_wp2
            go_meet
            exact ⟨rfl, HX3, HR3, HB3⟩
      case rest =>
        clear HX3 HR3 HB3 HF HT hw0
        obtain ⟨rfl, HX3, HR3, HB3⟩ := hcut
        go_wp2_with fail
        go_loopw [9, 11] (fun s iv wr => ∃ j : Nat, j ≤ m ∧ s = .string (rt j) ∧ iv = .int .i64 (2 * (j : Int)) ∧ Hid (Bx wr w.heap.size ⟨xo, xa, xb, xc, xi⟩) ∧ Hid (Kd.string.C wr A3 W.length W) ∧ Hid (Below w.heap.size w wr)) (fun _ iv _ => 10 - (RowKit.intOf iv).toNat)
        case atStart => exact ⟨0, by omega, by rw [HRT0.out], rfl, HX3, HR3, HB3⟩
        case round =>
          obtain ⟨j, hjm, rfl, rfl, HX, HC3, HB⟩ := hrel
          clear HX3 HR3 HB3
          by_cases hgo : j < m
          · have hix0 := ix P (2 * (j : Int)) (by omega) (by omega)
            have hix1 := ix P (2 * (j : Int) + 1) (by omega) (by omega)
            have hkd := HKD.out j hgo
            have hwd := HWD.out j hgo
            have hrs := HRS.out j
            unfold pcs at hrs
            have hfv := HFV.out (bt P (2 * (j : Int)))
            have HVf := Lib.hid (fun w => HV.out (bt P (2 * (j : Int))) w)
            generalize bt P (2 * (j : Int)) = f at *
            generalize bt P (2 * (j : Int) + 1) = kd at *
            generalize fv ⟨xo, xa, xb, xc, xi⟩ f = v at *
            have hss : (rt j).size ≤ 20 + 12 * j := HSZ.out j
            have HRJ := Lib.hid hrs
            have HWDj := Lib.hid hwd
            have HKDj := Lib.hid hkd
            obtain ⟨sj, hsj⟩ : ∃ sj, sj = rt j := ⟨_, rfl⟩
            rw [← hsj] at hss HRJ ⊢
            clear hrs hwd hkd hsj
            go_upto_region 21 with (fail)
            go_cut [12] (fun vv wc => vv = .int .u32 v ∧ Hid (Bx wc w.heap.size ⟨xo, xa, xb, xc, xi⟩) ∧ Hid (Kd.string.C wc A3 W.length W) ∧ Hid (Below w.heap.size w wc))
            case first =>
              have hb0 : Below wr.heap.size wr wr.drew := (Below.refl _ wr).drew
              have HXd := Lib.hid (HX.out.below hb0)
              have HCd := Lib.hid (Kd.C_below HC3.out hb0)
              have HBd := Lib.hid (HB.out.trans (hb0.mono HB.out.size))
              clear hb0
              have x0 := HXd.out.k0
              have x1 := HXd.out.k1
              have x2 := HXd.out.k2
              have x3 := HXd.out.k3
              have x4 := HXd.out.k4
              go_region_with (go_at_call 27; refine (HVf.out _).mono ?_; rintro e w5 ⟨rfl, hB5⟩; have HX5 := Lib.hid (HXd.out.below hB5); have HC5 := Lib.hid (Kd.C_below HCd.out hB5); have HB5 := Lib.hid (HBd.out.trans (hB5.mono HBd.out.size)); clear hB5)
              all_goals
                go_wp2
                go_meet
                exact ⟨rfl, HX5, HC5, HB5⟩
            case rest =>
              clear HX HC3 HB hix0
              obtain ⟨rfl, HX, HC3, HB⟩ := hcut
              have hdz : (dig v.toNat).size ≤ 10 := dig_size _ (by omega)
              have hkk := HKDj.out
              clear HKDj HVf
              rcases hkk with rfl | rfl | rfl | rfl | rfl | rfl | rfl
              · have e : rt (j + 1) = _ := HRJ.out.trans (if_pos (.inl rfl))
                have HE := Lib.hid e
                clear e HRJ HWDj
                go_wp2_with fail
                refine (RDecimal v hfv.1 hfv.2 _).mono ?_
                rintro e w5 ⟨rfl, hB5⟩
                have HX5 := Lib.hid (HX.out.below hB5)
                have HC5 := Lib.hid (Kd.C_below HC3.out hB5)
                have HB5 := Lib.hid (HB.out.trans (hB5.mono HB.out.size))
                clear hB5
                go_wp2
                go_roundw
                case rel => exact ⟨j + 1, by omega, by rw [HE.out], by go_num, HX5, HC5, HB5⟩
                case measure => simp [RowKit.intOf]; omega
              · have e : rt (j + 1) = _ := HRJ.out.trans (if_pos (.inr rfl))
                have HE := Lib.hid e
                clear e HRJ HWDj
                go_wp2_with fail
                refine (RDecimal v hfv.1 hfv.2 _).mono ?_
                rintro e w5 ⟨rfl, hB5⟩
                have HX5 := Lib.hid (HX.out.below hB5)
                have HC5 := Lib.hid (Kd.C_below HC3.out hB5)
                have HB5 := Lib.hid (HB.out.trans (hB5.mono HB.out.size))
                clear hB5
                go_wp2
                go_roundw
                case rel => exact ⟨j + 1, by omega, by rw [HE.out], by go_num, HX5, HC5, HB5⟩
                case measure => simp [RowKit.intOf]; omega
              · have e : rt (j + 1) = _ := HRJ.out.trans ((if_neg (by decide)).trans (if_pos (.inl rfl)))
                have HE := Lib.hid e
                clear e HRJ HWDj
                have hsl : ∀ w, (Instr.slice 9 (.string P) (some (.int .i64 (2 * (j : Int) + 1))) (some (.int .i64 (2 * (j : Int) + 2))) none).run Tryd.prog w = .ok (.string (P.extract (2 * j + 1) (2 * j + 2))) w := fun w => sl P j w (by omega)
                have hpz : (P.extract (2 * j + 1) (2 * j + 2)).size ≤ 1 := by rw [ByteArray.size_extract]; omega
                obtain ⟨pe, hpe⟩ : ∃ pe, P.extract (2 * j + 1) (2 * j + 2) = pe := ⟨_, rfl⟩
                rw [hpe] at hsl hpz HE
                have g1 : 2 * (j : Int) + 2 ≤ 2 * (m : Int) := by omega
                have g2 : (0 : Int) ≤ 2 * (j : Int) + 2 := by omega
                have g3 : (0 : Int) ≤ 2 * (j : Int) + 1 := by omega
                have g4 : 2 * (j : Int) + 1 ≤ 2 * (j : Int) + 2 := by omega
                have gw1 : IntKind.i64.wrap (2 * (j : Int) + 1) = 2 * (j : Int) + 1 := by rw [IntKind.wrap_i64]; omega
                have gw2 : IntKind.i64.wrap (2 * (j : Int) + 2) = 2 * (j : Int) + 2 := by rw [IntKind.wrap_i64]; omega
                have g5 : (2 * (j : Int) + 1).toNat = 2 * j + 1 := by omega
                have g6 : (2 * (j : Int) + 2).toNat = 2 * j + 2 := by omega
                have g7 : 2 * (j : Int) + 2 ≤ (P.size : Int) := by omega
                have ha1 : ¬ (9223372036854775807 < sj.size + 1 + pe.size) := by omega
                have ha2 : ¬ (9223372036854775807 < sj.size + 1 + pe.size + (dig v.toNat).size) := by omega
                go_wp2_with fail
                have HXd := Lib.hid (HX.out.below ((Below.refl _ _).drew))
                have HCd := Lib.hid (Kd.C_below HC3.out ((Below.refl _ _).drew))
                have HBd := Lib.hid HB.out.drew
                go_region_with (go_at_call 28; refine (RDecimal v hfv.1 hfv.2 _).mono ?_; rintro e w5 ⟨rfl, hB5⟩; have HX5 := Lib.hid (HXd.out.below hB5); have HC5 := Lib.hid (Kd.C_below HCd.out hB5); have HB5 := Lib.hid (HBd.out.trans (hB5.mono HBd.out.size)); clear hB5)
                all_goals
                  go_wp2
                  go_roundw
                  case rel => exact ⟨j + 1, by omega, by rw [HE.out], by go_num, HX5, HC5, HB5⟩
                  case measure => simp [RowKit.intOf]; omega
              · have e : rt (j + 1) = _ := HRJ.out.trans ((if_neg (by decide)).trans (if_pos (.inr (.inl rfl))))
                have HE := Lib.hid e
                clear e HRJ HWDj
                have hsl : ∀ w, (Instr.slice 9 (.string P) (some (.int .i64 (2 * (j : Int) + 1))) (some (.int .i64 (2 * (j : Int) + 2))) none).run Tryd.prog w = .ok (.string (P.extract (2 * j + 1) (2 * j + 2))) w := fun w => sl P j w (by omega)
                have hpz : (P.extract (2 * j + 1) (2 * j + 2)).size ≤ 1 := by rw [ByteArray.size_extract]; omega
                obtain ⟨pe, hpe⟩ : ∃ pe, P.extract (2 * j + 1) (2 * j + 2) = pe := ⟨_, rfl⟩
                rw [hpe] at hsl hpz HE
                have g1 : 2 * (j : Int) + 2 ≤ 2 * (m : Int) := by omega
                have g2 : (0 : Int) ≤ 2 * (j : Int) + 2 := by omega
                have g3 : (0 : Int) ≤ 2 * (j : Int) + 1 := by omega
                have g4 : 2 * (j : Int) + 1 ≤ 2 * (j : Int) + 2 := by omega
                have gw1 : IntKind.i64.wrap (2 * (j : Int) + 1) = 2 * (j : Int) + 1 := by rw [IntKind.wrap_i64]; omega
                have gw2 : IntKind.i64.wrap (2 * (j : Int) + 2) = 2 * (j : Int) + 2 := by rw [IntKind.wrap_i64]; omega
                have g5 : (2 * (j : Int) + 1).toNat = 2 * j + 1 := by omega
                have g6 : (2 * (j : Int) + 2).toNat = 2 * j + 2 := by omega
                have g7 : 2 * (j : Int) + 2 ≤ (P.size : Int) := by omega
                have ha1 : ¬ (9223372036854775807 < sj.size + 1 + pe.size) := by omega
                have ha2 : ¬ (9223372036854775807 < sj.size + 1 + pe.size + (dig v.toNat).size) := by omega
                go_wp2_with fail
                have HXd := Lib.hid (HX.out.below ((Below.refl _ _).drew))
                have HCd := Lib.hid (Kd.C_below HC3.out ((Below.refl _ _).drew))
                have HBd := Lib.hid HB.out.drew
                go_region_with (go_at_call 28; refine (RDecimal v hfv.1 hfv.2 _).mono ?_; rintro e w5 ⟨rfl, hB5⟩; have HX5 := Lib.hid (HXd.out.below hB5); have HC5 := Lib.hid (Kd.C_below HCd.out hB5); have HB5 := Lib.hid (HBd.out.trans (hB5.mono HBd.out.size)); clear hB5)
                all_goals
                  go_wp2
                  go_roundw
                  case rel => exact ⟨j + 1, by omega, by rw [HE.out], by go_num, HX5, HC5, HB5⟩
                  case measure => simp [RowKit.intOf]; omega
              · have e : rt (j + 1) = _ := HRJ.out.trans ((if_neg (by decide)).trans (if_pos (.inr (.inr rfl))))
                have HE := Lib.hid e
                clear e HRJ HWDj
                have hsl : ∀ w, (Instr.slice 9 (.string P) (some (.int .i64 (2 * (j : Int) + 1))) (some (.int .i64 (2 * (j : Int) + 2))) none).run Tryd.prog w = .ok (.string (P.extract (2 * j + 1) (2 * j + 2))) w := fun w => sl P j w (by omega)
                have hpz : (P.extract (2 * j + 1) (2 * j + 2)).size ≤ 1 := by rw [ByteArray.size_extract]; omega
                obtain ⟨pe, hpe⟩ : ∃ pe, P.extract (2 * j + 1) (2 * j + 2) = pe := ⟨_, rfl⟩
                rw [hpe] at hsl hpz HE
                have g1 : 2 * (j : Int) + 2 ≤ 2 * (m : Int) := by omega
                have g2 : (0 : Int) ≤ 2 * (j : Int) + 2 := by omega
                have g3 : (0 : Int) ≤ 2 * (j : Int) + 1 := by omega
                have g4 : 2 * (j : Int) + 1 ≤ 2 * (j : Int) + 2 := by omega
                have gw1 : IntKind.i64.wrap (2 * (j : Int) + 1) = 2 * (j : Int) + 1 := by rw [IntKind.wrap_i64]; omega
                have gw2 : IntKind.i64.wrap (2 * (j : Int) + 2) = 2 * (j : Int) + 2 := by rw [IntKind.wrap_i64]; omega
                have g5 : (2 * (j : Int) + 1).toNat = 2 * j + 1 := by omega
                have g6 : (2 * (j : Int) + 2).toNat = 2 * j + 2 := by omega
                have g7 : 2 * (j : Int) + 2 ≤ (P.size : Int) := by omega
                have ha1 : ¬ (9223372036854775807 < sj.size + 1 + pe.size) := by omega
                have ha2 : ¬ (9223372036854775807 < sj.size + 1 + pe.size + (dig v.toNat).size) := by omega
                go_wp2_with fail
                have HXd := Lib.hid (HX.out.below ((Below.refl _ _).drew))
                have HCd := Lib.hid (Kd.C_below HC3.out ((Below.refl _ _).drew))
                have HBd := Lib.hid HB.out.drew
                go_region_with (go_at_call 28; refine (RDecimal v hfv.1 hfv.2 _).mono ?_; rintro e w5 ⟨rfl, hB5⟩; have HX5 := Lib.hid (HXd.out.below hB5); have HC5 := Lib.hid (Kd.C_below HCd.out hB5); have HB5 := Lib.hid (HBd.out.trans (hB5.mono HBd.out.size)); clear hB5)
                all_goals
                  go_wp2
                  go_roundw
                  case rel => exact ⟨j + 1, by omega, by rw [HE.out], by go_num, HX5, HC5, HB5⟩
                  case measure => simp [RowKit.intOf]; omega
              · have e : rt (j + 1) = _ := HRJ.out.trans ((if_neg (by decide)).trans ((if_neg (by decide)).trans (if_pos rfl)))
                have HE := Lib.hid e
                have hww := HWDj.out rfl
                clear e HRJ HWDj
                have hm := HM.out
                have hr : (v - 1) % 4294967296 = v - 1 := by omega
                have p1 : 0 ≤ v - 1 := by omega
                have p2 : v - 1 < (W.length : Int) := by omega
                obtain ⟨ad, rfl, hcell⟩ := Kd.at_string HC3.out (v - 1) p1 p2
                have hrd : rdOf ByteArray.empty W (v - 1) = W.getD (v - 1).toNat ⟨#[]⟩ := rfl
                rw [hrd, show (v - 1).toNat = v.toNat - 1 from by omega] at hcell
                have hz := HWZ.out (v.toNat - 1)
                rw [show (v - 1).toNat = v.toNat - 1 from by omega] at HE
                clear hrd
                generalize W.getD (v.toNat - 1) ⟨#[]⟩ = wd at *
                go_wp2
                go_roundw
                case rel => exact ⟨j + 1, by omega, by rw [HE.out], by go_num, HX, HC3, HB⟩
                case measure => simp [RowKit.intOf]; omega
              · have e : rt (j + 1) = _ := HRJ.out.trans ((if_neg (by decide)).trans ((if_neg (by decide)).trans (if_neg (by decide))))
                have HE := Lib.hid e
                clear e HRJ HWDj
                go_wp2_with fail
                refine (RDecimal v hfv.1 hfv.2 _).mono ?_
                rintro e w5 ⟨rfl, hB5⟩
                have HX5 := Lib.hid (HX.out.below hB5)
                have HC5 := Lib.hid (Kd.C_below HC3.out hB5)
                have HB5 := Lib.hid (HB.out.trans (hB5.mono HB.out.size))
                clear hB5
                go_wp2
                go_roundw
                case rel => exact ⟨j + 1, by omega, by rw [HE.out], by go_num, HX5, HC5, HB5⟩
                case measure => simp [RowKit.intOf]; omega
          · obtain rfl : j = m := by omega
            have HAL := HALL.out
            rw [HAL]
            clear HAL
            go_wp2
            go_ret2
            exact ⟨rfl, HB.out⟩
  · have htx : tx x = ⟨#[]⟩ := by unfold tx; rw [if_neg h]
    have q1 : (chk x != 0) = true := by rw [bne_iff_ne]; exact h
    rw [htx]
    clear htx h hx
    obtain ⟨xo, xa, xb, xc, xi⟩ := x
    generalize chk ⟨xo, xa, xb, xc, xi⟩ = c at *
    go_enter Tryd.func12, Tryd.ntmps12
    go_wp2_with fail
    have HA := Lib.hid ((Below.refl _ w).alloc (Nat.le_refl _) (.cells #[.int .u8 xo, .int .u8 xa, .int .u8 xb, .int .u8 xc, .int .u32 xi] 24))
    refine (HC.out _).mono ?_
    rintro e w1 ⟨rfl, hB1⟩
    have HB1 := Lib.hid (HA.out.trans (hB1.mono HA.out.size))
    clear hB1 HA
    go_wp2
    go_ret2
    exact ⟨rfl, HB1.out⟩
end Go.Proofs.YtlomgbackphmmaaDoor.RefC
