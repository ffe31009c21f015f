/- The law InsnBack. -/
import Derived.Test.YtlomgbackphmmaaDoorInAps
import Derived.Test.YtlomgbackphmmaaDoorInJ
import Derived.Test.YtlomgbackphmmaaDoorInQ3
import Derived.Test.YtlomgbackphmmaaDoorInCv
import Derived.BigQuiet
set_option linter.unusedVariables false
set_option linter.unusedSimpArgs false
namespace Go.Proofs.YtlomgbackphmmaaDoor
open Go.RowKit Go.Lib

def Upt (L : List Ins) (i : Nat) (al : Bool) : Prop := al = true ↔ ∀ j, j < i → chk (L.getD j z0) = 0
theorem Upt.zero (L : List Ins) : Upt L 0 true := ⟨fun _ j hj => absurd hj (by omega), fun _ => rfl⟩
theorem Upt.yes {L : List Ins} {i : Nat} {al : Bool} (h : Upt L i al) (hc : chk (L.getD i z0) = 0) : Upt L (i + 1) al :=
  ⟨fun e j hj => by
    by_cases hji : j < i
    · exact h.1 e j hji
    · obtain rfl : j = i := by omega
      exact hc, fun e => h.2 (fun j hj => e j (by omega))⟩
theorem Upt.no {L : List Ins} {i : Nat} {al : Bool} (hc : chk (L.getD i z0) ≠ 0) : Upt L (i + 1) false :=
  ⟨fun e => absurd e (by decide), fun e => absurd (e i (by omega)) hc⟩
theorem Upt.keep {L : List Ins} {i : Nat} (h : Upt L i false) : Upt L (i + 1) false :=
  ⟨fun e => absurd e (by decide), fun e => h.2 (fun j hj => e j (by omega))⟩

theorem Upt.all {L : List Ins} {al : Bool} (h : Upt L L.length al) : al = true ↔ ∀ x ∈ L, chk x = 0 :=
  ⟨fun e x hx => by
    obtain ⟨i, hi, rfl⟩ := getD_of_mem hx
    exact h.1 e i hi, fun e => h.2 (fun j hj => e _ (getD_mem hj))⟩

/-- The cells of an instruction, in every world from here on. -/
def At5 (wr : World) (ad : Addr) (x : Ins) : Prop := ∀ W, Below wr.heap.size wr W →
    W.cell? ad = some (.int .u8 x.op) ∧ W.cell? ⟨ad.block, ad.off + 1, none⟩ = some (.int .u8 x.a) ∧
    W.cell? ⟨ad.block, ad.off + 2, none⟩ = some (.int .u8 x.b) ∧ W.cell? ⟨ad.block, ad.off + 3, none⟩ = some (.int .u8 x.c) ∧
    W.cell? ⟨ad.block, ad.off + 4, none⟩ = some (.int .u32 x.imm)
theorem Pr.at5 {w : World} {A : Option Addr} {L : List Ins} (h : Pr w A L) (i : Nat) (hi : i < L.length) : ∃ ad : Addr, A = some ad ∧ At5 w (ad.add (i * 5)) (L.getD i z0) := by
  obtain ⟨ad, e, hl, h0, h1, h2, h3, h4⟩ := h.at_ i hi
  refine ⟨ad, e, fun W hb => ?_⟩
  have hl' : (ad.add (i * 5)).block < w.heap.size := by rw [block_add]; exact hl
  exact ⟨(hb.cell hl').trans h0, (hb.cell (p := ⟨(ad.add (i * 5)).block, (ad.add (i * 5)).off + 1, none⟩) hl').trans h1, (hb.cell (p := ⟨(ad.add (i * 5)).block, (ad.add (i * 5)).off + 2, none⟩) hl').trans h2,
    (hb.cell (p := ⟨(ad.add (i * 5)).block, (ad.add (i * 5)).off + 3, none⟩) hl').trans h3, (hb.cell (p := ⟨(ad.add (i * 5)).block, (ad.add (i * 5)).off + 4, none⟩) hl').trans h4⟩

set_option maxRecDepth 100000 in
set_option maxHeartbeats 4000000 in
theorem InsnBack_calls (A B : Option Addr) (ca cb : Nat) (L : List Ins) (bs : List Int) (hcb : bs.length ≤ cb) (hl : L.length ≤ 1048576) (hm : bs.length ≤ 1048576) (w : World) (hP : Pr w A L) (hQ : By w B bs) (h : Ev w) :
    Calls Tryd.prog 7 #[.slice A L.length ca, .slice B bs.length cb] w fun e w' => e = .returned (.bool true) ∧ Below w.heap.size w w' := by
  have H := Lib.hid h
  have HS := Lib.hid shown_calls
  have HP := Lib.hid hP
  have HQ := Lib.hid hQ
  have HL := Lib.hid hl
  have HT := Lib.hid (fun i w hw => Text_any (L.getD i z0) (hP.okD i) w hw)
  have HC := Lib.hid (fun i w => Check_any (L.getD i z0) (hP.okD i) w)
  have HR : Hid (∀ i w, chk (L.getD i z0) = 0 → Ev w → Calls Tryd.prog 15 #[.string (tx (L.getD i z0))] w fun e w' => e = .returned (.tuple #[.agg (L.getD i z0).cells, .int .i64 0]) ∧ Below w.heap.size w w') := Lib.hid (fun i w hc hw => by
    have ht : tx (L.getD i z0) = txt (L.getD i z0) := by unfold tx; rw [if_pos hc]
    rw [ht]
    have hsz := txt_size (L.getD i z0) (hP.okD i)
    have := Read_any (txt (L.getD i z0)) (by omega) w hw
    unfold RdPost at this
    rw [(rd_back _ (hP.okD i) hc).1, (rd_back _ (hP.okD i) hc).2] at this
    exact this)
  have HBL := Lib.hid (fun w hP => bytes_u8 A ca L hl (by exact HP.out.ok) w hP)
  have hnn : (encs L).length = 8 * L.length := encs_length L
  have HPL := Lib.hid (fun A c w hc hP => parse_e A c (8 * L.length) (encs L) hnn.symm hc (by omega) w hP)
  have HPB := Lib.hid (fun w hP => parse_e B cb bs.length bs rfl hcb (by omega) w hP)
  have HZ : Hid (prsE (encs L) = 0 ↔ L.length ≤ 128 ∧ ∀ x ∈ L, chk x = 0) := Lib.hid (prsE_encs_zero L hP.ok)
  have HZL : Hid (prsE (encs L) = 0 → prsL (encs L) = L) := Lib.hid (prsL_encs L hP.ok)
  have HSM : Hid (∀ (A B : Option Addr) (c1 c2 : Nat) (w : World), Pr w A L → Pr w B L → Calls Tryd.prog 19 #[.slice A L.length c1, .slice B L.length c2] w fun e w' => e = .returned (.bool true) ∧ Below w.heap.size w w') :=
    Lib.hid (fun A B c1 c2 w hP hQ => by
      have := same_any A B c1 c2 L L w hP hQ (by omega)
      rw [decide_eq_true rfl] at this
      exact this)
  have HBB : Hid (prsE bs = 0 → ∀ (A : Option Addr) (c : Nat) (w : World), Pr w A (prsL bs) → Calls Tryd.prog 20 #[.slice A (prsL bs).length c] w fun e w' => ∃ B c', e = .returned (.slice B (8 * (prsL bs).length) c') ∧ By w' B bs ∧ Below w.heap.size w w') := Lib.hid (fun h0 A c w hp => by
    have hn9 := pe_nine bs h0
    have hlen : (prsL bs).length = bs.length / 8 := by unfold prsL; rw [if_pos h0]; simp
    have := bytes_u8 A c (prsL bs) (by omega) hp.ok w hp
    rw [encs_prsL bs h0 hQ.rng] at this
    exact this.mono fun e w' ⟨B, c', he, _, _, hy, hB⟩ => ⟨B, c', he, hy, hB⟩)
  clear h hP hQ hnn hl
  have hl := HL.out
  generalize hnL : L.length = n at *
  have HNL := Lib.hid hnL
  clear hnL
  go_enter Tryd.func7, Tryd.ntmps7
  go_wp2_with fail
  refine (HS.out _ H.out).mono ?_
  rintro e w1 ⟨rfl, hB1⟩
  have HB1 := Lib.hid hB1
  clear hB1
  go_wp2_with fail
  go_loopw [6, 7] (fun v iv wr => ∃ (i : Nat) (al : Bool), i ≤ n ∧ v = .bool al ∧ iv = .int .i64 (i : Int) ∧ Hid (Upt L i al) ∧ Hid (Below w.heap.size w wr)) (fun _ iv _ => n - (RowKit.intOf iv).toNat)
  case atStart => exact ⟨0, true, by omega, rfl, rfl, Lib.hid (Upt.zero L), HB1⟩
  case round =>
    obtain ⟨i, al, hin, rfl, rfl, HU, HB⟩ := hrel
    clear HB1
    by_cases hgo : i < n
    · obtain ⟨ad, rfl, hat⟩ := (HP.out.below HB.out).at5 i (by rw [HNL.out]; exact hgo)
      have HAT := Lib.hid hat
      have HTi := Lib.hid (fun w hw => HT.out i w hw)
      have HCi := Lib.hid (fun w => HC.out i w)
      have HRi := Lib.hid (fun w hc hw => HR.out i w hc hw)
      have HYes : Hid (chk (L.getD i z0) = 0 → Upt L (i + 1) al) := Lib.hid (fun hc => HU.out.yes hc)
      have HNo : Hid (chk (L.getD i z0) ≠ 0 → Upt L (i + 1) false) := Lib.hid (fun hc => Upt.no (al := al) hc)
      have HKp : Hid (al = false → Upt L (i + 1) false) := Lib.hid (fun e => by subst e; exact HU.out.keep)
      obtain ⟨x, hx⟩ : ∃ x, x = L.getD i z0 := ⟨_, rfl⟩
      rw [← hx] at HAT HTi HCi HRi HYes HNo
      clear hx hat HU
      obtain ⟨xo, xa, xb, xc, xi⟩ := x
      have hne : chk ⟨xo, xa, xb, xc, xi⟩ = 0 ∨ chk ⟨xo, xa, xb, xc, xi⟩ ≠ 0 := by omega
      have heq := fun w => neq_insn xo xa xb xc xi xo xa xb xc xi w
      rw [decide_eq_true rfl] at heq
      generalize chk ⟨xo, xa, xb, xc, xi⟩ = c at *
      obtain ⟨d0, d1, d2, d3, d4⟩ := HAT.out _ (Below.refl _ wr)
      dsimp only at d0 d1 d2 d3 d4
      go_wp2_with fail
      refine (HTi.out _ (H.out.pw.below HB.out)).mono ?_
      rintro e w2 ⟨rfl, hB2⟩
      have HW2 := Lib.hid hB2
      clear hB2 d0 d1 d2 d3 d4
      obtain ⟨d0, d1, d2, d3, d4⟩ := HAT.out _ HW2.out
      dsimp only at d0 d1 d2 d3 d4
      rcases hne with rfl | hne
      · cases al
        · clear HYes HNo
          go_wp2_with fail
          refine (HCi.out _).mono ?_
          rintro e w3 ⟨rfl, hB3⟩
          have HW3 := Lib.hid (HW2.out.trans (hB3.mono HW2.out.size))
          clear hB3 HW2 d0 d1 d2 d3 d4
          obtain ⟨d0, d1, d2, d3, d4⟩ := HAT.out _ HW3.out
          dsimp only at d0 d1 d2 d3 d4
          go_wp2_with fail
          refine (HRi.out _ (by first | trivial | rfl) (H.out.below (HB.out.trans (HW3.out.mono HB.out.size)))).mono ?_
          rintro e w4 ⟨rfl, hB4⟩
          have HW4 := Lib.hid (HW3.out.trans (hB4.mono HW3.out.size))
          have HX := Lib.hid (Bx.new w4 ⟨xo, xa, xb, xc, xi⟩)
          have HY := Lib.hid ((Below.refl _ w4).alloc (Nat.le_refl _) (.cells #[.int .u8 xo, .int .u8 xa, .int .u8 xb, .int .u8 xc, .int .u32 xi] 24))
          have HV := Lib.hid (HW4.out.trans (HY.out.mono HW4.out.size))
          clear hB4 HW3 d0 d1 d2 d3 d4
          obtain ⟨d0, d1, d2, d3, d4⟩ := HAT.out _ HV.out
          dsimp only at d0 d1 d2 d3 d4
          have x0 := HX.out.k0
          have x1 := HX.out.k1
          have x2 := HX.out.k2
          have x3 := HX.out.k3
          have x4 := HX.out.k4
          go_wp2_with fail
          go_quiet (fail)
          go_wp2
          go_roundw
          case rel => exact ⟨i + 1, false, by omega, rfl, by go_num, Lib.hid (HKp.out (by first | trivial | rfl)), Lib.hid (below_drewN (HB.out.trans (HV.out.mono HB.out.size)) _)⟩
          case measure => simp [RowKit.intOf]; omega
        · clear HKp HNo
          go_wp2_with fail
          refine (HCi.out _).mono ?_
          rintro e w3 ⟨rfl, hB3⟩
          have HW3 := Lib.hid (HW2.out.trans (hB3.mono HW2.out.size))
          clear hB3 HW2 d0 d1 d2 d3 d4
          obtain ⟨d0, d1, d2, d3, d4⟩ := HAT.out _ HW3.out
          dsimp only at d0 d1 d2 d3 d4
          go_wp2_with fail
          refine (HCi.out _).mono ?_
          rintro e w4 ⟨rfl, hB4⟩
          have HW4 := Lib.hid (HW3.out.trans (hB4.mono HW3.out.size))
          clear hB4 HW3 d0 d1 d2 d3 d4
          obtain ⟨d0, d1, d2, d3, d4⟩ := HAT.out _ HW4.out
          dsimp only at d0 d1 d2 d3 d4
          go_wp2_with fail
          refine (HRi.out _ (by first | trivial | rfl) (H.out.below (HB.out.trans (HW4.out.mono HB.out.size)))).mono ?_
          rintro e w5 ⟨rfl, hB5⟩
          have HW5 := Lib.hid (HW4.out.trans (hB5.mono HW4.out.size))
          have HX := Lib.hid (Bx.new w5 ⟨xo, xa, xb, xc, xi⟩)
          have HY := Lib.hid ((Below.refl _ w5).alloc (Nat.le_refl _) (.cells #[.int .u8 xo, .int .u8 xa, .int .u8 xb, .int .u8 xc, .int .u32 xi] 24))
          have HV := Lib.hid (HW5.out.trans (HY.out.mono HW5.out.size))
          clear hB5 HW4 d0 d1 d2 d3 d4
          obtain ⟨d0, d1, d2, d3, d4⟩ := HAT.out _ HV.out
          dsimp only at d0 d1 d2 d3 d4
          have x0 := HX.out.k0
          have x1 := HX.out.k1
          have x2 := HX.out.k2
          have x3 := HX.out.k3
          have x4 := HX.out.k4
          go_wp2_with fail
          go_quiet (fail)
          go_wp2
          go_roundw
          case rel => exact ⟨i + 1, true, by omega, rfl, by go_num, Lib.hid (HYes.out (by first | trivial | rfl)), Lib.hid (below_drewN (HB.out.trans (HV.out.mono HB.out.size)) _)⟩
          case measure => simp [RowKit.intOf]; omega
      · have q1 : (c == 0) = false := beq_eq_false_iff_ne.2 hne
        have HN := Lib.hid (HNo.out hne)
        clear hne
        cases al
        · go_wp2_with fail
          refine (HCi.out _).mono ?_
          rintro e w3 ⟨rfl, hB3⟩
          have HW3 := Lib.hid (HW2.out.trans (hB3.mono HW2.out.size))
          clear hB3 HW2 d0 d1 d2 d3 d4
          obtain ⟨d0, d1, d2, d3, d4⟩ := HAT.out _ HW3.out
          dsimp only at d0 d1 d2 d3 d4
          go_wp2
          go_roundw
          case rel => exact ⟨i + 1, false, by omega, rfl, by go_num, Lib.hid (HN.out), Lib.hid (HB.out.trans (HW3.out.mono HB.out.size))⟩
          case measure => simp [RowKit.intOf]; omega
        · go_wp2_with fail
          refine (HCi.out _).mono ?_
          rintro e w3 ⟨rfl, hB3⟩
          have HW3 := Lib.hid (HW2.out.trans (hB3.mono HW2.out.size))
          clear hB3 HW2 d0 d1 d2 d3 d4
          obtain ⟨d0, d1, d2, d3, d4⟩ := HAT.out _ HW3.out
          dsimp only at d0 d1 d2 d3 d4
          go_wp2_with fail
          refine (HCi.out _).mono ?_
          rintro e w4 ⟨rfl, hB4⟩
          have HW4 := Lib.hid (HW3.out.trans (hB4.mono HW3.out.size))
          clear hB4 HW3 d0 d1 d2 d3 d4
          obtain ⟨d0, d1, d2, d3, d4⟩ := HAT.out _ HW4.out
          dsimp only at d0 d1 d2 d3 d4
          go_wp2
          go_roundw
          case rel => exact ⟨i + 1, false, by omega, rfl, by go_num, Lib.hid (HN.out), Lib.hid (HB.out.trans (HW4.out.mono HB.out.size))⟩
          case measure => simp [RowKit.intOf]; omega
    · obtain rfl : i = n := by omega
      have hU := HU.out
      rw [← HNL.out] at hU
      have hall := hU.all
      have hz := HZ.out
      have hw3 : (al = true ∧ i ≤ 128 ∧ prsE (encs L) = 0 ∧ prsL (encs L) = L) ∨ (al = true ∧ 128 < i) ∨ (al = false ∧ prsE (encs L) ≠ 0) := by
        cases al with
        | true =>
          by_cases h1 : i ≤ 128
          · have e0 := hz.2 ⟨h1, hall.1 rfl⟩
            exact .inl ⟨rfl, h1, e0, HZL.out e0⟩
          · exact .inr (.inl ⟨rfl, by omega⟩)
        | false =>
          refine .inr (.inr ⟨rfl, fun e0 => ?_⟩)
          have := hall.2 (hz.1 e0).2
          cases this
      have HW3 := Lib.hid hw3
      clear hU hall hz hw3 HU HZ HZL HT HC HR
      go_wp2_with fail
      refine (HBL.out _ (HP.out.below HB.out)).mono ?_
      rintro e w5 ⟨A5, c5, rfl, _, hc5, hy5, hB5⟩
      have HY5 := Lib.hid hy5
      have HB5 := Lib.hid (HB.out.trans (hB5.mono HB.out.size))
      clear hy5 hB5 HB
      go_wp2_with fail
      refine (HPL.out _ _ _ hc5 HY5.out).mono ?_
      rintro e w6 ⟨A6, c6, rfl, hp6, hB6⟩
      have HP6 := Lib.hid hp6
      have HB6 := Lib.hid (HB5.out.trans (hB6.mono HB5.out.size))
      clear hp6 hB6 HB5 HY5 hc5
      rcases HW3.out with ⟨rfl, h1, h3, h4⟩ | ⟨rfl, h1⟩ | ⟨rfl, h1⟩
      · rw [h4] at HP6
        rw [h3, h4, HNL.out]
        have q1 : decide ((i : Int) ≤ 128) = true := decide_eq_true (by omega)
        clear HW3 h1 h3 h4
        go_wp2_with fail
        refine (HSM.out _ _ _ _ _ HP6.out (HP.out.below HB6.out)).mono ?_
        rintro e w8 ⟨rfl, hB8⟩
        have HB8 := Lib.hid (HB6.out.trans (hB8.mono HB6.out.size))
        clear hB8 HB6 HP6
        go_wp2_with fail
        refine (HPB.out _ (HQ.out.below HB8.out)).mono ?_
        rintro e w9 ⟨A9, c9, rfl, hp9, hB9⟩
        have HP9 := Lib.hid hp9
        have HB9 := Lib.hid (HB8.out.trans (hB9.mono HB8.out.size))
        clear hp9 hB9 HB8
        by_cases h2 : prsE bs = 0
        · have HB20 := Lib.hid (HBB.out h2)
          have HLB := Lib.hid (show 8 * (prsL bs).length = bs.length from by rw [← encs_length, encs_prsL bs h2 HQ.out.rng])
          rw [h2]
          clear h2
          have HBd : Hid (Below w9.heap.size w9 w9.drew) := Lib.hid (Below.refl w9.heap.size w9).drew
          have hcv0 := conv_by ((HQ.out.below HB9.out).below HBd.out) bs.length cb rfl
          have HQ9 := Lib.hid ((HQ.out.below HB9.out).below HBd.out)
          have HP9d := Lib.hid (HP9.out.below HBd.out)
          have HB9d := Lib.hid (HB9.out.trans (HBd.out.mono HB9.out.size))
          go_wp2_with fail
          go_region_with (go_at_call 20; refine (HB20.out _ _ _ HP9d.out).mono ?_; rintro e w10 ⟨B10, c10, rfl, hy10, hB10⟩; have hcv1 := conv_by (HQ9.out.below hB10) bs.length cb rfl; have hcv2 := conv_by hy10 (8 * (prsL bs).length) c10 HLB.out; have HB10 := Lib.hid (HB9d.out.trans (hB10.mono HB9d.out.size)); clear hy10 hB10)
          all_goals
            go_wp2
            go_ret
            exact ⟨rfl, HB10.out⟩
        · have q9 : (prsE bs != 0) = true := by rw [bne_iff_ne]; exact h2
          rw [show prsL bs = [] from by unfold prsL; rw [if_neg h2]]
          clear h2
          go_wp2
          go_ret
          exact ⟨rfl, HB9.out⟩
      · have q1 : decide ((i : Int) ≤ 128) = false := decide_eq_false (by omega)
        have HB8 := HB6
        clear HW3 h1 HB6
        go_wp2_with fail
        refine (HPB.out _ (HQ.out.below HB8.out)).mono ?_
        rintro e w9 ⟨A9, c9, rfl, hp9, hB9⟩
        have HP9 := Lib.hid hp9
        have HB9 := Lib.hid (HB8.out.trans (hB9.mono HB8.out.size))
        clear hp9 hB9 HB8
        by_cases h2 : prsE bs = 0
        · have HB20 := Lib.hid (HBB.out h2)
          have HLB := Lib.hid (show 8 * (prsL bs).length = bs.length from by rw [← encs_length, encs_prsL bs h2 HQ.out.rng])
          rw [h2]
          clear h2
          have HBd : Hid (Below w9.heap.size w9 w9.drew) := Lib.hid (Below.refl w9.heap.size w9).drew
          have hcv0 := conv_by ((HQ.out.below HB9.out).below HBd.out) bs.length cb rfl
          have HQ9 := Lib.hid ((HQ.out.below HB9.out).below HBd.out)
          have HP9d := Lib.hid (HP9.out.below HBd.out)
          have HB9d := Lib.hid (HB9.out.trans (HBd.out.mono HB9.out.size))
          go_wp2_with fail
          go_region_with (go_at_call 20; refine (HB20.out _ _ _ HP9d.out).mono ?_; rintro e w10 ⟨B10, c10, rfl, hy10, hB10⟩; have hcv1 := conv_by (HQ9.out.below hB10) bs.length cb rfl; have hcv2 := conv_by hy10 (8 * (prsL bs).length) c10 HLB.out; have HB10 := Lib.hid (HB9d.out.trans (hB10.mono HB9d.out.size)); clear hy10 hB10)
          all_goals
            go_wp2
            go_ret
            exact ⟨rfl, HB10.out⟩
        · have q9 : (prsE bs != 0) = true := by rw [bne_iff_ne]; exact h2
          rw [show prsL bs = [] from by unfold prsL; rw [if_neg h2]]
          clear h2
          go_wp2
          go_ret
          exact ⟨rfl, HB9.out⟩
      · have q1 : (prsE (encs L) == 0) = false := beq_eq_false_iff_ne.2 h1
        have HB8 := HB6
        clear HW3 h1 HB6
        go_wp2_with fail
        refine (HPB.out _ (HQ.out.below HB8.out)).mono ?_
        rintro e w9 ⟨A9, c9, rfl, hp9, hB9⟩
        have HP9 := Lib.hid hp9
        have HB9 := Lib.hid (HB8.out.trans (hB9.mono HB8.out.size))
        clear hp9 hB9 HB8
        by_cases h2 : prsE bs = 0
        · have HB20 := Lib.hid (HBB.out h2)
          have HLB := Lib.hid (show 8 * (prsL bs).length = bs.length from by rw [← encs_length, encs_prsL bs h2 HQ.out.rng])
          rw [h2]
          clear h2
          have HBd : Hid (Below w9.heap.size w9 w9.drew) := Lib.hid (Below.refl w9.heap.size w9).drew
          have hcv0 := conv_by ((HQ.out.below HB9.out).below HBd.out) bs.length cb rfl
          have HQ9 := Lib.hid ((HQ.out.below HB9.out).below HBd.out)
          have HP9d := Lib.hid (HP9.out.below HBd.out)
          have HB9d := Lib.hid (HB9.out.trans (HBd.out.mono HB9.out.size))
          go_wp2_with fail
          go_region_with (go_at_call 20; refine (HB20.out _ _ _ HP9d.out).mono ?_; rintro e w10 ⟨B10, c10, rfl, hy10, hB10⟩; have hcv1 := conv_by (HQ9.out.below hB10) bs.length cb rfl; have hcv2 := conv_by hy10 (8 * (prsL bs).length) c10 HLB.out; have HB10 := Lib.hid (HB9d.out.trans (hB10.mono HB9d.out.size)); clear hy10 hB10)
          all_goals
            go_wp2
            go_ret
            exact ⟨rfl, HB10.out⟩
        · have q9 : (prsE bs != 0) = true := by rw [bne_iff_ne]; exact h2
          rw [show prsL bs = [] from by unfold prsL; rw [if_neg h2]]
          clear h2
          go_wp2
          go_ret
          exact ⟨rfl, HB9.out⟩
end Go.Proofs.YtlomgbackphmmaaDoor
