/- TreeRules: after each addition and removal the tree is by all rules. -/
import Derived.Test.YthkppnkhiimaeaaTBlk
set_option linter.unusedVariables false
set_option linter.unusedSimpArgs false
namespace Go.Proofs.Ythkppnkhiimaeaa
open Go.RowKit

theorem add_of_add (a : Addr) (i j : Nat) : (a.add i).add j = a.add (i + j) := by
  unfold Addr.add
  by_cases hi : i = 0 <;> by_cases hj : j = 0 <;> simp [hi, hj, Nat.add_assoc]
theorem blacks_at {w0 w : World} {p d k : Nat} {kw : Int → Int} {h : Hp} {t : Bt} {x m : Int} (e : t.rt = x) (H : Calls Try.prog 18 #[.pointer (some ⟨p, 0, none⟩), .int .i64 t.rt, .int .i64 m] w fun e w' => e = .returned (.int .i64 (k : Nat)) ∧ Hs w0 w' p d kw h ∧ w.grownBy w' (some d)) :
    Calls Try.prog 18 #[.pointer (some ⟨p, 0, none⟩), .int .i64 x, .int .i64 m] w fun e w' => e = .returned (.int .i64 (k : Nat)) ∧ Hs w0 w' p d kw h ∧ w.grownBy w' (some d) := by rw [← e]; exact H
theorem rt_len {h : Hp} {q : Int} {t : Bt} (R : Rep h q t) : (t.rt = 0 ∧ t.ids.length = 0) ∨ (isN t.rt ∧ 1 ≤ t.ids.length) := by
  cases t with
  | nil => exact .inl ⟨rfl, rfl⟩
  | node c l n r => exact .inr ⟨R.1, by simp only [Bt.ids, List.length_append, List.length_cons]; omega⟩
theorem srt_get {key : Int → Int} {L : List Int} (h : Srt key L) {k : Nat} (h1 : 1 ≤ k) (hk : k < L.length) : key (L.getD (k - 1) 0) ≤ key (L.getD k 0) := by
  have := (List.pairwise_iff_getElem.1 h) (k - 1) k (by omega) hk (by omega)
  rw [List.getD_eq_getElem?_getD, List.getD_eq_getElem?_getD, List.getElem?_eq_getElem (by omega), List.getElem?_eq_getElem hk]
  exact this
theorem getD_mem {L : List Int} {k : Nat} (hk : k < L.length) : L.getD k 0 ∈ L := by
  rw [List.getD_eq_getElem?_getD, List.getElem?_eq_getElem hk]
  exact List.getElem_mem hk
theorem lf_mod {nn N : Nat} (hN : 0 < N) (h40 : N ≤ 40) : isN (lf (nn % N)) := isN_lf (by have := Nat.mod_lt nn hN; omega)

set_option maxRecDepth 100000 in
set_option maxHeartbeats 8000000 in
theorem TreeRules_calls (A : Option Addr) (len cap : Nat) (f : Nat → Int) (A1 : Option Addr) (dl dc : Nat) (f0 : Nat → Bool) (f1 : Nat → Int) (w : World) (c : ColI w A len 1 0 .u64 f) (hlc : len ≤ cap) (hm : len ≤ maxLen)
    (e0 : ColB w A1 dl 2 0 f0) (e1 : ColI w A1 dl 2 1 .u8 f1) (hm1 : dl ≤ maxLen) :
    Calls Try.prog 4 #[.slice A len cap, .slice A1 dl dc] w fun e w' => e = .returned (.bool true) ∧ Kept w w' := by
  have hA : 0 < len → ∃ ad : Addr, A = some ad := fun h => by obtain ⟨ad, e, _⟩ := c 0 h; exact ⟨ad, e⟩
  obtain ⟨N, hNe⟩ : ∃ N, min len 40 = N := ⟨_, rfl⟩
  have hN : N ≤ 40 := by omega
  have hky : Ky w A N f := ⟨fun i hi => (Ky.of_col c).at_ i (by omega)⟩
  have HKy := Lib.hid hky
  have HA := Lib.hid hA
  have HM := Lib.hid hm
  have HNE := Lib.hid hNe
  have HE0 := Lib.hid e0
  have HE1 := Lib.hid e1
  have hdl : dl ≤ 9223372036854775807 := by unfold maxLen at hm1; omega
  clear c hA hky hNe hm e0 e1 hm1
  by_cases hN0 : N = 0
  · subst hN0
    go_enter Try.func4, Try.ntmps4
    go_wp2_with fail
    refine (shown_calls _).mono ?_
    rintro e w1 ⟨rfl, K1⟩
    have HK1 := Lib.hid K1
    clear K1
    go_wp2_with fail
    refine (few_calls hlc HM.out HA.out).mono ?_
    rintro e w' ⟨rfl, rfl⟩
    rw [HNE.out]
    go_wp2
    go_ret
    exact ⟨rfl, HK1.out⟩
  have hNb : (((N : Nat) : Int) == 0) = false := beq_eq_false_iff_ne.2 (by omega)
  go_enter Try.func4, Try.ntmps4
  go_wp2_with fail
  refine (shown_calls _).mono ?_
  rintro e w1 ⟨rfl, K1⟩
  have HK1 := Lib.hid K1
  clear K1
  go_wp2_with fail
  refine (few_calls hlc HM.out HA.out).mono ?_
  rintro e w' ⟨rfl, rfl⟩
  rw [HNE.out]
  clear hlc
  go_wp2_with fail
  refine (fresh_fh HK1.out (HKy.out.below HK1.out.below) hN).mono ?_
  rintro e w2 ⟨p, d, kw, rfl, F2, _, _⟩
  have HT2 := Lib.hid F2.ts
  clear F2
  go_wp2
  go_loopg [7, 8] (min dl 80) (fun gq vm vi wr => ∃ (k : Nat) (h : Hp) (t : Bt) (M : Nat), k ≤ min dl 80 ∧ gq = min dl 80 - k ∧ t.ids.length = M ∧ vm = .int .i64 (M : Nat) ∧ vi = .int .i64 (k : Int) ∧ Ts w wr p d kw h t)
  case atStart => exact ⟨0, _, _, 0, by omega, by omega, rfl, rfl, rfl, HT2.out⟩
  case round =>
    clear HT2
    obtain ⟨k, h, t, M0, hk, rfl, hM0, rfl, rfl, hT⟩ := hrel
    have HT := Lib.hid hT
    have HM0 := Lib.hid hM0
    have ht40 : M0 ≤ 40 := by rw [← hM0]; exact hT.F.len
    clear hM0
    clear hT
    by_cases hlt : k < min dl 80
    · have hd : decide ((k : Int) < (dl : Int)) = true := decide_eq_true (by omega)
      have hd2 : decide ((k : Int) < (80 : Int)) = true := decide_eq_true (by omega)
      obtain ⟨ad, rfl, hbl, hc1, hw1⟩ := HE1.out k (by omega)
      obtain ⟨ad', hade, hbl0, hc0⟩ := HE0.out k (by omega)
      injection hade with hade
      subst hade
      obtain ⟨n0, n1⟩ := bd_u8 hw1
      have KB := HT.out.S.kept.below
      have hk0 : wr.cell? (ad.add (k * 2 + 0)) = some (.bool (f0 k)) := (KB.cell (by rw [block_add]; exact hbl0)).trans hc0
      have hk1 : wr.cell? (ad.add (k * 2 + 1)) = some (.int .u8 (f1 k)) := (KB.cell (by rw [block_add]; exact hbl)).trans hc1
      rw [← add_of_add] at hk0 hk1
      have hk0 : wr.cell? (ad.add (k * 2)) = some (.bool (f0 k)) := hk0
      have hk1 : wr.cell? ⟨(ad.add (k * 2)).block, (ad.add (k * 2)).off + 1, none⟩ = some (.int .u8 (f1 k)) := hk1
      obtain ⟨nn, hnn⟩ := Int.eq_ofNat_of_zero_le n0
      rw [hnn] at hk1 n1
      obtain ⟨i, hi⟩ : ∃ i, nn % N = i := ⟨_, rfl⟩
      have hi40 : i < 40 := by have := Nat.mod_lt nn (show 0 < N by omega); omega
      have hmod : ((nn : Nat) : Int).tmod ((N : Nat) : Int) = (i : Int) := by rw [Int.tmod_eq_emod_of_nonneg (by omega), ← Int.natCast_emod, hi]
      have hmod2 : ((nn : Nat) : Int) % ((N : Nat) : Int) = (i : Int) := by rw [← Int.natCast_emod, hi]
      have HK0 := Lib.hid hk0
      clear n0 hnn hi KB hc0 hc1 hw1 hbl hbl0
      go_wp2_with fail
      refine (leaf_calls (1 + (i : Int)) (by omega) (by omega) _).mono ?_
      rintro e w' ⟨rfl, rfl⟩
      rw [show (32 * (1 + (i : Int))) = lf i from by unfold lf; omega]
      have hzN := isN_lf hi40
      obtain ⟨z, hz⟩ : ∃ z, lf i = z := ⟨_, rfl⟩
      rw [hz] at hzN ⊢
      have HZN := Lib.hid hzN
      have hk0' := HK0.out
      obtain ⟨b, hb⟩ : ∃ b, f0 k = b := ⟨_, rfl⟩
      rw [hb] at hk0'
      clear hzN hz hb hmod hmod2 hk0 hk1 HK0
      cases b
      · by_cases hin : z ∈ t.ids
        · have hO : h.O z ≠ 0 := by rw [HT.out.own HZN.out, if_pos hin]; decide
          have HO := Lib.hid hO
          clear hO hin
          go_wp2_with fail
          refine (Add_hs_in HT.out.S HZN.out HO.out).mono ?_
          rintro e wt ⟨rfl, St, _⟩
          have HTt := Lib.hid (HT.out.with_ St)
          clear St
          clear hk0'
          have HMl : Hid (t.ids.length = M0) := HM0
          have hM40 : M0 ≤ 40 := by rw [← HMl.out]; exact HTt.out.F.len
          obtain ⟨L, hL⟩ : ∃ L, t.ids = L := ⟨_, rfl⟩
          have HML : Hid (L.length = M0) := Lib.hid (by rw [← hL]; exact HMl.out)
          obtain ⟨bk, hbk, hbr⟩ := HTt.out.rb
          have hdpt : dep t ≤ 14 := by
            obtain ⟨j, hj1, hj2⟩ := HTt.out.rb.dep
            have hj5 : j ≤ 5 := by
              have h2 : 2 ^ j < 2 ^ 6 := by have h64 : (2 : Nat) ^ 6 = 64 := by decide
                                            have := HMl.out
                                            omega
              have := (Nat.pow_lt_pow_iff_right (by decide : 1 < 2)).1 h2
              omega
            omega
          have hbk50 : bk ≤ 50 := by
            have h2 := (ok_dep t bk hbk).2
            have h3 : 2 ^ bk < 2 ^ 6 := by have h64 : (2 : Nat) ^ 6 = 64 := by decide
                                           have := HMl.out
                                           omega
            have := (Nat.pow_lt_pow_iff_right (by decide : 1 < 2)).1 h3
            omega
          have HBK := Lib.hid hbk
          have HBR := Lib.hid hbr
          have HDP := Lib.hid hdpt
          have HIDS := Lib.hid hL
          clear hbk hbr hdpt hL
          go_wp2_with fail
          skip
          refine (All_ts HTt.out).mono ?_
          rintro e wa ⟨v, rfl, hrow, Ta, _⟩
          obtain ⟨A5, c5, rfl, hR⟩ := Ri.of_row hrow rfl
          obtain ⟨B, hB⟩ : ∃ B, wt.heap.size = B := ⟨_, rfl⟩
          have hdn := HTt.out.S.new.2.1
          rw [HIDS.out, HML.out]
          rw [HIDS.out, hB] at hR
          rw [hB] at hdn
          have HDN := Lib.hid hdn
          have HTa := Lib.hid Ta
          have HRa := Lib.hid hR
          clear hrow Ta hR hB hdn
          go_wp2_with fail
          refine (Root_ts HTa.out).mono ?_
          rintro e wb ⟨rfl, Tb, hgb⟩
          have HTb := Lib.hid Tb
          have HRb := Lib.hid (HRa.out.grown hgb HDN.out)
          have hrl := rt_len HTb.out.F.T
          rw [HIDS.out, HML.out] at hrl
          clear Tb hgb
          obtain ⟨tr, htr⟩ : ∃ x, t.rt = x := ⟨_, rfl⟩
          have HTR := Lib.hid htr
          rw [htr] at hrl ⊢
          clear htr
          have hMM : (((M0 : Nat) : Int) != ((M0 : Nat) : Int)) = false := bne_self_eq_false _
          have hbl : decide (((bk : Nat) : Int) < 0) = false := decide_eq_false (by omega)
          rcases hrl with ⟨hr0, hM0⟩ | ⟨hrN, hM1⟩
          · subst hr0
            subst hM0
            go_wp2_with fail
            refine ((blacks_at HTR.out (blacks_hs t 0 14 bk _ HTb.out.S HTb.out.F.T HBK.out HDP.out (by omega)))).mono ?_
            rintro e wc ⟨rfl, Sc, hgc⟩
            have HTc := Lib.hid (HTb.out.with_ Sc)
            clear Sc hgc
            go_wp2
            go_loopg [16] 1 (fun gq vk wr => ∃ (j : Nat), 1 ≤ j ∧ j ≤ 1 ∧ gq = 2 - j ∧ vk = .int .i64 (j : Int) ∧ Ts w wr p d kw h t)
            case atStart => exact ⟨1, by omega, by omega, rfl, rfl, HTc.out⟩
            case round =>
              clear HTc
              obtain ⟨j, hj1, hj2, rfl, rfl, hT⟩ := hrel
              obtain rfl : j = 1 := by omega
              have HTz := Lib.hid hT
              clear hT
              go_wp2
              go_roundg (min dl 80 - (k + 1))
              case measure => omega
              case rel => exact ⟨k + 1, h, t, _, by omega, rfl, HMl.out, rfl, by go_num, HTz.out⟩
          · have hrb : (tr == 0) = false := beq_eq_false_iff_ne.2 hrN.ne0
            have hrb2 : (tr != 0) = true := by rw [bne_iff_ne]; exact hrN.ne0
            have hMb : (((M0 : Nat) : Int) == 0) = false := beq_eq_false_iff_ne.2 (by omega)
            have HRN := Lib.hid hrN
            have hred : redH h tr = false := by rw [← HTR.out, redH_rt HTb.out.F.T]; exact HBR.out
            have HRED := Lib.hid hred
            clear hrN hred
            go_wp2_with fail
            refine ((blacks_at HTR.out (blacks_hs t 0 14 bk _ HTb.out.S HTb.out.F.T HBK.out HDP.out (by omega)))).mono ?_
            rintro e wc ⟨rfl, Sc, hgc⟩
            have HTc := Lib.hid (HTb.out.with_ Sc)
            have HRc : Hid (Ri wc B A5 L) := Lib.hid (HRb.out.grown hgc HDN.out)
            clear Sc hgc
            go_wp2_with fail
            refine (Red_hs HTc.out.S HRN.out).mono ?_
            rintro e we ⟨rfl, Se, hge⟩
            rw [HRED.out]
            have HTe := Lib.hid (HTc.out.with_ Se)
            have HRe := Lib.hid (HRc.out.grown hge HDN.out)
            clear Se hge
            go_wp2
            go_loopg [16] (M0 - 1) (fun gq vk wr => ∃ (j : Nat), 1 ≤ j ∧ j ≤ M0 ∧ gq = M0 - j ∧ vk = .int .i64 (j : Int) ∧ Ts w wr p d kw h t ∧ Ri wr B A5 L)
            case atStart => exact ⟨1, by omega, by omega, rfl, rfl, HTe.out, HRe.out⟩
            case round =>
              clear HTe HRe
              obtain ⟨j, hj1, hj2, rfl, rfl, hT, hR⟩ := hrel
              have HTz := Lib.hid hT
              have HRz := Lib.hid hR
              clear hT hR
              by_cases hjl : j < M0
              · have hdj : decide ((j : Int) < (M0 : Int)) = true := decide_eq_true (by omega)
                obtain ⟨g1, hg1, hgB1, hcell1⟩ := HRz.out.at_ (j - 1) (by rw [HML.out]; omega)
                obtain ⟨g2, hg2, hgB2, hcell2⟩ := HRz.out.at_ j (by rw [HML.out]; omega)
                subst hg1
                injection hg2 with hg2
                injection hg2 with hg2
                subst hg2
                have hx := getD_mem (L := L) (k := j - 1) (by rw [HML.out]; omega)
                have hy := getD_mem (L := L) (k := j) (by rw [HML.out]; omega)
                have hle := srt_get (HIDS.out ▸ HTz.out.srt) hj1 (by rw [HML.out]; exact hjl)
                obtain ⟨x, hxv⟩ : ∃ x, L.getD (j - 1) 0 = x := ⟨_, rfl⟩
                obtain ⟨y, hyv⟩ : ∃ x, L.getD j 0 = x := ⟨_, rfl⟩
                rw [hxv] at hx hle hcell1
                rw [hyv] at hy hle hcell2
                have hxN : isN x := HTz.out.F.T.isN x (by rw [HIDS.out]; exact hx)
                have hyN : isN y := HTz.out.F.T.isN y (by rw [HIDS.out]; exact hy)
                have hx0 : 32 ≤ x ∧ x ≤ 1280 := by unfold isN at hxN; omega
                have hy0 : 32 ≤ y ∧ y ≤ 1280 := by unfold isN at hyN; omega
                obtain ⟨hxa, hxb⟩ := hx0
                obtain ⟨hya, hyb⟩ := hy0
                have HXN := Lib.hid hxN
                have HYN := Lib.hid hyN
                have HLE := Lib.hid hle
                have hjt : ((j : Int) - 1).toNat = j - 1 := by omega
                have hj0 : 0 ≤ (j : Int) - 1 := by omega
                have hjM : (j : Int) - 1 < (M0 : Int) := by omega
                have HC2 := Lib.hid hcell2
                have HGL : Hid (g1 < wr.heap.size) := Lib.hid (World.block_lt_of_cell? _ ⟨g1, j, none⟩ hcell2)
                clear hx hy hle hxN hyN hxv hyv
                go_wp2_with fail
                refine (LoadKey_hs HTz.out.S HXN.out).mono ?_
                rintro e wf ⟨rfl, Sf, hBf⟩
                have HTf := Lib.hid (HTz.out.with_ Sf)
                have HRf := Lib.hid (HRz.out.below hBf)
                have hcf : wf.cell? ⟨g1, j, none⟩ = some (.int .i64 y) := (hBf.cell HGL.out).trans HC2.out
                clear Sf hBf hcell1 hcell2
                go_wp2_with fail
                refine (LoadKey_hs HTf.out.S HYN.out).mono ?_
                rintro e wg ⟨rfl, Sg, hBg⟩
                have HTg := Lib.hid (HTf.out.with_ Sg)
                have HRg := Lib.hid (HRf.out.below hBg)
                have hlk : decide (keyOf kw y < keyOf kw x) = false := decide_eq_false (by have := HLE.out; omega)
                clear Sg hBg hcf
                go_wp2
                go_roundg (M0 - (j + 1))
                case measure => omega
                case rel => exact ⟨j + 1, by omega, by omega, rfl, by go_num, HTg.out, HRg.out⟩
              · have hdj : decide ((j : Int) < (M0 : Int)) = false := decide_eq_false (by omega)
                go_wp2
                go_roundg (min dl 80 - (k + 1))
                case measure => omega
                case rel => exact ⟨k + 1, h, t, _, by omega, rfl, HMl.out, rfl, by go_num, HTz.out⟩
        · obtain ⟨h', t', _, a2, a3⟩ := Add_ts HT.out HZN.out hin
          have HI3 := Lib.hid a2
          have HC3 := Lib.hid a3
          clear a2 a3 hin
          go_wp2_with fail
          refine HC3.out.mono ?_
          rintro e wt ⟨rfl, Tt, _⟩
          have HTt := Lib.hid Tt
          obtain ⟨M, hM⟩ : ∃ M, M = M0 + 1 := ⟨_, rfl⟩
          have HMv : Hid ((M0 : Int) + 1 = (M : Int)) := Lib.hid (by omega)
          have HMl : Hid (t'.ids.length = M) := Lib.hid (by rw [HI3.out, ins_len, HM0.out, hM])
          clear Tt hk0' hM
          have hM40 : M ≤ 40 := by rw [← HMl.out]; exact HTt.out.F.len
          obtain ⟨L, hL⟩ : ∃ L, t'.ids = L := ⟨_, rfl⟩
          have HML : Hid (L.length = M) := Lib.hid (by rw [← hL]; exact HMl.out)
          obtain ⟨bk, hbk, hbr⟩ := HTt.out.rb
          have hdpt : dep t' ≤ 14 := by
            obtain ⟨j, hj1, hj2⟩ := HTt.out.rb.dep
            have hj5 : j ≤ 5 := by
              have h2 : 2 ^ j < 2 ^ 6 := by have h64 : (2 : Nat) ^ 6 = 64 := by decide
                                            have := HMl.out
                                            omega
              have := (Nat.pow_lt_pow_iff_right (by decide : 1 < 2)).1 h2
              omega
            omega
          have hbk50 : bk ≤ 50 := by
            have h2 := (ok_dep t' bk hbk).2
            have h3 : 2 ^ bk < 2 ^ 6 := by have h64 : (2 : Nat) ^ 6 = 64 := by decide
                                           have := HMl.out
                                           omega
            have := (Nat.pow_lt_pow_iff_right (by decide : 1 < 2)).1 h3
            omega
          have HBK := Lib.hid hbk
          have HBR := Lib.hid hbr
          have HDP := Lib.hid hdpt
          have HIDS := Lib.hid hL
          clear hbk hbr hdpt hL
          go_wp2_with fail
          rw [HMv.out]
          refine (All_ts HTt.out).mono ?_
          rintro e wa ⟨v, rfl, hrow, Ta, _⟩
          obtain ⟨A5, c5, rfl, hR⟩ := Ri.of_row hrow rfl
          obtain ⟨B, hB⟩ : ∃ B, wt.heap.size = B := ⟨_, rfl⟩
          have hdn := HTt.out.S.new.2.1
          rw [HIDS.out, HML.out]
          rw [HIDS.out, hB] at hR
          rw [hB] at hdn
          have HDN := Lib.hid hdn
          have HTa := Lib.hid Ta
          have HRa := Lib.hid hR
          clear hrow Ta hR hB hdn
          go_wp2_with fail
          refine (Root_ts HTa.out).mono ?_
          rintro e wb ⟨rfl, Tb, hgb⟩
          have HTb := Lib.hid Tb
          have HRb := Lib.hid (HRa.out.grown hgb HDN.out)
          have hrl := rt_len HTb.out.F.T
          rw [HIDS.out, HML.out] at hrl
          clear Tb hgb
          obtain ⟨tr, htr⟩ : ∃ x, t'.rt = x := ⟨_, rfl⟩
          have HTR := Lib.hid htr
          rw [htr] at hrl ⊢
          clear htr
          have hMM : (((M : Nat) : Int) != ((M : Nat) : Int)) = false := bne_self_eq_false _
          have hbl : decide (((bk : Nat) : Int) < 0) = false := decide_eq_false (by omega)
          rcases hrl with ⟨hr0, hM0⟩ | ⟨hrN, hM1⟩
          · subst hr0
            subst hM0
            go_wp2_with fail
            refine ((blacks_at HTR.out (blacks_hs t' 0 14 bk _ HTb.out.S HTb.out.F.T HBK.out HDP.out (by omega)))).mono ?_
            rintro e wc ⟨rfl, Sc, hgc⟩
            have HTc := Lib.hid (HTb.out.with_ Sc)
            clear Sc hgc
            go_wp2
            go_loopg [16] 1 (fun gq vk wr => ∃ (j : Nat), 1 ≤ j ∧ j ≤ 1 ∧ gq = 2 - j ∧ vk = .int .i64 (j : Int) ∧ Ts w wr p d kw h' t')
            case atStart => exact ⟨1, by omega, by omega, rfl, rfl, HTc.out⟩
            case round =>
              clear HTc
              obtain ⟨j, hj1, hj2, rfl, rfl, hT⟩ := hrel
              obtain rfl : j = 1 := by omega
              have HTz := Lib.hid hT
              clear hT
              go_wp2
              go_roundg (min dl 80 - (k + 1))
              case measure => omega
              case rel => exact ⟨k + 1, h', t', _, by omega, rfl, HMl.out, rfl, by go_num, HTz.out⟩
          · have hrb : (tr == 0) = false := beq_eq_false_iff_ne.2 hrN.ne0
            have hrb2 : (tr != 0) = true := by rw [bne_iff_ne]; exact hrN.ne0
            have hMb : (((M : Nat) : Int) == 0) = false := beq_eq_false_iff_ne.2 (by omega)
            have HRN := Lib.hid hrN
            have hred : redH h' tr = false := by rw [← HTR.out, redH_rt HTb.out.F.T]; exact HBR.out
            have HRED := Lib.hid hred
            clear hrN hred
            go_wp2_with fail
            refine ((blacks_at HTR.out (blacks_hs t' 0 14 bk _ HTb.out.S HTb.out.F.T HBK.out HDP.out (by omega)))).mono ?_
            rintro e wc ⟨rfl, Sc, hgc⟩
            have HTc := Lib.hid (HTb.out.with_ Sc)
            have HRc : Hid (Ri wc B A5 L) := Lib.hid (HRb.out.grown hgc HDN.out)
            clear Sc hgc
            go_wp2_with fail
            refine (Red_hs HTc.out.S HRN.out).mono ?_
            rintro e we ⟨rfl, Se, hge⟩
            rw [HRED.out]
            have HTe := Lib.hid (HTc.out.with_ Se)
            have HRe := Lib.hid (HRc.out.grown hge HDN.out)
            clear Se hge
            go_wp2
            go_loopg [16] (M - 1) (fun gq vk wr => ∃ (j : Nat), 1 ≤ j ∧ j ≤ M ∧ gq = M - j ∧ vk = .int .i64 (j : Int) ∧ Ts w wr p d kw h' t' ∧ Ri wr B A5 L)
            case atStart => exact ⟨1, by omega, by omega, rfl, rfl, HTe.out, HRe.out⟩
            case round =>
              clear HTe HRe
              obtain ⟨j, hj1, hj2, rfl, rfl, hT, hR⟩ := hrel
              have HTz := Lib.hid hT
              have HRz := Lib.hid hR
              clear hT hR
              by_cases hjl : j < M
              · have hdj : decide ((j : Int) < (M : Int)) = true := decide_eq_true (by omega)
                obtain ⟨g1, hg1, hgB1, hcell1⟩ := HRz.out.at_ (j - 1) (by rw [HML.out]; omega)
                obtain ⟨g2, hg2, hgB2, hcell2⟩ := HRz.out.at_ j (by rw [HML.out]; omega)
                subst hg1
                injection hg2 with hg2
                injection hg2 with hg2
                subst hg2
                have hx := getD_mem (L := L) (k := j - 1) (by rw [HML.out]; omega)
                have hy := getD_mem (L := L) (k := j) (by rw [HML.out]; omega)
                have hle := srt_get (HIDS.out ▸ HTz.out.srt) hj1 (by rw [HML.out]; exact hjl)
                obtain ⟨x, hxv⟩ : ∃ x, L.getD (j - 1) 0 = x := ⟨_, rfl⟩
                obtain ⟨y, hyv⟩ : ∃ x, L.getD j 0 = x := ⟨_, rfl⟩
                rw [hxv] at hx hle hcell1
                rw [hyv] at hy hle hcell2
                have hxN : isN x := HTz.out.F.T.isN x (by rw [HIDS.out]; exact hx)
                have hyN : isN y := HTz.out.F.T.isN y (by rw [HIDS.out]; exact hy)
                have hx0 : 32 ≤ x ∧ x ≤ 1280 := by unfold isN at hxN; omega
                have hy0 : 32 ≤ y ∧ y ≤ 1280 := by unfold isN at hyN; omega
                obtain ⟨hxa, hxb⟩ := hx0
                obtain ⟨hya, hyb⟩ := hy0
                have HXN := Lib.hid hxN
                have HYN := Lib.hid hyN
                have HLE := Lib.hid hle
                have hjt : ((j : Int) - 1).toNat = j - 1 := by omega
                have hj0 : 0 ≤ (j : Int) - 1 := by omega
                have hjM : (j : Int) - 1 < (M : Int) := by omega
                have HC2 := Lib.hid hcell2
                have HGL : Hid (g1 < wr.heap.size) := Lib.hid (World.block_lt_of_cell? _ ⟨g1, j, none⟩ hcell2)
                clear hx hy hle hxN hyN hxv hyv
                go_wp2_with fail
                refine (LoadKey_hs HTz.out.S HXN.out).mono ?_
                rintro e wf ⟨rfl, Sf, hBf⟩
                have HTf := Lib.hid (HTz.out.with_ Sf)
                have HRf := Lib.hid (HRz.out.below hBf)
                have hcf : wf.cell? ⟨g1, j, none⟩ = some (.int .i64 y) := (hBf.cell HGL.out).trans HC2.out
                clear Sf hBf hcell1 hcell2
                go_wp2_with fail
                refine (LoadKey_hs HTf.out.S HYN.out).mono ?_
                rintro e wg ⟨rfl, Sg, hBg⟩
                have HTg := Lib.hid (HTf.out.with_ Sg)
                have HRg := Lib.hid (HRf.out.below hBg)
                have hlk : decide (keyOf kw y < keyOf kw x) = false := decide_eq_false (by have := HLE.out; omega)
                clear Sg hBg hcf
                go_wp2
                go_roundg (M - (j + 1))
                case measure => omega
                case rel => exact ⟨j + 1, by omega, by omega, rfl, by go_num, HTg.out, HRg.out⟩
              · have hdj : decide ((j : Int) < (M : Int)) = false := decide_eq_false (by omega)
                go_wp2
                go_roundg (min dl 80 - (k + 1))
                case measure => omega
                case rel => exact ⟨k + 1, h', t', _, by omega, rfl, HMl.out, rfl, by go_num, HTz.out⟩
      · by_cases hin : z ∈ t.ids
        · obtain ⟨h', t', _, a2, a3⟩ := Remove_ts HT.out hin
          have HI3 := Lib.hid a2
          have HC3 := Lib.hid a3
          have hpos : 1 ≤ t.ids.length := List.length_pos_of_mem hin
          rw [HM0.out] at hpos
          obtain ⟨M, hM⟩ : ∃ M, M = M0 - 1 := ⟨_, rfl⟩
          have HMv : Hid ((M0 : Int) - 1 = (M : Int)) := Lib.hid (by omega)
          have HMl : Hid (t'.ids.length = M) := Lib.hid (by rw [HI3.out, List.length_erase_of_mem hin, HM0.out, hM])
          clear a2 a3 hin hM
          go_wp2_with fail
          refine HC3.out.mono ?_
          rintro e wt ⟨rfl, Tt, _⟩
          have HTt := Lib.hid Tt
          clear Tt hk0'
          have hM40 : M ≤ 40 := by rw [← HMl.out]; exact HTt.out.F.len
          obtain ⟨L, hL⟩ : ∃ L, t'.ids = L := ⟨_, rfl⟩
          have HML : Hid (L.length = M) := Lib.hid (by rw [← hL]; exact HMl.out)
          obtain ⟨bk, hbk, hbr⟩ := HTt.out.rb
          have hdpt : dep t' ≤ 14 := by
            obtain ⟨j, hj1, hj2⟩ := HTt.out.rb.dep
            have hj5 : j ≤ 5 := by
              have h2 : 2 ^ j < 2 ^ 6 := by have h64 : (2 : Nat) ^ 6 = 64 := by decide
                                            have := HMl.out
                                            omega
              have := (Nat.pow_lt_pow_iff_right (by decide : 1 < 2)).1 h2
              omega
            omega
          have hbk50 : bk ≤ 50 := by
            have h2 := (ok_dep t' bk hbk).2
            have h3 : 2 ^ bk < 2 ^ 6 := by have h64 : (2 : Nat) ^ 6 = 64 := by decide
                                           have := HMl.out
                                           omega
            have := (Nat.pow_lt_pow_iff_right (by decide : 1 < 2)).1 h3
            omega
          have HBK := Lib.hid hbk
          have HBR := Lib.hid hbr
          have HDP := Lib.hid hdpt
          have HIDS := Lib.hid hL
          clear hbk hbr hdpt hL
          go_wp2_with fail
          rw [HMv.out]
          refine (All_ts HTt.out).mono ?_
          rintro e wa ⟨v, rfl, hrow, Ta, _⟩
          obtain ⟨A5, c5, rfl, hR⟩ := Ri.of_row hrow rfl
          obtain ⟨B, hB⟩ : ∃ B, wt.heap.size = B := ⟨_, rfl⟩
          have hdn := HTt.out.S.new.2.1
          rw [HIDS.out, HML.out]
          rw [HIDS.out, hB] at hR
          rw [hB] at hdn
          have HDN := Lib.hid hdn
          have HTa := Lib.hid Ta
          have HRa := Lib.hid hR
          clear hrow Ta hR hB hdn
          go_wp2_with fail
          refine (Root_ts HTa.out).mono ?_
          rintro e wb ⟨rfl, Tb, hgb⟩
          have HTb := Lib.hid Tb
          have HRb := Lib.hid (HRa.out.grown hgb HDN.out)
          have hrl := rt_len HTb.out.F.T
          rw [HIDS.out, HML.out] at hrl
          clear Tb hgb
          obtain ⟨tr, htr⟩ : ∃ x, t'.rt = x := ⟨_, rfl⟩
          have HTR := Lib.hid htr
          rw [htr] at hrl ⊢
          clear htr
          have hMM : (((M : Nat) : Int) != ((M : Nat) : Int)) = false := bne_self_eq_false _
          have hbl : decide (((bk : Nat) : Int) < 0) = false := decide_eq_false (by omega)
          rcases hrl with ⟨hr0, hM0⟩ | ⟨hrN, hM1⟩
          · subst hr0
            subst hM0
            go_wp2_with fail
            refine ((blacks_at HTR.out (blacks_hs t' 0 14 bk _ HTb.out.S HTb.out.F.T HBK.out HDP.out (by omega)))).mono ?_
            rintro e wc ⟨rfl, Sc, hgc⟩
            have HTc := Lib.hid (HTb.out.with_ Sc)
            clear Sc hgc
            go_wp2
            go_loopg [16] 1 (fun gq vk wr => ∃ (j : Nat), 1 ≤ j ∧ j ≤ 1 ∧ gq = 2 - j ∧ vk = .int .i64 (j : Int) ∧ Ts w wr p d kw h' t')
            case atStart => exact ⟨1, by omega, by omega, rfl, rfl, HTc.out⟩
            case round =>
              clear HTc
              obtain ⟨j, hj1, hj2, rfl, rfl, hT⟩ := hrel
              obtain rfl : j = 1 := by omega
              have HTz := Lib.hid hT
              clear hT
              go_wp2
              go_roundg (min dl 80 - (k + 1))
              case measure => omega
              case rel => exact ⟨k + 1, h', t', _, by omega, rfl, HMl.out, rfl, by go_num, HTz.out⟩
          · have hrb : (tr == 0) = false := beq_eq_false_iff_ne.2 hrN.ne0
            have hrb2 : (tr != 0) = true := by rw [bne_iff_ne]; exact hrN.ne0
            have hMb : (((M : Nat) : Int) == 0) = false := beq_eq_false_iff_ne.2 (by omega)
            have HRN := Lib.hid hrN
            have hred : redH h' tr = false := by rw [← HTR.out, redH_rt HTb.out.F.T]; exact HBR.out
            have HRED := Lib.hid hred
            clear hrN hred
            go_wp2_with fail
            refine ((blacks_at HTR.out (blacks_hs t' 0 14 bk _ HTb.out.S HTb.out.F.T HBK.out HDP.out (by omega)))).mono ?_
            rintro e wc ⟨rfl, Sc, hgc⟩
            have HTc := Lib.hid (HTb.out.with_ Sc)
            have HRc : Hid (Ri wc B A5 L) := Lib.hid (HRb.out.grown hgc HDN.out)
            clear Sc hgc
            go_wp2_with fail
            refine (Red_hs HTc.out.S HRN.out).mono ?_
            rintro e we ⟨rfl, Se, hge⟩
            rw [HRED.out]
            have HTe := Lib.hid (HTc.out.with_ Se)
            have HRe := Lib.hid (HRc.out.grown hge HDN.out)
            clear Se hge
            go_wp2
            go_loopg [16] (M - 1) (fun gq vk wr => ∃ (j : Nat), 1 ≤ j ∧ j ≤ M ∧ gq = M - j ∧ vk = .int .i64 (j : Int) ∧ Ts w wr p d kw h' t' ∧ Ri wr B A5 L)
            case atStart => exact ⟨1, by omega, by omega, rfl, rfl, HTe.out, HRe.out⟩
            case round =>
              clear HTe HRe
              obtain ⟨j, hj1, hj2, rfl, rfl, hT, hR⟩ := hrel
              have HTz := Lib.hid hT
              have HRz := Lib.hid hR
              clear hT hR
              by_cases hjl : j < M
              · have hdj : decide ((j : Int) < (M : Int)) = true := decide_eq_true (by omega)
                obtain ⟨g1, hg1, hgB1, hcell1⟩ := HRz.out.at_ (j - 1) (by rw [HML.out]; omega)
                obtain ⟨g2, hg2, hgB2, hcell2⟩ := HRz.out.at_ j (by rw [HML.out]; omega)
                subst hg1
                injection hg2 with hg2
                injection hg2 with hg2
                subst hg2
                have hx := getD_mem (L := L) (k := j - 1) (by rw [HML.out]; omega)
                have hy := getD_mem (L := L) (k := j) (by rw [HML.out]; omega)
                have hle := srt_get (HIDS.out ▸ HTz.out.srt) hj1 (by rw [HML.out]; exact hjl)
                obtain ⟨x, hxv⟩ : ∃ x, L.getD (j - 1) 0 = x := ⟨_, rfl⟩
                obtain ⟨y, hyv⟩ : ∃ x, L.getD j 0 = x := ⟨_, rfl⟩
                rw [hxv] at hx hle hcell1
                rw [hyv] at hy hle hcell2
                have hxN : isN x := HTz.out.F.T.isN x (by rw [HIDS.out]; exact hx)
                have hyN : isN y := HTz.out.F.T.isN y (by rw [HIDS.out]; exact hy)
                have hx0 : 32 ≤ x ∧ x ≤ 1280 := by unfold isN at hxN; omega
                have hy0 : 32 ≤ y ∧ y ≤ 1280 := by unfold isN at hyN; omega
                obtain ⟨hxa, hxb⟩ := hx0
                obtain ⟨hya, hyb⟩ := hy0
                have HXN := Lib.hid hxN
                have HYN := Lib.hid hyN
                have HLE := Lib.hid hle
                have hjt : ((j : Int) - 1).toNat = j - 1 := by omega
                have hj0 : 0 ≤ (j : Int) - 1 := by omega
                have hjM : (j : Int) - 1 < (M : Int) := by omega
                have HC2 := Lib.hid hcell2
                have HGL : Hid (g1 < wr.heap.size) := Lib.hid (World.block_lt_of_cell? _ ⟨g1, j, none⟩ hcell2)
                clear hx hy hle hxN hyN hxv hyv
                go_wp2_with fail
                refine (LoadKey_hs HTz.out.S HXN.out).mono ?_
                rintro e wf ⟨rfl, Sf, hBf⟩
                have HTf := Lib.hid (HTz.out.with_ Sf)
                have HRf := Lib.hid (HRz.out.below hBf)
                have hcf : wf.cell? ⟨g1, j, none⟩ = some (.int .i64 y) := (hBf.cell HGL.out).trans HC2.out
                clear Sf hBf hcell1 hcell2
                go_wp2_with fail
                refine (LoadKey_hs HTf.out.S HYN.out).mono ?_
                rintro e wg ⟨rfl, Sg, hBg⟩
                have HTg := Lib.hid (HTf.out.with_ Sg)
                have HRg := Lib.hid (HRf.out.below hBg)
                have hlk : decide (keyOf kw y < keyOf kw x) = false := decide_eq_false (by have := HLE.out; omega)
                clear Sg hBg hcf
                go_wp2
                go_roundg (M - (j + 1))
                case measure => omega
                case rel => exact ⟨j + 1, by omega, by omega, rfl, by go_num, HTg.out, HRg.out⟩
              · have hdj : decide ((j : Int) < (M : Int)) = false := decide_eq_false (by omega)
                go_wp2
                go_roundg (min dl 80 - (k + 1))
                case measure => omega
                case rel => exact ⟨k + 1, h', t', _, by omega, rfl, HMl.out, rfl, by go_num, HTz.out⟩
        · have hO : h.O z ≠ 8 := by rw [HT.out.own HZN.out, if_neg hin]; decide
          have HO := Lib.hid hO
          clear hO hin
          go_wp2_with fail
          refine (Remove_hs_no HT.out.S HZN.out HO.out).mono ?_
          rintro e wt ⟨rfl, St, _⟩
          have HTt := Lib.hid (HT.out.with_ St)
          clear St hk0'
          have HMl : Hid (t.ids.length = M0) := HM0
          have hM40 : M0 ≤ 40 := by rw [← HMl.out]; exact HTt.out.F.len
          obtain ⟨L, hL⟩ : ∃ L, t.ids = L := ⟨_, rfl⟩
          have HML : Hid (L.length = M0) := Lib.hid (by rw [← hL]; exact HMl.out)
          obtain ⟨bk, hbk, hbr⟩ := HTt.out.rb
          have hdpt : dep t ≤ 14 := by
            obtain ⟨j, hj1, hj2⟩ := HTt.out.rb.dep
            have hj5 : j ≤ 5 := by
              have h2 : 2 ^ j < 2 ^ 6 := by have h64 : (2 : Nat) ^ 6 = 64 := by decide
                                            have := HMl.out
                                            omega
              have := (Nat.pow_lt_pow_iff_right (by decide : 1 < 2)).1 h2
              omega
            omega
          have hbk50 : bk ≤ 50 := by
            have h2 := (ok_dep t bk hbk).2
            have h3 : 2 ^ bk < 2 ^ 6 := by have h64 : (2 : Nat) ^ 6 = 64 := by decide
                                           have := HMl.out
                                           omega
            have := (Nat.pow_lt_pow_iff_right (by decide : 1 < 2)).1 h3
            omega
          have HBK := Lib.hid hbk
          have HBR := Lib.hid hbr
          have HDP := Lib.hid hdpt
          have HIDS := Lib.hid hL
          clear hbk hbr hdpt hL
          go_wp2_with fail
          skip
          refine (All_ts HTt.out).mono ?_
          rintro e wa ⟨v, rfl, hrow, Ta, _⟩
          obtain ⟨A5, c5, rfl, hR⟩ := Ri.of_row hrow rfl
          obtain ⟨B, hB⟩ : ∃ B, wt.heap.size = B := ⟨_, rfl⟩
          have hdn := HTt.out.S.new.2.1
          rw [HIDS.out, HML.out]
          rw [HIDS.out, hB] at hR
          rw [hB] at hdn
          have HDN := Lib.hid hdn
          have HTa := Lib.hid Ta
          have HRa := Lib.hid hR
          clear hrow Ta hR hB hdn
          go_wp2_with fail
          refine (Root_ts HTa.out).mono ?_
          rintro e wb ⟨rfl, Tb, hgb⟩
          have HTb := Lib.hid Tb
          have HRb := Lib.hid (HRa.out.grown hgb HDN.out)
          have hrl := rt_len HTb.out.F.T
          rw [HIDS.out, HML.out] at hrl
          clear Tb hgb
          obtain ⟨tr, htr⟩ : ∃ x, t.rt = x := ⟨_, rfl⟩
          have HTR := Lib.hid htr
          rw [htr] at hrl ⊢
          clear htr
          have hMM : (((M0 : Nat) : Int) != ((M0 : Nat) : Int)) = false := bne_self_eq_false _
          have hbl : decide (((bk : Nat) : Int) < 0) = false := decide_eq_false (by omega)
          rcases hrl with ⟨hr0, hM0⟩ | ⟨hrN, hM1⟩
          · subst hr0
            subst hM0
            go_wp2_with fail
            refine ((blacks_at HTR.out (blacks_hs t 0 14 bk _ HTb.out.S HTb.out.F.T HBK.out HDP.out (by omega)))).mono ?_
            rintro e wc ⟨rfl, Sc, hgc⟩
            have HTc := Lib.hid (HTb.out.with_ Sc)
            clear Sc hgc
            go_wp2
            go_loopg [16] 1 (fun gq vk wr => ∃ (j : Nat), 1 ≤ j ∧ j ≤ 1 ∧ gq = 2 - j ∧ vk = .int .i64 (j : Int) ∧ Ts w wr p d kw h t)
            case atStart => exact ⟨1, by omega, by omega, rfl, rfl, HTc.out⟩
            case round =>
              clear HTc
              obtain ⟨j, hj1, hj2, rfl, rfl, hT⟩ := hrel
              obtain rfl : j = 1 := by omega
              have HTz := Lib.hid hT
              clear hT
              go_wp2
              go_roundg (min dl 80 - (k + 1))
              case measure => omega
              case rel => exact ⟨k + 1, h, t, _, by omega, rfl, HMl.out, rfl, by go_num, HTz.out⟩
          · have hrb : (tr == 0) = false := beq_eq_false_iff_ne.2 hrN.ne0
            have hrb2 : (tr != 0) = true := by rw [bne_iff_ne]; exact hrN.ne0
            have hMb : (((M0 : Nat) : Int) == 0) = false := beq_eq_false_iff_ne.2 (by omega)
            have HRN := Lib.hid hrN
            have hred : redH h tr = false := by rw [← HTR.out, redH_rt HTb.out.F.T]; exact HBR.out
            have HRED := Lib.hid hred
            clear hrN hred
            go_wp2_with fail
            refine ((blacks_at HTR.out (blacks_hs t 0 14 bk _ HTb.out.S HTb.out.F.T HBK.out HDP.out (by omega)))).mono ?_
            rintro e wc ⟨rfl, Sc, hgc⟩
            have HTc := Lib.hid (HTb.out.with_ Sc)
            have HRc : Hid (Ri wc B A5 L) := Lib.hid (HRb.out.grown hgc HDN.out)
            clear Sc hgc
            go_wp2_with fail
            refine (Red_hs HTc.out.S HRN.out).mono ?_
            rintro e we ⟨rfl, Se, hge⟩
            rw [HRED.out]
            have HTe := Lib.hid (HTc.out.with_ Se)
            have HRe := Lib.hid (HRc.out.grown hge HDN.out)
            clear Se hge
            go_wp2
            go_loopg [16] (M0 - 1) (fun gq vk wr => ∃ (j : Nat), 1 ≤ j ∧ j ≤ M0 ∧ gq = M0 - j ∧ vk = .int .i64 (j : Int) ∧ Ts w wr p d kw h t ∧ Ri wr B A5 L)
            case atStart => exact ⟨1, by omega, by omega, rfl, rfl, HTe.out, HRe.out⟩
            case round =>
              clear HTe HRe
              obtain ⟨j, hj1, hj2, rfl, rfl, hT, hR⟩ := hrel
              have HTz := Lib.hid hT
              have HRz := Lib.hid hR
              clear hT hR
              by_cases hjl : j < M0
              · have hdj : decide ((j : Int) < (M0 : Int)) = true := decide_eq_true (by omega)
                obtain ⟨g1, hg1, hgB1, hcell1⟩ := HRz.out.at_ (j - 1) (by rw [HML.out]; omega)
                obtain ⟨g2, hg2, hgB2, hcell2⟩ := HRz.out.at_ j (by rw [HML.out]; omega)
                subst hg1
                injection hg2 with hg2
                injection hg2 with hg2
                subst hg2
                have hx := getD_mem (L := L) (k := j - 1) (by rw [HML.out]; omega)
                have hy := getD_mem (L := L) (k := j) (by rw [HML.out]; omega)
                have hle := srt_get (HIDS.out ▸ HTz.out.srt) hj1 (by rw [HML.out]; exact hjl)
                obtain ⟨x, hxv⟩ : ∃ x, L.getD (j - 1) 0 = x := ⟨_, rfl⟩
                obtain ⟨y, hyv⟩ : ∃ x, L.getD j 0 = x := ⟨_, rfl⟩
                rw [hxv] at hx hle hcell1
                rw [hyv] at hy hle hcell2
                have hxN : isN x := HTz.out.F.T.isN x (by rw [HIDS.out]; exact hx)
                have hyN : isN y := HTz.out.F.T.isN y (by rw [HIDS.out]; exact hy)
                have hx0 : 32 ≤ x ∧ x ≤ 1280 := by unfold isN at hxN; omega
                have hy0 : 32 ≤ y ∧ y ≤ 1280 := by unfold isN at hyN; omega
                obtain ⟨hxa, hxb⟩ := hx0
                obtain ⟨hya, hyb⟩ := hy0
                have HXN := Lib.hid hxN
                have HYN := Lib.hid hyN
                have HLE := Lib.hid hle
                have hjt : ((j : Int) - 1).toNat = j - 1 := by omega
                have hj0 : 0 ≤ (j : Int) - 1 := by omega
                have hjM : (j : Int) - 1 < (M0 : Int) := by omega
                have HC2 := Lib.hid hcell2
                have HGL : Hid (g1 < wr.heap.size) := Lib.hid (World.block_lt_of_cell? _ ⟨g1, j, none⟩ hcell2)
                clear hx hy hle hxN hyN hxv hyv
                go_wp2_with fail
                refine (LoadKey_hs HTz.out.S HXN.out).mono ?_
                rintro e wf ⟨rfl, Sf, hBf⟩
                have HTf := Lib.hid (HTz.out.with_ Sf)
                have HRf := Lib.hid (HRz.out.below hBf)
                have hcf : wf.cell? ⟨g1, j, none⟩ = some (.int .i64 y) := (hBf.cell HGL.out).trans HC2.out
                clear Sf hBf hcell1 hcell2
                go_wp2_with fail
                refine (LoadKey_hs HTf.out.S HYN.out).mono ?_
                rintro e wg ⟨rfl, Sg, hBg⟩
                have HTg := Lib.hid (HTf.out.with_ Sg)
                have HRg := Lib.hid (HRf.out.below hBg)
                have hlk : decide (keyOf kw y < keyOf kw x) = false := decide_eq_false (by have := HLE.out; omega)
                clear Sg hBg hcf
                go_wp2
                go_roundg (M0 - (j + 1))
                case measure => omega
                case rel => exact ⟨j + 1, by omega, by omega, rfl, by go_num, HTg.out, HRg.out⟩
              · have hdj : decide ((j : Int) < (M0 : Int)) = false := decide_eq_false (by omega)
                go_wp2
                go_roundg (min dl 80 - (k + 1))
                case measure => omega
                case rel => exact ⟨k + 1, h, t, _, by omega, rfl, HMl.out, rfl, by go_num, HTz.out⟩
    · by_cases hdl2 : k < dl
      · have hd : decide ((k : Int) < (dl : Int)) = true := decide_eq_true (by omega)
        have hd2 : decide ((k : Int) < (80 : Int)) = false := decide_eq_false (by omega)
        go_wp2
        go_ret
        exact ⟨rfl, HT.out.S.kept⟩
      · have hd : decide ((k : Int) < (dl : Int)) = false := decide_eq_false (by omega)
        go_wp2
        go_ret
        exact ⟨rfl, HT.out.S.kept⟩
end Go.Proofs.Ythkppnkhiimaeaa
