/- SlabLast: the block that was freed last is the next one of its size, if its page has others that are taken. -/
import Derived.Test.YtbngmkopgoelbaaDoorSlR
set_option linter.unusedVariables false
set_option linter.unusedSimpArgs false
namespace Go.Proofs.YtbngmkopgoelbaaDoor
open Go.RowKit

theorem mny_nil {c p : Nat} (hc : isC c) : mny ⟨c, []⟩ p = 512 / c := by
  unfold mny
  have h1 := hc.div
  rw [cnt_beyond (gP ⟨c, []⟩ p) (512 / c) (fun i hi => by unfold gP; rw [decide_eq_false (by show ¬ i < 512 / c; omega)]; rfl) 32 h1.2.1]
  exact cnt_all _ _ (fun i hi => by unfold gP; rw [decide_eq_true (by exact hi)]; rfl)
theorem allc_hit {A : Nat → Ap} {n c p : Nat} (h : hit A n c = some p) : allc A n c = some ((A p).fl.headD 0, upd A p ⟨c, (A p).fl.tail⟩) := by unfold allc spot; rw [h]; rfl
theorem allc_fre {A : Nat → Ap} {n c p : Nat} (h : hit A n c = none) (h2 : fre A n = some p) : allc A n c = some ((blks p c).headD 0, upd A p ⟨c, (blks p c).tail⟩) := by unfold allc spot; rw [h, h2]; rfl
theorem allc_ne {A : Nat → Ap} {n c p : Nat} (hp : 1 ≤ p) (hpn : p < n) (h : (A p).c = 0) : allc A n c ≠ none := by
  unfold allc spot
  cases hit A n c with
  | some q => simp
  | none =>
    cases hf : fre A n with
    | some q => simp
    | none =>
      have := find_range_none.1 hf p hpn
      have e1 : (p != 0) = true := by rw [bne_iff_ne]; omega
      rw [e1, h] at this
      cases this

/-- One class alone, filled from the first page on: so many blocks, the top page t. -/
structure Fz (A : Nat → Ap) (c t k : Nat) : Prop where
  wf : Wf A 128
  full : ∀ p, 1 ≤ p → p < t → (A p).c = c ∧ (A p).fl = []
  beyond : ∀ p, t < p → (A p).c = 0
  top : 1 ≤ t → (A t).c = c
  num : k = 0 ∧ t = 0 ∨ 1 ≤ t ∧ 512 / c * (t - 1) + mny (A t) t = k
theorem Fz.start {c : Nat} : Fz none0 c 0 0 := ⟨none0_wf (Nat.le_refl _), fun p h1 h2 => by omega, fun p _ => rfl, fun h => by omega, .inl ⟨rfl, rfl⟩⟩
theorem Fz.next {A : Nat → Ap} {m t k : Nat} (F : Fz A (cls m) t k) (hk : k ≤ 62) : ∃ a A' t', allc A 128 (cls m) = some (a, A') ∧ Fz A' (cls m) t' (k + 1) := by
  have hC := cls_isC m
  have hcp := hC.pos
  have hd := hC.div
  generalize hcm : cls m = c at *
  have low : ∀ j, j < t → ((A j).c == c && !((A j).fl.isEmpty)) = false := fun j hj => by
    by_cases e : j = 0
    · rw [e, F.wf.zero]
      have : ((0 : Nat) == c) = false := beq_eq_false_iff_ne.2 (by omega)
      rw [this]; rfl
    · rw [(F.full j (by omega) hj).2]; simp
  by_cases hf : 1 ≤ t ∧ (A t).fl ≠ []
  · have htc := F.top hf.1
    have htn := (F.wf.ins (by rw [htc]; omega : (A t).c ≠ 0)).2
    have hh : hit A 128 c = some t := find_range.2 ⟨htn, by rw [htc]; simp [hf.2], low⟩
    have hal := allc_hit hh
    obtain ⟨p, l, S, hA', hcase⟩ := spot_of F.wf hC hal
    have hp : p = t := by
      rcases hcase with ⟨h1, _⟩ | ⟨h1, _⟩
      · rw [hh] at h1; injection h1 with h1; exact h1.symm
      · rw [hh] at h1; cases h1
    subst hp
    refine ⟨_, _, p, hal, ?_⟩
    rw [hA']
    refine ⟨S.wf F.wf, fun q h1 h2 => ?_, fun q hq => ?_, fun _ => by rw [upd_same], .inr ⟨hf.1, ?_⟩⟩
    · rw [upd_other _ _ (by omega)]; exact F.full q h1 h2
    · rw [upd_other _ _ (by omega)]; exact F.beyond q hq
    · rw [upd_same, S.mny, S.was.2]
      rcases F.num with h | h <;> omega
  · have hh : hit A 128 c = none := find_range_none.2 (fun j hj => by
      rcases Nat.lt_trichotomy j t with h1 | h1 | h1
      · exact low j h1
      · subst h1
        by_cases e : j = 0
        · rw [e, F.wf.zero]
          have : ((0 : Nat) == c) = false := beq_eq_false_iff_ne.2 (by omega)
          rw [this]; rfl
        · have : (A j).fl = [] := Classical.byContradiction fun h => hf ⟨by omega, h⟩
          rw [this]; simp
      · rw [F.beyond j h1]
        have : ((0 : Nat) == c) = false := beq_eq_false_iff_ne.2 (by omega)
        rw [this]; rfl)
    have hnum : 512 / c * t = k := by
      rcases F.num with ⟨h1, h2⟩ | ⟨h1, h2⟩
      · rw [h1, h2]; rfl
      · have hfl : (A t).fl = [] := Classical.byContradiction fun h => hf ⟨h1, h⟩
        have hAt : A t = ⟨c, []⟩ := by
          have := F.top h1
          rw [← this, ← hfl]
        rw [hAt, mny_nil hC] at h2
        obtain ⟨t', rfl⟩ : ∃ t', t = t' + 1 := ⟨t - 1, by omega⟩
        rw [Nat.add_sub_cancel] at h2
        rw [Nat.mul_succ]; exact h2
    have ht : t + 1 < 128 := by
      have : 2 * t ≤ 512 / c * t := Nat.mul_le_mul_right t hd.2.2
      omega
    have hfr : fre A 128 = some (t + 1) := find_range.2 ⟨ht, by rw [F.beyond (t + 1) (by omega)]; simp, fun j hj => by
      by_cases e : j = 0
      · rw [e]; rfl
      · have h1 : (A j).c = c := by
          rcases Nat.lt_or_ge j t with h | h
          · exact (F.full j (by omega) h).1
          · obtain rfl : j = t := by omega
            exact F.top (by omega)
        rw [h1]
        have : (c == 0) = false := beq_eq_false_iff_ne.2 (by omega)
        rw [this, Bool.and_false]⟩
    have hal := allc_fre hh hfr
    obtain ⟨p, l, S, hA', hcase⟩ := spot_of F.wf hC hal
    have hp : p = t + 1 ∧ blks p c = (blks (t + 1) c).headD 0 :: l := by
      rcases hcase with ⟨h1, _⟩ | ⟨_, h1, h2⟩
      · rw [hh] at h1; cases h1
      · rw [hfr] at h1; injection h1 with h1; exact ⟨h1.symm, h2⟩
    obtain ⟨rfl, hbl⟩ := hp
    refine ⟨_, _, t + 1, hal, ?_⟩
    rw [hA']
    refine ⟨S.wf F.wf, fun q h1 h2 => ?_, fun q hq => ?_, fun _ => by rw [upd_same], .inr ⟨by omega, ?_⟩⟩
    · rw [upd_other _ _ (by omega)]
      rcases Nat.lt_or_ge q t with h | h
      · exact F.full q h1 h
      · obtain rfl : q = t := by omega
        exact ⟨F.top h1, Classical.byContradiction fun h => hf ⟨h1, h⟩⟩
    · rw [upd_other _ _ (by omega)]; exact F.beyond q (by omega)
    · rw [upd_same, S.mny, ← hbl, mny_full hC, Nat.add_sub_cancel]
      omega
/-- Freed, and taken again. -/
theorem Fz.again {A : Nat → Ap} {m t k a : Nat} (F : Fz A (cls m) t k) (h : tkn A a = true) :
    ∃ b A', allc (frd A a) 128 (cls m) = some (b, A') ∧ (mny (A (a / 512)) (a / 512) ≠ 1 → b = a) := by
  have hC := cls_isC m
  have hcp := hC.pos
  generalize cls m = c at *
  have ⟨t1, t2, t3⟩ := tkn_iff.1 h
  have hin := F.wf.ins t1
  have hqt : a / 512 ≤ t := by
    rcases Nat.lt_or_ge t (a / 512) with h1 | h1
    · exact absurd (F.beyond _ h1) t1
    · exact h1
  by_cases hm : mny (A (a / 512)) (a / 512) = 1
  · have hne : allc (frd A a) 128 c ≠ none := allc_ne (p := a / 512) hin.1 hin.2 (by unfold frd; rw [if_pos hm, upd_same])
    cases hal : allc (frd A a) 128 c with
    | none => exact absurd hal hne
    | some r => exact ⟨r.1, r.2, rfl, fun h => absurd hm h⟩
  · have hfr : frd A a = upd A (a / 512) ⟨(A (a / 512)).c, a :: (A (a / 512)).fl⟩ := by unfold frd; rw [if_neg hm]
    have hc : (A (a / 512)).c = c := by
      rcases Nat.lt_or_ge (a / 512) t with h1 | h1
      · exact (F.full _ hin.1 h1).1
      · have e : a / 512 = t := by omega
        rw [e]; exact F.top (by omega)
    have hh : hit (frd A a) 128 c = some (a / 512) := find_range.2 ⟨hin.2, by rw [hfr, upd_same, hc]; simp, fun j hj => by
      rw [hfr, upd_other _ _ (by omega)]
      by_cases e : j = 0
      · rw [e, F.wf.zero]
        have : ((0 : Nat) == c) = false := beq_eq_false_iff_ne.2 (by omega)
        rw [this]; rfl
      · rw [(F.full j (by omega) (by omega)).2]; simp⟩
    refine ⟨_, _, allc_hit hh, fun _ => ?_⟩
    rw [hfr, upd_same]; rfl

/-- Are all as far as k it, or in other pages? -/
def aln (L : List Nat) (a k : Nat) : Bool := (L.take k).all (fun b => b == a || b / 512 != a / 512)
theorem aln_next {L : List Nat} {a k : Nat} (h : k < L.length) : aln L a (k + 1) = (aln L a k && (L.getD k 0 == a || L.getD k 0 / 512 != a / 512)) := by
  unfold aln
  rw [List.take_add_one, List.getElem?_eq_getElem h, List.all_append, List.getD_eq_getElem?_getD, List.getElem?_eq_getElem h]
  simp
theorem aln_alone {A : Nat → Ap} {n a : Nat} {L : List Nat} (W : Wf A n) (hL : ∀ b ∈ L, tkn A b = true) (h : tkn A a = true) (hm : mny (A (a / 512)) (a / 512) = 1) : aln L a L.length = true := by
  unfold aln
  rw [List.take_length, List.all_eq_true]
  intro b hb
  by_cases e : b / 512 = a / 512
  · by_cases e2 : b = a
    · subst e2; simp
    · have := W.last h hm b e e2
      rw [hL b hb] at this; cases this
  · simp [e]

set_option maxRecDepth 100000 in
set_option maxHeartbeats 1000000 in
theorem SlabLast_calls (size many which : Int) (w : World) (T : Tb w) (h0 : 0 ≤ size ∧ size ≤ 65535) (h1 : 0 ≤ many ∧ many ≤ 255) (h2 : 0 ≤ which ∧ which ≤ 255) :
    Calls Tryd.prog 4 #[.int .u16 size, .int .u8 many, .int .u8 which] w fun e w' => e = .returned (.bool true) ∧ Kept w w' := by
  obtain ⟨i0, hi, hz0, hz1, hz2⟩ := info_parts int_info
  obtain ⟨m, hm⟩ := Int.eq_ofNat_of_zero_le (show 0 ≤ 1 + size % 256 by omega)
  obtain ⟨K, hK⟩ := Int.eq_ofNat_of_zero_le (show 0 ≤ 2 + many % 30 by omega)
  have hm1 : 1 ≤ m := by omega
  have hm2 : m ≤ 256 := by omega
  have hK1 : 2 ≤ K := by omega
  have hK2 : K ≤ 31 := by omega
  obtain ⟨hw0, hw1⟩ := h2
  obtain ⟨hs0, hs1⟩ := h0
  obtain ⟨hm0, hm3⟩ := h1
  go_enter Tryd.func4, Tryd.ntmps4
  go_wp2_with fail
  refine (shown_calls _ T).mono ?_
  rintro e w1 ⟨rfl, K1⟩
  go_wp2_with fail
  refine (SNew_st K1 T 128 (by omega) (by omega)).mono ?_
  rintro e w2 ⟨s, pa, pd, pp, rfl, S2, _⟩
  have hlt := S2.lt
  have hk2 := S2.kept.below.size
  have HS2 := Lib.hid S2
  obtain ⟨B, hB⟩ : ∃ B, B = w2.heap.size := ⟨_, rfl⟩
  have HLT : Hid ((s < B ∧ pa < B ∧ pd < B ∧ pp < B) ∧ w.heap.size ≤ B ∧ B ≤ w2.heap.size) := Lib.hid (by rw [hB]; exact ⟨hlt, hk2, Nat.le_refl _⟩)
  clear S2 K1 T hlt hk2 hB
  go_wp2_with fail
  go_loopw [11, 12, 13, 14] (fun l i _ _ wr => ∃ (k t : Nat) (A : Nat → Ap) (bs : List Int) (L : List Nat), k ≤ K ∧ i = .int .i64 (k : Int) ∧ L.length = k ∧ wr.ownsRow B 3 1 l k (vn L) ∧ St w wr s pa pd pp 128 A bs ∧ Fz A (cls m) t k ∧ (∀ b, tkn A b = L.contains b) ∧ B ≤ wr.heap.size) (fun _ i _ _ _ => K - (intOf i).toNat)
  case atStart => exact ⟨0, 0, _, _, [], by omega, rfl, rfl, World.ownsRow_nil _ _ _ _, HS2.out, Fz.start, fun b => rfl, HLT.out.2.2⟩
  case round =>
    obtain ⟨k, t, A, bs, L, hk, rfl, hL, hrow, hS, hF, hT, hBw⟩ := hrel
    have HS := Lib.hid hS
    have HF := Lib.hid hF
    have HT := Lib.hid hT
    have HRow := Lib.hid hrow
    clear hS hF hT hrow
    by_cases hkK : k < K
    · have hki : (k : Int) < (K : Int) := by omega
      obtain ⟨a, A', t', hal, hF'⟩ := HF.out.next (by omega)
      have G := got HS.out.wf hal
      have HG := Lib.hid (And.intro hal (And.intro hF' G))
      clear hal hF' G
      go_wp2_with fail
      refine (Alloc_some HS.out m a hm1 hm2 HG.out.1).mono ?_
      rintro e w3 ⟨rfl, bs', S3', _, _, hFr⟩
      have HS3 := Lib.hid S3'
      have HRow3 := Lib.hid (row_fr HRow.out hFr HLT.out.1)
      have hB3 : B ≤ w3.heap.size := Nat.le_trans hBw hFr.size
      clear S3' hFr
      go_wp2_with (at_builtin; refine wpList_append_own _ rfl _ _ 34 rfl B 3 i0 (.int .i64 0) 1 8 Tryd.underlying34 hi hz0 hz1 hz2 rfl (by decide) _ _ _ rfl (HRow3.out.alloc _) ⟨w3.heap.size, 0, none⟩ 1 1 [.int .i64 (a : Int)] rfl rfl ?c1 ?c2 ?c3 ?c4 ?c5 ?_)
      case c1 =>
        intro j u hj
        match j, hj with
        | 0, hj => simp at hj; subst hj; simp [Addr.add]
      case c2 => intro u hu; simp at hu; subst hu; rfl
      case c3 => unfold maxLen; omega
      case c4 => omega
      case c5 => simp; omega
      · intro v' w4 hown4 hg4 _
        rw [vn_snoc] at hown4
        have S4 := (HS3.out.then_ ((Below.refl _ _).alloc (Nat.le_refl _) _)).row hg4 HLT.out.1 HLT.out.2.1 (fun k hk => (HRow3.out.lt k hk).1)
        have HO4 := Lib.hid hown4
        have HS4 := Lib.hid S4
        have hB4 : B ≤ w4.heap.size := Nat.le_trans (Nat.le_trans hB3 (by simp)) hg4.size
        clear hown4 hg4 S4
        go_wp2
        go_roundw
        case rel => exact ⟨k + 1, t', A', bs', L ++ [a], by omega, by go_num, by simp [hL], HO4.out, HS4.out, HG.out.2.1, fun b => by rw [HG.out.2.2.all, HT.out b, Bool.eq_iff_iff]; simp, hB4⟩
        case measure => simp [intOf]; omega
    · obtain rfl : k = K := by omega
      clear hkK hk
      obtain ⟨A1, c1, hv1, hcs⟩ := row_cells (L := L) (by rw [hL]; exact HRow.out)
      rw [hL] at hv1 hcs
      subst hv1
      obtain ⟨j, hj0⟩ := Int.eq_ofNat_of_zero_le (Int.emod_nonneg which (show (k : Int) ≠ 0 by omega))
      have hj : j < k := by have := Int.emod_lt_of_pos which (show (0 : Int) < (k : Int) by omega); omega
      obtain ⟨g, rfl, hcj⟩ := hcs j hj
      have hcg : ∀ i, i < k → wr.cell? ⟨g, i, none⟩ = some (.int .i64 ((L.getD i 0 : Nat) : Int)) := fun i hi => by
        obtain ⟨g', e, h⟩ := hcs i hi
        injection e with e
        injection e with e
        rw [e]; exact h
      have HCG := Lib.hid hcg
      have hmem : ∀ i, i < k → L.getD i 0 ∈ L := fun i hi => by
        rw [List.getD_eq_getElem?_getD, List.getElem?_eq_getElem (by omega)]
        exact List.getElem_mem _
      have HTK : Hid (∀ b ∈ L, tkn A b = true) := Lib.hid (fun b hb => by rw [HT.out b]; exact List.contains_iff_mem.2 hb)
      have HTA := Lib.hid (HTK.out _ (hmem j hj))
      have HNX : Hid (∀ a q, q < k → aln L a (q + 1) = (aln L a q && (L.getD q 0 == a || L.getD q 0 / 512 != a / 512))) := Lib.hid (fun a q hq => aln_next (by omega))
      have HAL : Hid (∀ a, tkn A a = true → mny (A (a / 512)) (a / 512) = 1 → aln L a k = true) := Lib.hid (fun a h1 h2 => by rw [← hL]; exact aln_alone HS.out.wf HTK.out h1 h2)
      have hLT : ∀ i, i < k → L.getD i 0 < 65536 := fun i hi => by
        have h1 := HS.out.wf.fits (HTK.out _ (hmem i hi))
        have h2 := h1.2.2.2.pos
        omega
      have HLT2 := Lib.hid hLT
      have ha64 := hLT j hj
      have HJ := Lib.hid hj
      generalize ha : L.getD j 0 = a at *
      clear hcs hcg hmem hLT ha
      have hji : (j : Int) < (k : Int) := by omega
      have hjn : ¬ ((j : Int) < 0) := by omega
      go_wp2_with fail
      go_loop [16, 17] (fun al i => ∃ q : Nat, q ≤ k ∧ i = .int .i64 (q : Int) ∧ al = .bool (aln L a q)) (fun _ i => k - (intOf i).toNat)
      case atStart => exact ⟨0, by omega, rfl, rfl⟩
      case round =>
        obtain ⟨q, hq, rfl, rfl⟩ := hrel
        by_cases hqk : q < k
        · have hqi : (q : Int) < (k : Int) := by omega
          have hcq := HCG.out q hqk
          have hnx := HNX.out a q hqk
          have hb := HLT2.out q hqk
          generalize L.getD q 0 = x at *
          have HN := Lib.hid hnx
          clear hnx
          cases hal : aln L a q with
          | false =>
            have HAQ := Lib.hid hal
            clear hal
            go_wp2
            go_round
            case rel => exact ⟨q + 1, by omega, by go_num, by rw [HN.out, HAQ.out]; rfl⟩
            case measure => simp [intOf]; omega
          | true =>
            have HAQ := Lib.hid hal
            clear hal
            by_cases hxa : x = a
            · subst hxa
              go_wp2
              go_round
              case rel => exact ⟨q + 1, by omega, by go_num, by rw [HN.out, HAQ.out]; simp⟩
              case measure => simp [intOf]; omega
            · have e1 : ((x : Int) == (a : Int)) = false := beq_eq_false_iff_ne.2 (by omega)
              have e2 : (x == a) = false := beq_eq_false_iff_ne.2 hxa
              by_cases hxp : x / 512 = a / 512
              · have e3 : (x : Int) / 512 = (a : Int) / 512 := by omega
                have HXP := Lib.hid hxp
                clear hxa hxp
                go_wp2
                go_round
                case rel => exact ⟨q + 1, by omega, by go_num, by rw [HN.out, HAQ.out, e2, HXP.out]; simp⟩
                case measure => simp [intOf]; omega
              · have e3 : ((x : Int) / 512 != (a : Int) / 512) = true := by rw [bne_iff_ne]; omega
                have HXP := Lib.hid hxp
                clear hxa hxp
                go_wp2
                go_round
                case rel => exact ⟨q + 1, by omega, by go_num, by rw [HN.out, HAQ.out, e2]; simp [HXP.out]⟩
                case measure => simp [intOf]; omega
        · obtain rfl : q = k := by omega
          clear hqk hq
          obtain ⟨b, A', hal, hba⟩ := HF.out.again HTA.out
          have HAG := Lib.hid (And.intro hal hba)
          clear hal hba
          go_wp2_with fail
          refine (Free_yes HS.out a HTA.out).mono ?_
          rintro e w3 ⟨rfl, bs3, S3', _, hF3⟩
          have HS3 := Lib.hid S3'
          have HRow3 := Lib.hid (row_fr HRow.out hF3 HLT.out.1)
          clear S3' hF3
          go_wp2_with fail
          refine (Alloc_some HS3.out m b hm1 hm2 HAG.out.1).mono ?_
          rintro e w4 ⟨rfl, bs4, S4, _, _, hF4⟩
          have HS4 := Lib.hid S4
          have hrow4 := row_fr HRow3.out hF4 HLT.out.1
          obtain ⟨A5, c5, hv5, hcs5⟩ := row_cells (L := L) (by rw [hL]; exact hrow4)
          obtain ⟨g5, e5, hc5⟩ := hcs5 (q - 1) (by omega)
          rw [hL] at hv5
          injection hv5 with h51 h52 h53
          rw [e5] at h51
          injection h51 with h51
          injection h51 with h51
          subst h51
          have e6 : ((q : Int) - 1).toNat = q - 1 := by omega
          have e7 : ((q - 1 : Nat) : Int) = (q : Int) - 1 := by omega
          clear hrow4 hcs5 S4 hF4 h52 h53 e5
          generalize L.getD (q - 1) 0 = z at *
          by_cases hm : mny (A (a / 512)) (a / 512) = 1
          · have hal := HAL.out a HTA.out hm
            have HM := Lib.hid hm
            rw [hal]
            clear hal hm
            go_wp2
            go_ret
            exact ⟨rfl, HS4.out.kept⟩
          · obtain rfl : b = a := HAG.out.2 hm
            have HM := Lib.hid hm
            clear hm
            cases aln L b q with
            | true =>
              go_wp2
              go_ret
              exact ⟨rfl, HS4.out.kept⟩
            | false =>
              go_wp2
              go_ret
              exact ⟨rfl, HS4.out.kept⟩
end Go.Proofs.YtbngmkopgoelbaaDoor
