/- SlabPlays: whatever is taken from a slab of any size, and given back, it answers what the document says. -/
import Derived.Test.YtbngmkopgoelbaaDoorSlPlays0
import Derived.Test.YtbngmkopgoelbaaDoorPost
import Derived.Test.YtbngmkopgoelbaaDoorCol
import Derived.Maps.AppendAt
import Derived.StillTailTactics
import Derived.Deep.DeepCutAuto
import Derived.Deep.LoopGhost
import Derived.Deep.RegionHeld3
set_option linter.unusedVariables false
set_option linter.unusedSimpArgs false
namespace Go.Proofs.YtbngmkopgoelbaaDoor.Ref
open Go.RowKit Go.Proofs.YtbngmkopgoelbaaDoorW.PrintWords Go.Proofs.YtbngmkopgoelbaaDoor.PSlabPlays
open Go.Proofs.YtbngmkopgoelbaaDoor (Ap cls cls_isC cls_ge allc tkn Wf gb St Fr S3 vn vn_snoc len_snoc row_fr row_below row_cells none0 zeros Arena_st Len_calls SNew_st SNew_bad shown_calls Tb ColI bd_i64 int_info Fill_st3 Bytes_any fillA Used_st Pages_st)

/-- The deeds, column by column. -/
structure Deeds (w : World) (A : Option Addr) (len : Nat) (fk fn : Nat → Int) : Prop where
  k : ColI w A len 2 0 .i64 fk
  n : ColI w A len 2 1 .i64 fn
theorem Deeds.below {w w1 : World} {A : Option Addr} {len : Nat} {fk fn : Nat → Int} (h : Deeds w A len fk fn) (hb : Below w.heap.size w w1) : Deeds w1 A len fk fn := ⟨h.k.below hb, h.n.below hb⟩

theorem add_of_add (a : Addr) (i j : Nat) : (a.add i).add j = a.add (i + j) := by
  unfold Addr.add
  by_cases hi : i = 0 <;> by_cases hj : j = 0 <;> simp [hi, hj, Nat.add_assoc]
theorem Deeds.at_ {w : World} {A : Option Addr} {len : Nat} {fk fn : Nat → Int} (h : Deeds w A len fk fn) (i : Nat) (hi : i < len) :
    ∃ ad : Addr, A = some ad ∧ w.cell? (ad.add (i * 2)) = some (.int .i64 (fk i)) ∧ w.cell? ⟨(ad.add (i * 2)).block, (ad.add (i * 2)).off + 1, none⟩ = some (.int .i64 (fn i)) ∧ (-9223372036854775808 ≤ fn i ∧ fn i ≤ 9223372036854775807) := by
  obtain ⟨ad, rfl, hadl, hck, hwk⟩ := h.k i hi
  obtain ⟨ad', ead, _, hcn, hwn⟩ := h.n i hi
  obtain rfl : ad = ad' := by injection ead
  rw [← add_of_add] at hck hcn
  exact ⟨ad, rfl, hck, hcn, bd_i64 hwn⟩

/-- The deed at hand, in a block of its own. -/
def Xb (w : World) (g : Nat) (K m : Int) : Prop := w.heap[g]? = some (.cells #[.int .i64 K, .int .i64 m] 52)
section
variable {w w1 : World} {g s pd pp : Nat} {K m : Int}
theorem Xb.lt (h : Xb w g K m) : g < w.heap.size := (Array.getElem?_eq_some_iff.1 h).1
theorem Xb.c0 (h : Xb w g K m) : w.cell? ⟨g, 0, none⟩ = some (.int .i64 K) := by rw [cell_of_row w g 0 _ _ _ h]; rfl
theorem Xb.c1 (h : Xb w g K m) : w.cell? ⟨g, 1, none⟩ = some (.int .i64 m) := by rw [cell_of_row w g 1 _ _ _ h]; rfl
theorem Xb.below (h : Xb w g K m) (hb : Below w.heap.size w w1) : Xb w1 g K m := (hb.block g h.lt).trans h
theorem Xb.fr (h : Xb w g K m) (hF : Fr (S3 s pd pp) w w1) (hg : g ≠ s ∧ g ≠ pd ∧ g ≠ pp) : Xb w1 g K m :=
  (hF.block g h.lt (by rintro (e | e | e) <;> omega)).trans h
theorem Xb.grown (h : Xb w g K m) {r : Option Nat} (hg : w.grownBy w1 r) (hr : r ≠ some g) : Xb w1 g K m := (hg.block g h.lt (fun e => hr e.symm)).trans h
end

set_option maxRecDepth 100000 in
set_option maxHeartbeats 1000000 in
theorem plays_bad (n : Int) (A : Option Addr) (len cap : Nat) (place : Int) (w : World) (T : Tb w) (h : n < 1 ∨ 128 < n) :
    Calls Tryd.prog 8 #[.int .i64 n, .slice A len cap, .int .i64 place] w fun e w' => e = .returned (.bool true) ∧ Go.Proofs.YtbngmkopgoelbaaDoor.Kept w w' := by
  have HN := Lib.hid h
  have hb : (decide (n < 1) || decide (128 < n)) = true := by rw [Bool.or_eq_true, decide_eq_true_eq, decide_eq_true_eq]; exact h
  clear h
  go_enter Tryd.func8, Tryd.ntmps8
  go_wp2_with fail
  refine (shown_calls _ T).mono ?_
  rintro e w1 ⟨rfl, K1⟩
  go_wp2_with fail
  refine (SNew_bad n _ HN.out).mono ?_
  rintro e w2 ⟨rfl, rfl⟩
  go_wp2
  all_goals (go_ret; exact ⟨rfl, K1⟩)

set_option maxRecDepth 100000 in
set_option maxHeartbeats 4000000 in
theorem plays_ok (n : Nat) (A0 : Option Addr) (len cap : Nat) (fk fn : Nat → Int) (place : Int) (w : World) (T : Tb w) (hn1 : 1 ≤ n) (hn2 : n ≤ 128) (hlen : len ≤ 9223372036854775807) (hD : Deeds w A0 len fk fn) :
    Calls Tryd.prog 8 #[.int .i64 (n : Int), .slice A0 len cap, .int .i64 place] w fun e w' => e = .returned (.bool true) ∧ Go.Proofs.YtbngmkopgoelbaaDoor.Kept w w' := by
  obtain ⟨i0, hi, hz0, hz1, hz2⟩ := info_parts int_info
  have HD := Lib.hid hD
  clear hD
  go_enter Tryd.func8, Tryd.ntmps8
  go_wp2_with fail
  refine (shown_calls _ T).mono ?_
  rintro e w1 ⟨rfl, K1⟩
  go_wp2_with fail
  refine (SNew_st K1 T n hn1 hn2).mono ?_
  rintro e w2 ⟨s, pa, pd, pp, rfl, S2, _⟩
  have hlt := S2.lt
  have hk2 := S2.kept.below.size
  have HS2 := Lib.hid S2
  obtain ⟨B, hB⟩ : ∃ B, B = w2.heap.size := ⟨_, rfl⟩
  have HLT : Hid ((s < B ∧ pa < B ∧ pd < B ∧ pp < B) ∧ w.heap.size ≤ B ∧ B = w2.heap.size) := Lib.hid (by rw [hB]; exact ⟨hlt, hk2, rfl⟩)
  clear S2 K1 T hlt hk2 hB
  go_wp2_with fail
  refine (Arena_st HS2.out).mono ?_
  rintro e w3 ⟨rfl, rfl⟩
  go_wp2_with fail
  refine (Len_calls HS2.out.ar).mono ?_
  rintro e w3 ⟨rfl, rfl⟩
  rw [HS2.out.len]
  have hN : ((512 * n : Nat) : Int) = 512 * (n : Int) := by omega
  go_wp2_with fail
  obtain ⟨hR0, hQ0⟩ := New_ref n hn2
  refine (turnbuckleref03_New.calls (n : Int) _ _ hR0).mono ?_
  rintro e w4 ⟨v4, rfl, hV4, hB4⟩
  have HQ0 := Lib.hid hQ0
  have HS4 := Lib.hid (HS2.out.then_ hB4)
  have HR4 : Hid (Rv w4 B (.slice none 0 0) [] v4 (List.replicate n z82)) := Lib.hid (by have h := Rv.start (b := 0) hV4 hB4; rw [HLT.out.2.2]; exact h)
  clear hV4 hB4 hR0 hQ0 HS2
  go_wp2_with fail
  go_loopg [10, 11, 12] 150 (fun g v l i wr => ∃ (k : Nat) (A : Nat → Ap) (bs : List Int) (L : List Nat) (R : List S82), k ≤ 150 ∧ g = 150 - k ∧ i = .int .i64 (k : Int) ∧ L.length ≤ k ∧ St w wr s pa pd pp n A bs ∧ Sim A n R ∧ Rv wr B l L v R)
  case atStart => exact ⟨0, _, _, [], _, by omega, by omega, rfl, by simp, HS4.out, HQ0.out, HR4.out⟩
  case round =>
    clear HS4 HQ0 HR4
    obtain ⟨k, A, bs, L, R, hk, rfl, rfl, hLk, hS, hQ, hV⟩ := hrel
    have HS := Lib.hid hS
    have HQ := Lib.hid hQ
    have HV := Lib.hid hV
    clear hS hQ hV
    by_cases hlt : k < len ∧ k < 150
    · obtain ⟨hlt1, hlt2⟩ := hlt
      have D := HD.out.below HS.out.kept.below
      obtain ⟨ad, rfl, hck, hcn, hbn⟩ := D.at_ k hlt1
      clear D
      generalize fk k = K at *
      generalize fn k = m at *
      have hl2 : (k : Int) < (len : Int) := by omega
      have hl3 : (k : Int) < 150 := by omega
      obtain ⟨A4, c4, hv4⟩ := Kd.V_slice HV.out.v
      subst hv4
      obtain ⟨A1, c1, hv1, _⟩ := row_cells HV.out.row
      subst hv1
      have HNG : Hid ((Value.slice A1 L.length c1).ownBlock ≠ some wr.heap.size) := Lib.hid (fun e => Nat.lt_irrefl _ (HV.out.row.lt _ e).2)
      have HGS : Hid (wr.heap.size ≠ s ∧ wr.heap.size ≠ pd ∧ wr.heap.size ≠ pp) := Lib.hid (by have h1 := HV.out.le; have h2 := HLT.out.1; omega)
      go_upto_if 88 with fail
      have hBa : Below wr.heap.size wr (wr.alloc (.cells #[.int .i64 K, .int .i64 m] 52)) := (Below.refl _ _).alloc (Nat.le_refl _) _
      have HSa := Lib.hid (HS.out.then_ hBa)
      have HVa := Lib.hid (HV.out.below hBa)
      have HXa : Hid (Xb (wr.alloc (.cells #[.int .i64 K, .int .i64 m] 52)) wr.heap.size K m) := Lib.hid (heap_alloc_new wr _)
      clear hBa hck hcn
      generalize wr.alloc (.cells #[.int .i64 K, .int .i64 m] 52) = wa at *
      generalize wr.heap.size = g at *
      go_cut [10, 11] (fun v l wc => ∃ (A' : Nat → Ap) (bs' : List Int) (L' : List Nat) (R' : List S82), L'.length ≤ k + 1 ∧ St w wc s pa pd pp n A' bs' ∧ Sim A' n R' ∧ Rv wc B l L' v R')
      case first =>
        have hc0 := HXa.out.c0
        have hc1 := HXa.out.c1
        by_cases h0 : K = 0
        · subst h0
          clear hc0
          go_wp2_with fail
          refine (Alloc_both HSa.out HQ.out hn1 m).mono ?_
          rintro e w3 ⟨a, c, A', bs', R', kf, rfl, S3', Q', hF, href, hcase⟩
          have HS3 := Lib.hid S3'
          have HQ3 := Lib.hid Q'
          have HV3 := Lib.hid (HVa.out.fr hF HLT.out.1)
          have HX3 := Lib.hid (HXa.out.fr hF HGS.out)
          have hc1' := HX3.out.c1
          have HCS := Lib.hid hcase
          clear S3' Q' hF hcase HSa HVa HXa hc1 HS HQ HV
          go_wp2_with fail
          refine (turnbuckleref03_Alloc.calls kf (fun k => B ≤ k ∧ some k ≠ (Value.slice A1 L.length c1).ownBlock) A4 c4 R m R' (a : Int) c _ (HV3.out.v) href).mono ?_
          rintro e w4 ⟨v4, rfl, hV4, hB4⟩
          have HS4 := Lib.hid (HS3.out.then_ hB4)
          have HV4 := Lib.hid (HV3.out.ref hV4 hB4)
          have HX4 := Lib.hid (HX3.out.below hB4)
          clear hV4 hB4 hc1' href HS3 HV3 HX3
          rcases HCS.out with ⟨rfl, hNew⟩ | hc0
          · have HN := Lib.hid hNew
            clear hNew HCS
            go_wp2_with (at_builtin; refine wpList_append_own_at _ rfl _ _ 34 rfl B 3 i0 (.int .i64 0) 1 8 Tryd.underlying34 hi hz0 hz1 hz2 rfl (by decide) _ _ _ rfl (HV4.out.row.alloc _) ⟨w4.heap.size, 0, none⟩ 1 1 [.int .i64 (a : Int)] rfl rfl ?c1 ?c2 ?c3 ?c4 ?c5 ?_)
            case c1 =>
              intro j u hj
              match j, hj with
              | 0, hj => simp at hj; subst hj; simp [Addr.add]
            case c2 => intro u hu; simp at hu; subst hu; rfl
            case c3 => unfold maxLen; omega
            case c4 => have := HV4.out.le; omega
            case c5 => have := HV4.out.le; simp; omega
            · intro v5 w5 hown5 hg5 _ hob5
              rw [vn_snoc, len_snoc _ a] at hown5
              have hBl : Below w4.heap.size w4 (w4.alloc (.cells #[.int .i64 (a : Int)] 3)) := (Below.refl _ _).alloc (Nat.le_refl _) _
              have HS5 := Lib.hid ((HS4.out.then_ hBl).row hg5 HLT.out.1 HLT.out.2.1 (fun k hk => (HV4.out.row.lt k hk).1))
              have HV5 := Lib.hid ((HV4.out.below hBl).told hg5 (hob5.imp_right (fun h => ⟨_, h, by simp⟩)) hown5)
              have HX5 := Lib.hid ((HX4.out.below hBl).grown hg5 HNG.out)
              clear hown5 hg5 hob5 hBl HS4 HV4 HX4
              obtain ⟨kc, hkc⟩ := Class_eq m.toNat (by have := HN.out.lo; omega) (by have := HN.out.hi; omega)
              rw [Int.toNat_of_nonneg (by have := HN.out.lo; omega)] at hkc
              have HKC := Lib.hid hkc
              obtain ⟨q, hq⟩ : ∃ q, q = cls m.toNat := ⟨_, rfl⟩
              rw [← hq] at hkc
              have HQQ := Lib.hid hq
              have hqC := cls_isC m.toNat
              rw [← hq] at hqC
              have hqp := hqC.pos
              have hcx := HX5.out.c1
              have hgl := HX5.out.lt
              have hfit := HS5.out.wf.fits HN.out.tk
              rw [HN.out.c, ← hq] at hfit
              have hbl := HS5.out.len
              have ham : a + q ≤ bs'.length := by omega
              have hcl := Go.Proofs.YtbngmkopgoelbaaDoor.cut_lenP ham
              have HAM := Lib.hid (And.intro ham hcl)
              clear HKC hq hqC hfit hbl ham hcl
              go_upto_region 21 with fail
              go_cut [19] (fun v19 wc => ∃ gb' : Nat, v19 = .slice (some ⟨gb', 0, none⟩) q q ∧ Go.Proofs.YtbngmkopgoelbaaDoor.Bk wc gb' (Go.Proofs.YtbngmkopgoelbaaDoor.cutA bs' (a : Int) (q : Int)) ∧ Below w5.heap.size w5 wc)
              case first =>
                have hBd : Below w5.heap.size w5 w5.drew := (Below.refl _ _).drew
                have HSd := Lib.hid (HS5.out.then_ hBd)
                go_region_held3 (fun w' => w'.cell? ⟨g, 1, none⟩ = some (.int .i64 m)) (first | exact hcx | exact (hB6.cell (p := ⟨g, 1, none⟩) hgl).trans hcx | exact (hB7.cell (p := ⟨g, 1, none⟩) (Nat.lt_of_lt_of_le hgl hB6.size)).trans ((hB6.cell (p := ⟨g, 1, none⟩) hgl).trans hcx)) (first | (go_simp; go_at_call 14; (first | refine (Arena_st HSd.out).mono ?_ | refine (Arena_st (HSd.out.then_ hB6)).mono ?_); rintro e w6' ⟨rfl, rfl⟩) | (go_simp; go_at_call 22; refine (turnbuckleref03_Class.calls kc m (q : Int) _ hkc).mono ?_; rintro e w6 ⟨rfl, hB6⟩) | (go_simp; go_at_call 17; refine (Bytes_any (a : Int) (q : Int) _ (HSd.out.then_ hB6).ar (by omega)).mono ?_; rintro e w7 ⟨gb', rfl, hBk, hgle, hB7⟩))
                all_goals
                  go_wp2_with fail
                  go_meet
                  exact ⟨gb', by rw [HAM.out.2], hBk, below_step (below_step hBd hB6) hB7⟩
              case rest =>
                obtain ⟨gb', rfl, hBk, hBw⟩ := hcut
                have HBK := Lib.hid hBk
                have HS6 := Lib.hid (HS5.out.then_ hBw)
                have HV6 := Lib.hid (HV5.out.below hBw)
                have HX6 := Lib.hid (HX5.out.below hBw)
                clear hBk hBw HS5 HV5 HX5 hcx hgl
                have hcx := HX6.out.c1
                have hgl := HX6.out.lt
                go_wp2_with fail
                go_loop [21] (fun k => ∃ r : Nat, r ≤ q ∧ k = .int .i64 (r : Int)) (fun k => q - (intOf k).toNat)
                case atStart => exact ⟨0, by omega, rfl⟩
                case round =>
                  obtain ⟨r, hr, rfl⟩ := hrel
                  by_cases hrm : r < q
                  · have hri : (r : Int) < (q : Int) := by omega
                    have hcb := HBK.out.byte r (by rw [HAM.out.2]; exact hrm)
                    rw [Go.Proofs.YtbngmkopgoelbaaDoor.gb_cutP HAM.out.1 hrm, HN.out.zero (a + r) (by omega) (by rw [← HQQ.out]; omega)] at hcb
                    go_wp2
                    go_round
                    case rel => exact ⟨r + 1, by omega, by go_num⟩
                    case measure => simp [intOf]; omega
                  · obtain rfl : r = q := by omega
                    clear hrm hr
                    go_upto_region 27 with fail
                    have hBd : Below wc.heap.size wc wc.drew := (Below.refl _ _).drew
                    have HSd := Lib.hid (HS6.out.then_ hBd)
                    have HXd := Lib.hid (HX6.out.below hBd)
                    have HVd := Lib.hid (HV6.out.below hBd)
                    go_region_held3 (fun w' => w'.cell? ⟨g, 1, none⟩ = some (.int .i64 m)) (first | exact hcx | exact (HXd.out.below hB6).c1 | exact ((HXd.out.below hB6).fr hF7 HGS.out).c1) (first | (go_simp; go_at_call 14; (first | refine (Arena_st HSd.out).mono ?_ | refine (Arena_st (HSd.out.then_ hB6)).mono ?_); rintro e w6' ⟨rfl, rfl⟩) | (go_simp; go_at_call 22; refine (turnbuckleref03_Class.calls kc m (r : Int) _ hkc).mono ?_; rintro e w6 ⟨rfl, hB6⟩) | (go_simp; go_at_call 16; refine (Fill_st3 (HSd.out.then_ hB6) a r 255 HN.out.tk (by rw [HN.out.c, ← HQQ.out]; exact Nat.le_refl _) (by omega) (by omega)).mono ?_; rintro e w7 ⟨rfl, hS7, hF7⟩))
                    all_goals
                      go_wp2_with fail
                      go_meet
                      exact ⟨A', _, L ++ [a], R', by simp; omega, hS7, HQ3.out, (HVd.out.below hB6).fr hF7 HLT.out.1⟩
          · clear HCS
            go_wp2_with fail
            go_meet
            exact ⟨A', bs', L, R', by omega, HS4.out, HQ3.out, HV4.out⟩
        · have e0 : (K == 0) = false := beq_eq_false_iff_ne.2 h0
          clear h0
          by_cases h1 : K = 1 ∧ 0 ≤ m ∧ 0 < L.length
          · obtain ⟨rfl, hm0, hL0⟩ := h1
            obtain ⟨j, hj0⟩ := Int.eq_ofNat_of_zero_le (Int.emod_nonneg m (show (L.length : Int) ≠ 0 by omega))
            have hj : j < L.length := by have := Int.emod_lt_of_pos m (show (0 : Int) < (L.length : Int) by omega); omega
            have hLi : (0 : Int) < (L.length : Int) := by omega
            obtain ⟨A6, c6, hv6, hcs6⟩ := row_cells HVa.out.row
            injection hv6 with hv6 hv6b hv6c
            subst hv6 hv6c
            obtain ⟨g6, rfl, hcj⟩ := hcs6 j hj
            have hji : (j : Int) < (L.length : Int) := by omega
            clear hcs6
            generalize hat : L.getD j 0 = at_ at *
            clear hat
            go_wp2_with fail
            refine (Free_both HSa.out HQ.out (at_ : Int)).mono ?_
            rintro e w3 ⟨c, A', bs', R', kf, rfl, S3', Q', hF, href⟩
            have HS3 := Lib.hid S3'
            have HQ3 := Lib.hid Q'
            have HV3 := Lib.hid (HVa.out.fr hF HLT.out.1)
            clear S3' Q' hF
            go_wp2_with fail
            refine (turnbuckleref03_Free.calls kf (fun k => B ≤ k ∧ some k ≠ (Value.slice (some ⟨g6, 0, none⟩) L.length c1).ownBlock) A4 c4 R (at_ : Int) R' c _ (HV3.out.v) href).mono ?_
            rintro e w4 ⟨v4, rfl, hV4, hB4⟩
            have HS4 := Lib.hid (HS3.out.then_ hB4)
            have HV4 := Lib.hid (HV3.out.ref hV4 hB4)
            clear hV4 hB4
            go_wp2_with fail
            go_meet
            exact ⟨A', bs', L, R', by omega, HS4.out, HQ3.out, HV4.out⟩
          · have h2 : (K == 1) = false ∨ (K = 1 ∧ m < 0) ∨ (K = 1 ∧ 0 ≤ m ∧ (L.length : Int) ≤ 0) := by
              by_cases h3 : K = 1
              · by_cases h4 : m < 0
                · exact .inr (.inl ⟨h3, h4⟩)
                · exact .inr (.inr ⟨h3, by omega, Int.not_lt.1 (fun h5 => h1 ⟨h3, by omega, Int.ofNat_lt.1 h5⟩)⟩)
              · exact .inl (beq_eq_false_iff_ne.2 h3)
            clear h1
            rcases h2 with h2 | ⟨rfl, h2⟩ | ⟨rfl, h2, h3⟩
            all_goals
              go_wp2_with fail
              refine (Free_both HSa.out HQ.out m).mono ?_
              rintro e w3 ⟨c, A', bs', R', kf, rfl, S3', Q', hF, href⟩
              have HS3 := Lib.hid S3'
              have HQ3 := Lib.hid Q'
              have HV3 := Lib.hid (HVa.out.fr hF HLT.out.1)
              clear S3' Q' hF
              go_wp2_with fail
              refine (turnbuckleref03_Free.calls kf (fun k => B ≤ k ∧ some k ≠ (Value.slice A1 L.length c1).ownBlock) A4 c4 R m R' c _ (HV3.out.v) href).mono ?_
              rintro e w4 ⟨v4, rfl, hV4, hB4⟩
              have HS4 := Lib.hid (HS3.out.then_ hB4)
              have HV4 := Lib.hid (HV3.out.ref hV4 hB4)
              clear hV4 hB4
              go_wp2_with fail
              go_meet
              exact ⟨A', bs', L, R', by omega, HS4.out, HQ3.out, HV4.out⟩
      case rest =>
        obtain ⟨A', bs', L', R', hL', hS', hQ', hV'⟩ := hcut
        have HS5 := Lib.hid hS'
        have HQ5 := Lib.hid hQ'
        have HV5 := Lib.hid hV'
        clear hS' hQ' hV' HS HQ HV HSa HVa HXa
        obtain ⟨A5, c5, hv5⟩ := Kd.V_slice HV5.out.v
        subst hv5
        have hr5 := Kd.V_reads' HV5.out.v
        obtain ⟨ku, hku⟩ := Used_ref HQ5.out HS5.out.wf
        obtain ⟨kp, hkp⟩ := Pages_ref HQ5.out HS5.out.wf
        go_wp2_with fail
        refine (Used_st HS5.out).mono ?_
        rintro e w6 ⟨rfl, rfl⟩
        go_wp2_with fail
        refine (turnbuckleref03_Used.calls ku A5 c5 R' _ _ hr5.2.2 hr5.2.1 hku).mono ?_
        rintro e w6 ⟨rfl, hD6⟩
        have HS6 := Lib.hid (HS5.out.then_ hD6.below)
        have HV6 := Lib.hid (HV5.out.below hD6.below)
        clear hD6 hr5
        go_wp2_with fail
        refine (Pages_st HS6.out).mono ?_
        rintro e w7 ⟨rfl, hB7⟩
        have HS7 := Lib.hid (HS6.out.then_ hB7)
        have HV7 := Lib.hid (HV6.out.below hB7)
        have hr7 := Kd.V_reads' HV7.out.v
        clear hB7
        go_wp2_with fail
        refine (turnbuckleref03_Pages.calls kp A5 c5 R' _ _ hr7.2.2 hr7.2.1 hkp).mono ?_
        rintro e w8 ⟨rfl, hD8⟩
        have HS8 := Lib.hid (HS7.out.then_ hD8.below)
        have HV8 := Lib.hid (HV7.out.below hD8.below)
        clear hD8 hr7
        go_wp2
        go_roundg (150 - (k + 1))
        case measure => omega
        case rel => exact ⟨k + 1, A', bs', L', R', by omega, rfl, by go_num, hL', HS8.out, HQ5.out, HV8.out⟩
    · have hno : ((len : Int) ≤ (k : Int)) ∨ ((k : Int) < (len : Int)) ∧ k = 150 := by omega
      clear hlt
      obtain ⟨A4, c4, hv4⟩ := Kd.V_slice HV.out.v
      subst hv4
      obtain ⟨A1, c1, hv1, _⟩ := row_cells HV.out.row
      subst hv1
      rcases hno with hno | ⟨hno, rfl⟩
      all_goals
        go_wp2_with fail
        go_loopw [26] (fun i wx => ∃ q : Nat, q ≤ L.length ∧ i = .int .i64 (q : Int) ∧ Below wr.heap.size wr wx) (fun i _ => L.length - (intOf i).toNat)
        case atStart => exact ⟨0, by omega, rfl, Below.refl _ _⟩
        case round =>
          obtain ⟨q, hq, rfl, hBq⟩ := hrel
          have HBq := Lib.hid hBq
          have HSq := Lib.hid (HS.out.then_ hBq)
          have HVq := Lib.hid (HV.out.below hBq)
          clear hBq
          by_cases hqL : q < L.length
          · obtain ⟨A3, c3, e3, h3⟩ := row_cells HVq.out.row
            injection e3 with e31 e32 e33
            subst e31 e33
            obtain ⟨g6, rfl, hc⟩ := h3 q hqL
            have hgl := World.block_lt_of_cell? wr ⟨g6, q, none⟩ hc
            have hqi : (q : Int) < (L.length : Int) := by omega
            clear h3
            generalize hat : L.getD q 0 = at_ at *
            clear hat
            go_wp2_with fail
            refine (Block_both HSq.out HQ.out (at_ : Int)).mono ?_
            rintro e w5 ⟨c, b, kf, rfl, hB5, href⟩
            have HV5 := Lib.hid (HVq.out.below hB5)
            have HB5 := Lib.hid (below_step HBq.out hB5)
            have hc5 := (hB5.cell (p := ⟨g6, q, none⟩) hgl).trans hc
            have hr5 := Kd.V_reads' HV5.out.v
            clear hB5 hc
            go_wp2_with fail
            refine (turnbuckleref03_Block.calls kf A4 c4 R (at_ : Int) c b _ hr5.2.2 hr5.2.1 href).mono ?_
            rintro e w6 ⟨rfl, hD6⟩
            have HB6 := Lib.hid (below_step HB5.out hD6.below)
            clear hD6 hr5 href hc5
            cases b
            all_goals
              go_wp2
              go_roundw
              case rel => exact ⟨q + 1, by omega, by go_num, HB6.out⟩
              case measure => simp [intOf]; omega
          · obtain rfl : q = L.length := by omega
            clear hqL hq
            go_wp2_with fail
            refine (Block_both HSq.out HQ.out place).mono ?_
            rintro e w5 ⟨c, b, kf, rfl, hB5, href⟩
            have HV5 := Lib.hid (HVq.out.below hB5)
            have HS5 := Lib.hid (HSq.out.then_ hB5)
            have hr5 := Kd.V_reads' HV5.out.v
            clear hB5
            go_wp2_with fail
            refine (turnbuckleref03_Block.calls kf A4 c4 R place c b _ hr5.2.2 hr5.2.1 href).mono ?_
            rintro e w6 ⟨rfl, hD6⟩
            have HS6 := Lib.hid (HS5.out.then_ hD6.below)
            clear hD6 hr5 href
            cases b
            all_goals
              go_wp2
              go_ret
              exact ⟨rfl, HS6.out.kept⟩

theorem SlabPlays_calls (n : Int) (A : Option Addr) (len cap : Nat) (fk fn : Nat → Int) (place : Int) (w : World) (T : Tb w) (hlen : len ≤ maxLen) (c0 : ColI w A len 2 0 .i64 fk) (c1 : ColI w A len 2 1 .i64 fn) :
    Calls Tryd.prog 8 #[.int .i64 n, .slice A len cap, .int .i64 place] w fun e w' => e = .returned (.bool true) ∧ Go.Proofs.YtbngmkopgoelbaaDoor.Kept w w' := by
  by_cases h : n < 1 ∨ 128 < n
  · exact plays_bad n A len cap place w T h
  · obtain ⟨N, rfl⟩ := Int.eq_ofNat_of_zero_le (show 0 ≤ n by omega)
    exact plays_ok N A len cap fk fn place w T (by omega) (by omega) (by unfold maxLen at hlen; omega) ⟨c0, c1⟩
end Go.Proofs.YtbngmkopgoelbaaDoor.Ref
