/- Lemmas of the claim TreePlays. -/
import Derived.Test.YthkppnkhiimaeaaTr4
/- The tree's functions (layer 11): Add. -/
set_option linter.unusedVariables false
set_option linter.unusedSimpArgs false
namespace Go.Proofs.Ythkppnkhiimaeaa
open Go.RowKit
def descB (bs : List Int) (delta key : Int) : Nat → Int → Int → Int → Option (Int × Int)
 | 0, _, _, _ => none
 | F + 1, n, q, s => if n = 0 then some (q, s) else if key < ldA bs (n + delta) 8 then descB bs delta key F (chB bs n 0) n 0 else descB bs delta key F (chB bs n 1) n 1
def freshB (bs : List Int) (r n : Int) : List Int := paintB (st (fillA bs n 20 0) (n + 12) r) n true
def attB (bs : List Int) (r n q s : Int) : List Int := if q = 0 then st (freshB bs r n) r n else joinB (freshB bs r n) q s n
section
variable {w0 w w1 : World} {p d : Nat} {bs : List Int} {r : Int} {X : Nat}
theorem fill_lk (S : Lk w0 w p d r bs X) (at_ m c : Int) (hm : m ≤ 9223372036854775807) (hc0 : 0 ≤ c) (hc1 : c ≤ 255) :
  Calls Try.prog 37 #[.pointer (some ⟨p, 0, none⟩), .int .i64 at_, .int .i64 m, .int .u8 c] w fun e w' =>
   e = .returned (.int .i64 (rErr bs.length at_ m)) ∧ Lk w0 w' p d r (fillA bs at_ m c) X :=
 (Fill_any at_ m c w S.ar hm hc0 hc1).mono fun _ _ ⟨h, hA, hg⟩ => ⟨h, S.grown hA hg⟩
theorem load_lk (S : Lk w0 w p d r bs X) (at_ wd : Int) :
  Calls Try.prog 20 #[.pointer (some ⟨p, 0, none⟩), .int .i64 at_, .int .i64 wd] w fun e w' =>
   e = .returned (.tuple #[.int .u64 (ldA bs at_ wd), .int .i64 (nErr bs.length at_ wd)]) ∧ Lk w0 w' p d r bs X :=
 (Load_any at_ wd w S.ar).mono fun _ _ ⟨h, hB⟩ => ⟨h, S.then_ hB⟩
theorem chk_zero {n : Int} (e : chk bs r n = 0) (hl : bs.length ≤ 65536) : 1 ≤ r ∧ r ≤ (bs.length : Int) - 8 ∧ 1 ≤ n ∧ n ≤ (bs.length : Int) - 24 := by
 unfold chk at e
 split at e
 ·rename_i hh
  simp only [inn, Bool.and_eq_true, decide_eq_true_eq] at hh
  omega
 ·omega
theorem Add_ref (n dl : Int) (w : World) (h : Ar w p d bs) (h0 : chk bs r n = 0) (hd0 : -1000000 ≤ dl) (hd1 : dl ≤ 1000000) (h4 : nErr bs.length (n + dl) 8 = 0) (h8 : gt bs (n + 12) ≠ 0) :
  Calls Try.prog 12 #[.pointer (some ⟨p, 0, none⟩), .int .i64 r, .int .i64 n, .int .i64 dl] w fun e w' => e = .returned (.int .i64 8) ∧ Ar w' p d bs ∧ w.grownBy w' (some d) := by
 have HL0 := Lib.hid (Lk.new h r)
 have hl := h.len
 have hb8 : (gt bs (n + 12) != 0) = true := by rw [bne_iff_ne]; exact h8
 obtain ⟨b1, b2, b3, b4⟩ := chk_zero h0 hl
 obtain ⟨hc0, hd0⟩ := HL0.out.cell
 clear h h8
 go_enter Try.func12, Try.ntmps12
 go_wp2_with fail
 refine (check_lk HL0.out n).mono ?_
 rintro e w1 ⟨rfl, L1⟩
 rw [h0]
 obtain ⟨hc1, hd1⟩ := L1.cell
 have HL1 := Lib.hid L1
 clear L1 hc0 hd0
 go_wp2_with fail
 refine (load_lk HL1.out (n + dl) 8).mono ?_
 rintro e w2 ⟨rfl, L2⟩
 rw [h4]
 obtain ⟨hc2, hd2⟩ := L2.cell
 have HL2 := Lib.hid L2
 clear L2 hc1 hd1
 go_wp2_with fail
 refine (get_lk HL2.out (n + 12)).mono ?_
 rintro e w3 ⟨rfl, L3⟩
 obtain ⟨hc3, hd3⟩ := L3.cell
 have HL3 := Lib.hid L3
 clear L3 hc2 hd2
 go_wp2
 go_ret
 exact ⟨rfl, HL3.out.ar, HL3.out.gr⟩
set_option maxRecDepth 100000 in
set_option maxHeartbeats 2000000 in
theorem Add_ok (n dl : Int) (F1 F2 : Nat) (q s : Int) (bs' : List Int) (w : World) (h : Ar w p d bs) (h0 : chk bs r n = 0) (hd0 : -1000000 ≤ dl) (hd1 : dl ≤ 1000000) (h4 : nErr bs.length (n + dl) 8 = 0) (h8 : gt bs (n + 12) = 0)
  (hF1 : descB bs dl (ldA bs (n + dl) 8) F1 (gt bs r) 0 0 = some (q, s)) (hF2 : addedB r F2 (attB bs r n q s) n = some bs') :
  Calls Try.prog 12 #[.pointer (some ⟨p, 0, none⟩), .int .i64 r, .int .i64 n, .int .i64 dl] w fun e w' => e = .returned (.int .i64 0) ∧ Ar w' p d bs' ∧ w.grownBy w' (some d) := by
 have HL0 := Lib.hid (Lk.new h r)
 have hl := h.len
 obtain ⟨b1, b2, b3, b4⟩ := chk_zero h0 hl
 have HN : Hid (pl n) := Lib.hid ⟨by omega, by omega⟩
 have HR : Hid (pl r) := Lib.hid ⟨by omega, by omega⟩
 obtain ⟨key, hkey⟩ : ∃ k, ldA bs (n + dl) 8 = k := ⟨_, rfl⟩
 rw [hkey] at hF1
 have HF1 := Lib.hid hF1
 have HF2 := Lib.hid hF2
 have HT : Hid (pl (gt bs r)) := Lib.hid (HL0.out.rng _)
 obtain ⟨hc0, hd0⟩ := HL0.out.cell
 clear h hF1 hF2
 go_enter Try.func12, Try.ntmps12
 go_wp2_with fail
 refine (check_lk HL0.out n).mono ?_
 rintro e w1 ⟨rfl, L1⟩
 rw [h0]
 obtain ⟨hc1, hd1'⟩ := L1.cell
 have HL1 := Lib.hid L1
 clear L1 hc0 hd0
 go_wp2_with fail
 refine (load_lk HL1.out (n + dl) 8).mono ?_
 rintro e w2 ⟨rfl, L2⟩
 rw [h4, hkey]
 obtain ⟨hc2, hd2⟩ := L2.cell
 have HL2 := Lib.hid L2
 clear L2 hc1 hd1' hkey h4
 go_wp2_with fail
 refine (get_lk HL2.out (n + 12)).mono ?_
 rintro e w3 ⟨rfl, L3⟩
 rw [h8]
 obtain ⟨hc3, hd3⟩ := L3.cell
 have HL3 := Lib.hid L3
 clear L3 hc2 hd2 h8 h0
 go_wp2_with fail
 refine (top_lk HL3.out).mono ?_
 rintro e w4 ⟨rfl, L4⟩
 have HL4 := Lib.hid L4
 clear L4 hc3 hd3
 go_wp2
 go_loopg [13, 14, 15] F1 (fun gq vq vs vm wr => ∃ (m q' s' : Int), vm = .int .i64 m ∧ vq = .int .i64 q' ∧ vs = .int .i64 s' ∧ descB bs dl key gq m q' s' = some (q, s) ∧ Lk w wr p d r bs w.heap.size ∧ pl m ∧ pl q' ∧ (s' = 0 ∨ s' = 1))
 case atStart => exact ⟨_, 0, 0, rfl, rfl, rfl, HF1.out, HL4.out, HT.out, ⟨by omega, by omega⟩, .inl rfl⟩
 case round =>
  clear HF1 HL4 HT HL3 HL2 HL1 HL0
  obtain ⟨m, q', s', rfl, rfl, rfl, hrec, hL, hm, hq, hs⟩ := hrel
  obtain ⟨hc5, hd5⟩ := hL.cell
  have HL5 := Lib.hid hL
  have HM := Lib.hid hm
  obtain ⟨hm0, hm1⟩ := hm
  obtain ⟨F, rfl⟩ : ∃ F, gk = F + 1 := by
   cases gk with
   | zero => unfold descB at hrec; cases hrec
   | succ F => exact ⟨F, rfl⟩
  unfold descB at hrec
  clear hL
  by_cases hz : m = 0
  ·rw [if_pos hz] at hrec
   simp only [Option.some.injEq, Prod.mk.injEq] at hrec
   obtain ⟨e1, e2⟩ := hrec
   subst e1 e2
   subst hz
   have HQ := Lib.hid hq
   have HS := Lib.hid hs
   clear hq hs HM hm0 hm1
   by_cases hq0 : q' = 0
   ·subst hq0
    go_wp2_with fail
    refine (fill_lk HL5.out n 20 0 (by omega) (by omega) (by omega)).mono ?_
    rintro e w6 ⟨rfl, L6⟩
    obtain ⟨hc6, hd6⟩ := L6.cell
    have HL6 := Lib.hid L6
    clear L6 hc5 hd5
    go_wp2_with fail
    refine (set_lk HL6.out (n + 12) r HR.out).mono ?_
    rintro e w7 ⟨rfl, L7⟩
    obtain ⟨hc7, hd7⟩ := L7.cell
    have HL7 := Lib.hid L7
    clear L7 hc6 hd6
    go_wp2_with fail
    refine (paint_lk HL7.out n true HN.out).mono ?_
    rintro e w8 ⟨rfl, L8⟩
    obtain ⟨hc8, hd8⟩ := L8.cell
    have HL8 := Lib.hid L8
    clear L8 hc7 hd7
    go_wp2_with fail
    refine (set_lk HL8.out r n HN.out).mono ?_
    rintro e w9 ⟨rfl, L9⟩
    obtain ⟨hc9, hd9⟩ := L9.cell
    have HL9 := Lib.hid L9
    clear L9 hc8 hd8
    have HL9b : Hid (Lk w w9 p d r (attB bs r n 0 s') w.heap.size) := Lib.hid (by unfold attB; rw [if_pos rfl]; exact HL9.out)
    clear HL9
    have HL9 := HL9b
    clear HL9b
    go_wp2_with fail
    refine (added_any F2 bs' n _ HL9.out.ar HN.out HF2.out).mono ?_
    rintro e w10 ⟨rfl, hA, hg⟩
    have HL10 := Lib.hid (HL9.out.grown hA hg)
    clear hA hg hc9 hd9
    go_wp2
    go_ret
    exact ⟨rfl, HL10.out.ar, HL10.out.gr⟩
   ·have hqb : (q' == 0) = false := beq_eq_false_iff_ne.2 hq0
    go_wp2_with fail
    refine (fill_lk HL5.out n 20 0 (by omega) (by omega) (by omega)).mono ?_
    rintro e w6 ⟨rfl, L6⟩
    obtain ⟨hc6, hd6⟩ := L6.cell
    have HL6 := Lib.hid L6
    clear L6 hc5 hd5
    go_wp2_with fail
    refine (set_lk HL6.out (n + 12) r HR.out).mono ?_
    rintro e w7 ⟨rfl, L7⟩
    obtain ⟨hc7, hd7⟩ := L7.cell
    have HL7 := Lib.hid L7
    clear L7 hc6 hd6
    go_wp2_with fail
    refine (paint_lk HL7.out n true HN.out).mono ?_
    rintro e w8 ⟨rfl, L8⟩
    obtain ⟨hc8, hd8⟩ := L8.cell
    have HL8 := Lib.hid L8
    clear L8 hc7 hd7
    go_wp2_with fail
    refine (join_lk HL8.out q' s' n HQ.out HS.out HN.out).mono ?_
    rintro e w9 ⟨rfl, L9⟩
    obtain ⟨hc9, hd9⟩ := L9.cell
    have HL9 := Lib.hid L9
    clear L9 hc8 hd8
    have HL9b : Hid (Lk w w9 p d r (attB bs r n q' s') w.heap.size) := Lib.hid (by unfold attB; rw [if_neg hq0]; exact HL9.out)
    clear HL9
    have HL9 := HL9b
    clear HL9b
    go_wp2_with fail
    refine (added_any F2 bs' n _ HL9.out.ar HN.out HF2.out).mono ?_
    rintro e w10 ⟨rfl, hA, hg⟩
    have HL10 := Lib.hid (HL9.out.grown hA hg)
    clear hA hg hc9 hd9
    go_wp2
    go_ret
    exact ⟨rfl, HL10.out.ar, HL10.out.gr⟩
  ·rw [if_neg hz] at hrec
   have hzb : (m != 0) = true := by rw [bne_iff_ne]; exact hz
   obtain ⟨k2, hk2⟩ : ∃ k, ldA bs (m + dl) 8 = k := ⟨_, rfl⟩
   rw [hk2] at hrec
   have HKK := Lib.hid hk2
   clear hk2 hz hq hs
   by_cases hlt : key < k2
   ·rw [if_pos hlt] at hrec
    have hdl : decide (key < k2) = true := decide_eq_true hlt
    have HREC := Lib.hid hrec
    clear hrec hlt
    go_wp2_with fail
    refine (load_lk HL5.out (m + dl) 8).mono ?_
    rintro e w6 ⟨rfl, L6⟩
    rw [HKK.out]
    obtain ⟨hc6, hd6⟩ := L6.cell
    have HL6 := Lib.hid L6
    clear L6 hc5 hd5
    go_wp2_with fail
    refine (child_lk HL6.out m 0 HM.out (.inl rfl)).mono ?_
    rintro e w7 ⟨rfl, L7⟩
    obtain ⟨hc7, hd7⟩ := L7.cell
    have HL7 := Lib.hid L7
    clear L7 hc6 hd6
    have HM2 : Hid (pl (chB bs m 0)) := Lib.hid (HL7.out.rng _)
    go_wp2
    go_roundg F
    case measure => omega
    case rel => exact ⟨_, m, 0, rfl, rfl, rfl, HREC.out, HL7.out, HM2.out, HM.out, .inl rfl⟩
   ·rw [if_neg hlt] at hrec
    have hdl : decide (key < k2) = false := decide_eq_false hlt
    have HREC := Lib.hid hrec
    clear hrec hlt
    go_wp2_with fail
    refine (load_lk HL5.out (m + dl) 8).mono ?_
    rintro e w6 ⟨rfl, L6⟩
    rw [HKK.out]
    obtain ⟨hc6, hd6⟩ := L6.cell
    have HL6 := Lib.hid L6
    clear L6 hc5 hd5
    go_wp2_with fail
    refine (child_lk HL6.out m 1 HM.out (.inr rfl)).mono ?_
    rintro e w7 ⟨rfl, L7⟩
    obtain ⟨hc7, hd7⟩ := L7.cell
    have HL7 := Lib.hid L7
    clear L7 hc6 hd6
    have HM2 : Hid (pl (chB bs m 1)) := Lib.hid (HL7.out.rng _)
    go_wp2
    go_roundg F
    case measure => omega
    case rel => exact ⟨_, m, 1, rfl, rfl, rfl, HREC.out, HL7.out, HM2.out, HM.out, .inr rfl⟩
end
end Go.Proofs.Ythkppnkhiimaeaa
