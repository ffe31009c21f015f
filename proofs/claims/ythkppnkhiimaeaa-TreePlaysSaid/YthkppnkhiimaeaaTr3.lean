/- Lemmas of the claim TreePlays. -/
import Derived.Test.YthkppnkhiimaeaaTr2
/- The tree's links (layer 11): colors right behind an addition; the leftmost leaf. -/
set_option linter.unusedVariables false
set_option linter.unusedSimpArgs false
namespace Go.Proofs.Ythkppnkhiimaeaa
open Go.RowKit
def addedB (r : Int) : Nat → List Int → Int → Option (List Int)
 | 0, _, _ => none
 | F + 1, bs, x =>
  if redB bs (upB bs x) = true then
   (if redB bs (chB bs (upB bs (upB bs x)) (1 - sideB bs (upB bs (upB bs x)) (upB bs x))) = true then
    addedB r F (paintB (paintB (paintB bs (upB bs x) false) (chB bs (upB bs (upB bs x)) (1 - sideB bs (upB bs (upB bs x)) (upB bs x))) false) (upB bs (upB bs x)) true) (upB bs (upB bs x))
   else if sideB bs (upB bs x) x = sideB bs (upB bs (upB bs x)) (upB bs x) then
    addedB r F (turnB (paintB (paintB bs (upB bs x) false) (upB bs (upB bs x)) true) r (upB bs (upB bs x)) (1 - sideB bs (upB bs (upB bs x)) (upB bs x))) x
   else
    addedB r F (turnB (paintB (paintB (turnB bs r (upB bs x) (sideB bs (upB bs (upB bs x)) (upB bs x))) x false) (upB bs (upB bs x)) true) r (upB bs (upB bs x)) (1 - sideB bs (upB bs (upB bs x)) (upB bs x))) (upB bs x))
  else some (paintB bs (gt bs r) false)
section
variable {w0 w w1 : World} {p d : Nat} {bs : List Int} {r : Int} {X : Nat}
set_option maxHeartbeats 2000000 in
theorem added_any (F0 : Nat) (bs' : List Int) (x0 : Int) (w : World) (h : Ar w p d bs) (hx : pl x0) (hF : addedB r F0 bs x0 = some bs') :
  Calls Try.prog 41 #[.agg #[.pointer (some ⟨p, 0, none⟩), .int .i64 r], .int .i64 x0] w fun e w' =>
   e = .returned (.tuple #[]) ∧ Ar w' p d bs' ∧ w.grownBy w' (some d) := by
 have LS := Lib.hid (Lk.new h r)
 have HF := Lib.hid hF
 have HX0 := Lib.hid hx
 clear h hx hF
 go_enter Try.func41, Try.ntmps41
 go_wp2
 go_loopg [1] F0 (fun gq v wr => ∃ (bsr : List Int) (x : Int), v = .int .i64 x ∧ addedB r gq bsr x = some bs' ∧ Lk w wr p d r bsr w.heap.size ∧ pl x)
 case atStart => exact ⟨bs, x0, rfl, HF.out, LS.out, HX0.out⟩
 case round =>
  clear HF HX0 LS
  obtain ⟨bsr, x, rfl, hrec, hL, hx⟩ := hrel
  obtain ⟨hc0, hd0⟩ := hL.cell
  have HL0 := Lib.hid hL
  have HX := Lib.hid hx
  have HT : Hid (pl (gt bsr r)) := Lib.hid (hL.rng _)
  have HQ : Hid (pl (upB bsr x)) := Lib.hid (hL.rng _)
  have HG : Hid (pl (upB bsr (upB bsr x))) := Lib.hid (hL.rng _)
  obtain ⟨F, rfl⟩ : ∃ F, gk = F + 1 := by
   cases gk with
   | zero => unfold addedB at hrec; cases hrec
   | succ F => exact ⟨F, rfl⟩
  unfold addedB at hrec
  obtain ⟨q, hq⟩ : ∃ q, upB bsr x = q := ⟨_, rfl⟩
  rw [hq] at hrec HQ HG
  have HQQ := Lib.hid hq
  clear hq hL hx
  cases hr : redB bsr q
  ·have HR := Lib.hid hr
   rw [hr] at hrec
   simp only [if_false, Bool.false_eq_true, Option.some.injEq] at hrec
   have HRES := Lib.hid hrec
   clear hr hrec
   have HD0 := Lib.hid HL0.out.drew
   go_wp2_with fail
   go_region_held3 (fun w' => w'.cell? ⟨w.heap.size, 0, none⟩ = some (.pointer (some ⟨p, 0, none⟩)) ∧ w'.cell? ⟨w.heap.size, 1, none⟩ = some (.int .i64 r)) (first | exact HD0.out.cell | exact HL1.out.cell | exact HL2.out.cell) (first | (go_simp; go_at_call 43; refine (up_lk HD0.out x HX.out).mono ?_; rintro e w1 ⟨rfl, L1⟩; rw [HQQ.out]; have HL1 := Lib.hid L1; clear L1) | (go_simp; go_at_call 44; refine (red_lk HL1.out q HQ.out).mono ?_; rintro e w2 ⟨rfl, L2⟩; rw [HR.out]; have HL2 := Lib.hid L2; clear L2))
   obtain ⟨hc2, hd2⟩ := HL2.out.cell
   clear HD0 hc0 hd0
   have HD2 := Lib.hid HL2.out.drew
   go_wp2_with fail
   go_region_held3 (fun w' => w'.cell? ⟨w.heap.size, 0, none⟩ = some (.pointer (some ⟨p, 0, none⟩)) ∧ w'.cell? ⟨w.heap.size, 1, none⟩ = some (.int .i64 r)) (first | exact HD2.out.cell | exact HL3.out.cell | exact HL4.out.cell) (first | (go_simp; go_at_call 35; refine (top_lk HD2.out).mono ?_; rintro e w3 ⟨rfl, L3⟩; have HL3 := Lib.hid L3; clear L3) | (go_simp; go_at_call 39; refine (paint_lk HL3.out (gt bsr r) false HT.out).mono ?_; rintro e w4 ⟨rfl, L4⟩; have HL4 := Lib.hid L4; clear L4))
   obtain ⟨hc4, hd4⟩ := HL4.out.cell
   clear HD2 hc2 hd2
   go_wp2
   go_end0
   exact ⟨rfl, HRES.out ▸ HL4.out.ar, HL4.out.gr⟩
  ·have HR := Lib.hid hr
   rw [hr] at hrec
   rw [if_pos rfl] at hrec
   obtain ⟨g, hg⟩ : ∃ g, upB bsr q = g := ⟨_, rfl⟩
   rw [hg] at hrec HG
   have HGG := Lib.hid hg
   obtain ⟨s, hs⟩ : ∃ s, sideB bsr g q = s := ⟨_, rfl⟩
   have hs01 : s = 0 ∨ s = 1 := hs ▸ sideB_01 bsr g q
   rw [hs] at hrec
   have HSS := Lib.hid hs
   have HS01 := Lib.hid hs01
   have HS1 := Lib.hid (one_sub hs01)
   have hu : pl (chB bsr g (1 - s)) := HL0.out.rng _
   obtain ⟨u, huu⟩ : ∃ u, chB bsr g (1 - s) = u := ⟨_, rfl⟩
   rw [huu] at hrec hu
   have HU := Lib.hid hu
   have HUU := Lib.hid huu
   have hsa : 0 ≤ s := by omega
   have hsb : s ≤ 1 := by omega
   clear hr hg hs hu huu hs01
   cases hru : redB bsr u
   ·have HRU := Lib.hid hru
    rw [hru] at hrec
    simp only [if_false, Bool.false_eq_true] at hrec
    clear hru
    obtain ⟨t, ht⟩ : ∃ t, sideB bsr q x = t := ⟨_, rfl⟩
    rw [ht] at hrec
    have HTT := Lib.hid ht
    clear ht
    by_cases hts : t = s
    ·rw [if_pos hts] at hrec
     have hb : (t != s) = false := by rw [bne_eq_false_iff_eq]; exact hts
     have HREC := Lib.hid hrec
     clear hrec hts
     have HD0 := Lib.hid HL0.out.drew
     go_wp2_with fail
     go_region_held3 (fun w' => w'.cell? ⟨w.heap.size, 0, none⟩ = some (.pointer (some ⟨p, 0, none⟩)) ∧ w'.cell? ⟨w.heap.size, 1, none⟩ = some (.int .i64 r)) (first | exact HD0.out.cell | exact HL1.out.cell | exact HL2.out.cell) (first | (go_simp; go_at_call 43; refine (up_lk HD0.out x HX.out).mono ?_; rintro e w1 ⟨rfl, L1⟩; rw [HQQ.out]; have HL1 := Lib.hid L1; clear L1) | (go_simp; go_at_call 44; refine (red_lk HL1.out q HQ.out).mono ?_; rintro e w2 ⟨rfl, L2⟩; rw [HR.out]; have HL2 := Lib.hid L2; clear L2))
     obtain ⟨hc2, hd2⟩ := HL2.out.cell
     clear HD0 hc0 hd0
     go_wp2_with fail
     refine (up_lk HL2.out x HX.out).mono ?_
     rintro e w3 ⟨rfl, L3⟩
     rw [HQQ.out]
     obtain ⟨hc3, hd3⟩ := L3.cell
     have HL3 := Lib.hid L3
     clear L3 hc2 hd2
     go_wp2_with fail
     refine (up_lk HL3.out q HQ.out).mono ?_
     rintro e w4 ⟨rfl, L4⟩
     rw [HGG.out]
     obtain ⟨hc4, hd4⟩ := L4.cell
     have HL4 := Lib.hid L4
     clear L4 hc3 hd3
     go_wp2_with fail
     refine (side_lk HL4.out g q HG.out).mono ?_
     rintro e w5 ⟨rfl, L5⟩
     rw [HSS.out]
     obtain ⟨hc5, hd5⟩ := L5.cell
     have HL5 := Lib.hid L5
     clear L5 hc4 hd4
     go_wp2_with fail
     refine (child_lk HL5.out g (1 - s) HG.out HS1.out).mono ?_
     rintro e w6 ⟨rfl, L6⟩
     rw [HUU.out]
     obtain ⟨hc6, hd6⟩ := L6.cell
     have HL6 := Lib.hid L6
     clear L6 hc5 hd5
     go_wp2_with fail
     refine (red_lk HL6.out u HU.out).mono ?_
     rintro e w7 ⟨rfl, L7⟩
     rw [HRU.out]
     obtain ⟨hc7, hd7⟩ := L7.cell
     have HL7 := Lib.hid L7
     clear L7 hc6 hd6
     go_wp2_with fail
     refine (side_lk HL7.out q x HQ.out).mono ?_
     rintro e w8 ⟨rfl, L8⟩
     rw [HTT.out]
     obtain ⟨hc8, hd8⟩ := L8.cell
     have HL8 := Lib.hid L8
     clear L8 hc7 hd7
     go_wp2_with fail
     refine (paint_lk HL8.out q false HQ.out).mono ?_
     rintro e w9 ⟨rfl, L9⟩
     obtain ⟨hc9, hd9⟩ := L9.cell
     have HL9 := Lib.hid L9
     clear L9 hc8 hd8
     go_wp2_with fail
     refine (paint_lk HL9.out g true HG.out).mono ?_
     rintro e w10 ⟨rfl, L10⟩
     obtain ⟨hc10, hd10⟩ := L10.cell
     have HL10 := Lib.hid L10
     clear L10 hc9 hd9
     go_wp2_with fail
     refine (turn_lk HL10.out g (1 - s) HG.out HS1.out).mono ?_
     rintro e w11 ⟨rfl, L11⟩
     obtain ⟨hc11, hd11⟩ := L11.cell
     have HL11 := Lib.hid L11
     clear L11 hc10 hd10
     go_wp2
     go_roundg F
     case measure => omega
     case rel => exact ⟨_, x, rfl, HREC.out, HL11.out, HX.out⟩
    ·rw [if_neg hts] at hrec
     have hb : (t != s) = true := by rw [bne_iff_ne]; exact hts
     have HREC := Lib.hid hrec
     clear hrec hts
     have HD0 := Lib.hid HL0.out.drew
     go_wp2_with fail
     go_region_held3 (fun w' => w'.cell? ⟨w.heap.size, 0, none⟩ = some (.pointer (some ⟨p, 0, none⟩)) ∧ w'.cell? ⟨w.heap.size, 1, none⟩ = some (.int .i64 r)) (first | exact HD0.out.cell | exact HL1.out.cell | exact HL2.out.cell) (first | (go_simp; go_at_call 43; refine (up_lk HD0.out x HX.out).mono ?_; rintro e w1 ⟨rfl, L1⟩; rw [HQQ.out]; have HL1 := Lib.hid L1; clear L1) | (go_simp; go_at_call 44; refine (red_lk HL1.out q HQ.out).mono ?_; rintro e w2 ⟨rfl, L2⟩; rw [HR.out]; have HL2 := Lib.hid L2; clear L2))
     obtain ⟨hc2, hd2⟩ := HL2.out.cell
     clear HD0 hc0 hd0
     go_wp2_with fail
     refine (up_lk HL2.out x HX.out).mono ?_
     rintro e w3 ⟨rfl, L3⟩
     rw [HQQ.out]
     obtain ⟨hc3, hd3⟩ := L3.cell
     have HL3 := Lib.hid L3
     clear L3 hc2 hd2
     go_wp2_with fail
     refine (up_lk HL3.out q HQ.out).mono ?_
     rintro e w4 ⟨rfl, L4⟩
     rw [HGG.out]
     obtain ⟨hc4, hd4⟩ := L4.cell
     have HL4 := Lib.hid L4
     clear L4 hc3 hd3
     go_wp2_with fail
     refine (side_lk HL4.out g q HG.out).mono ?_
     rintro e w5 ⟨rfl, L5⟩
     rw [HSS.out]
     obtain ⟨hc5, hd5⟩ := L5.cell
     have HL5 := Lib.hid L5
     clear L5 hc4 hd4
     go_wp2_with fail
     refine (child_lk HL5.out g (1 - s) HG.out HS1.out).mono ?_
     rintro e w6 ⟨rfl, L6⟩
     rw [HUU.out]
     obtain ⟨hc6, hd6⟩ := L6.cell
     have HL6 := Lib.hid L6
     clear L6 hc5 hd5
     go_wp2_with fail
     refine (red_lk HL6.out u HU.out).mono ?_
     rintro e w7 ⟨rfl, L7⟩
     rw [HRU.out]
     obtain ⟨hc7, hd7⟩ := L7.cell
     have HL7 := Lib.hid L7
     clear L7 hc6 hd6
     go_wp2_with fail
     refine (side_lk HL7.out q x HQ.out).mono ?_
     rintro e w8 ⟨rfl, L8⟩
     rw [HTT.out]
     obtain ⟨hc8, hd8⟩ := L8.cell
     have HL8 := Lib.hid L8
     clear L8 hc7 hd7
     go_wp2_with fail
     refine (turn_lk HL8.out q s HQ.out HS01.out).mono ?_
     rintro e w9 ⟨rfl, L9⟩
     obtain ⟨hc9, hd9⟩ := L9.cell
     have HL9 := Lib.hid L9
     clear L9 hc8 hd8
     go_wp2_with fail
     refine (paint_lk HL9.out x false HX.out).mono ?_
     rintro e w10 ⟨rfl, L10⟩
     obtain ⟨hc10, hd10⟩ := L10.cell
     have HL10 := Lib.hid L10
     clear L10 hc9 hd9
     go_wp2_with fail
     refine (paint_lk HL10.out g true HG.out).mono ?_
     rintro e w11 ⟨rfl, L11⟩
     obtain ⟨hc11, hd11⟩ := L11.cell
     have HL11 := Lib.hid L11
     clear L11 hc10 hd10
     go_wp2_with fail
     refine (turn_lk HL11.out g (1 - s) HG.out HS1.out).mono ?_
     rintro e w12 ⟨rfl, L12⟩
     obtain ⟨hc12, hd12⟩ := L12.cell
     have HL12 := Lib.hid L12
     clear L12 hc11 hd11
     go_wp2
     go_roundg F
     case measure => omega
     case rel => exact ⟨_, q, rfl, HREC.out, HL12.out, HQ.out⟩
   ·have HRU := Lib.hid hru
    rw [hru] at hrec
    rw [if_pos rfl] at hrec
    have HREC := Lib.hid hrec
    clear hru hrec
    have HD0 := Lib.hid HL0.out.drew
    go_wp2_with fail
    go_region_held3 (fun w' => w'.cell? ⟨w.heap.size, 0, none⟩ = some (.pointer (some ⟨p, 0, none⟩)) ∧ w'.cell? ⟨w.heap.size, 1, none⟩ = some (.int .i64 r)) (first | exact HD0.out.cell | exact HL1.out.cell | exact HL2.out.cell) (first | (go_simp; go_at_call 43; refine (up_lk HD0.out x HX.out).mono ?_; rintro e w1 ⟨rfl, L1⟩; rw [HQQ.out]; have HL1 := Lib.hid L1; clear L1) | (go_simp; go_at_call 44; refine (red_lk HL1.out q HQ.out).mono ?_; rintro e w2 ⟨rfl, L2⟩; rw [HR.out]; have HL2 := Lib.hid L2; clear L2))
    obtain ⟨hc2, hd2⟩ := HL2.out.cell
    clear HD0 hc0 hd0
    go_wp2_with fail
    refine (up_lk HL2.out x HX.out).mono ?_
    rintro e w3 ⟨rfl, L3⟩
    rw [HQQ.out]
    obtain ⟨hc3, hd3⟩ := L3.cell
    have HL3 := Lib.hid L3
    clear L3 hc2 hd2
    go_wp2_with fail
    refine (up_lk HL3.out q HQ.out).mono ?_
    rintro e w4 ⟨rfl, L4⟩
    rw [HGG.out]
    obtain ⟨hc4, hd4⟩ := L4.cell
    have HL4 := Lib.hid L4
    clear L4 hc3 hd3
    go_wp2_with fail
    refine (side_lk HL4.out g q HG.out).mono ?_
    rintro e w5 ⟨rfl, L5⟩
    rw [HSS.out]
    obtain ⟨hc5, hd5⟩ := L5.cell
    have HL5 := Lib.hid L5
    clear L5 hc4 hd4
    go_wp2_with fail
    refine (child_lk HL5.out g (1 - s) HG.out HS1.out).mono ?_
    rintro e w6 ⟨rfl, L6⟩
    rw [HUU.out]
    obtain ⟨hc6, hd6⟩ := L6.cell
    have HL6 := Lib.hid L6
    clear L6 hc5 hd5
    go_wp2_with fail
    refine (red_lk HL6.out u HU.out).mono ?_
    rintro e w7 ⟨rfl, L7⟩
    rw [HRU.out]
    obtain ⟨hc7, hd7⟩ := L7.cell
    have HL7 := Lib.hid L7
    clear L7 hc6 hd6
    go_wp2_with fail
    refine (paint_lk HL7.out q false HQ.out).mono ?_
    rintro e w8 ⟨rfl, L8⟩
    obtain ⟨hc8, hd8⟩ := L8.cell
    have HL8 := Lib.hid L8
    clear L8 hc7 hd7
    go_wp2_with fail
    refine (paint_lk HL8.out u false HU.out).mono ?_
    rintro e w9 ⟨rfl, L9⟩
    obtain ⟨hc9, hd9⟩ := L9.cell
    have HL9 := Lib.hid L9
    clear L9 hc8 hd8
    go_wp2_with fail
    refine (paint_lk HL9.out g true HG.out).mono ?_
    rintro e w10 ⟨rfl, L10⟩
    obtain ⟨hc10, hd10⟩ := L10.cell
    have HL10 := Lib.hid L10
    clear L10 hc9 hd9
    go_wp2
    go_roundg F
    case measure => omega
    case rel => exact ⟨_, g, rfl, HREC.out, HL10.out, HG.out⟩
end
end Go.Proofs.Ythkppnkhiimaeaa
