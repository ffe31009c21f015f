/- insn.Parse: the walk. -/
import Derived.Test.YtlomgbackphmmaaDoorInPa0
import Derived.RegionTactic
import Derived.ChangeAlike
import Derived.BigRegion
set_option linter.unusedVariables false
set_option linter.unusedSimpArgs false
namespace Go.Proofs.YtlomgbackphmmaaDoor
open Go.RowKit Go.Lib

set_option maxRecDepth 100000 in
set_option maxHeartbeats 4000000 in
theorem Parse_any (A : Option Addr) (cap : Nat) (l : List Int) (w : World) (hP : By w A l) (hcap : l.length ≤ cap) (hmx : l.length ≤ 140737488355000) :
    Calls Tryd.prog 17 #[.slice A l.length cap] w fun e w' => ∃ v, e = .returned (.tuple #[v, .int .i64 (prsE l)]) ∧ w'.ownsRow w.heap.size 24 5 v (prsL l).length (flat (prsL l)) ∧ Below w.heap.size w w' := by
  obtain ⟨i0, hi, hz0, hz1, hz2⟩ := info_parts insn_info
  have HP := Lib.hid hP
  have he : prsE l = if l.length % 8 ≠ 0 then 3 else if 128 < l.length / 8 then 11 else pe l 0 (l.length / 8) := rfl
  have hL : prsL l = if prsE l = 0 then (List.range (l.length / 8)).map (dec l) else [] := rfl
  clear hP
  generalize hn : l.length = n at *
  have HE := Lib.hid he
  have HL := Lib.hid hL
  clear he hL
  have HN := Lib.hid hn
  have HM := Lib.hid hmx
  clear hn hmx
  have hcases : n % 8 ≠ 0 ∨ (n % 8 = 0 ∧ 128 < n / 8) ∨ (n % 8 = 0 ∧ n / 8 ≤ 128) := by omega
  rcases hcases with h8 | ⟨h8, h128⟩ | ⟨h8, h128⟩
  · have e1 : prsE l = 3 := by rw [HE.out, if_pos h8]
    have e2 : prsL l = [] := by rw [HL.out, e1]; rfl
    rw [e1, e2]
    have q : ((n : Int) % 8 == 0) = false := beq_eq_false_iff_ne.2 (by omega)
    have q' : ((n : Int) % 8 != 0) = true := by rw [bne_iff_ne]; omega
    clear HE HL
    go_enter Tryd.func17, Tryd.ntmps17
    go_wp2
    go_ret2
    exact ⟨_, rfl, World.ownsRow_nil _ _ _ _, Below.refl _ _⟩
  · have e1 : prsE l = 11 := by rw [HE.out, if_neg (by omega), if_pos h128]
    have e2 : prsL l = [] := by rw [HL.out, e1]; rfl
    rw [e1, e2]
    have q : ((n : Int) % 8 == 0) = true := beq_iff_eq.2 (by omega)
    have q' : ((n : Int) % 8 != 0) = false := by rw [bne_eq_false_iff_eq]; omega
    have q2 : (128 : Int) < (n : Int) / 8 := by omega
    have q3 : (n : Int) / 8 ≤ 17592186044416 := by have := HM.out; omega
    clear HE HL
    go_enter Tryd.func17, Tryd.ntmps17
    go_wp2
    go_ret2
    exact ⟨_, rfl, World.ownsRow_nil _ _ _ _, Below.refl _ _⟩
  · have e1 : prsE l = pe l 0 (n / 8) := by rw [HE.out, if_neg (by omega), if_neg (by omega)]
    have E1 := Lib.hid e1
    have q : ((n : Int) % 8 == 0) = true := beq_iff_eq.2 (by omega)
    have q' : ((n : Int) % 8 != 0) = false := by rw [bne_eq_false_iff_eq]; omega
    have q2 : (n : Int) / 8 ≤ 128 := by omega
    clear HE e1
    go_enter Tryd.func17, Tryd.ntmps17
    go_wp2_with fail
    go_loopw [0, 4] (fun bv v wr => ∃ (i m : Nat) (A' : Option Addr) (c' : Nat), 8 * i + m = n ∧ m % 8 = 0 ∧ bv = .slice A' m c' ∧ m ≤ c' ∧ By w A' (l.drop (8 * i)) ∧ pe l i (m / 8) = prsE l ∧ wr.ownsRow w.heap.size 24 5 v i (flat ((List.range i).map (dec l))) ∧ Below w.heap.size w wr) (fun bv _ _ => match bv with | .slice _ m _ => m | _ => 0)
    case atStart => exact ⟨0, n, A, cap, by omega, h8, rfl, hcap, by rw [Nat.mul_zero, List.drop_zero]; exact HP.out, E1.out.symm, World.ownsRow_nil _ _ _ _, Below.refl _ _⟩
    case round =>
      obtain ⟨i, m, A', c', him, hm8, rfl, hmc, hby, hpe, hrow, hB⟩ := hrel
      obtain ⟨A4, c4, rfl⟩ := row_form hrow
      by_cases hgo : m = 0
      · subst hgo
        have e0 : prsE l = 0 := hpe.symm
        obtain rfl : i = n / 8 := by omega
        have hlen : ((List.range (n / 8)).map (dec l)).length = n / 8 := by simp
        have hrow' : wr.ownsRow w.heap.size 24 5 (.slice A4 (n / 8) c4) (prsL l).length (flat (prsL l)) := by
          rw [HL.out, e0, if_pos rfl, hlen]
          exact hrow
        have HR := Lib.hid hrow'
        have HB := Lib.hid hB
        have HE0 := Lib.hid e0
        clear hrow hrow' hB hby hpe HL E1 e0 hlen
        go_wp2
        go_ret2
        exact ⟨_, by rw [HE0.out]; rfl, HR.out, HB.out⟩
      · obtain ⟨ad, rfl, hlt, y0, y1, y2, y3, y4, y5, y6, y7, hdec, r4, r5, r6, r7, hok, b0, b1, b2, b3, bx4, bx5, bx6, bx7⟩ := (hby.below hB).eight HP.out (by rw [List.length_drop, HN.out]; omega)
        have hpe' : prsE l = if chk (dec l i) = 0 then pe l (i + 1) ((m - 8) / 8) else chk (dec l i) := by
          rw [← hpe, show m / 8 = (m - 8) / 8 + 1 from by omega, pe]
        rw [hdec] at hpe'
        have HPE := Lib.hid hpe'
        have HR := Lib.hid hrow
        have HB := Lib.hid hB
        have HBY := Lib.hid hby
        have HOK := Lib.hid hok
        have HDEC := Lib.hid hdec
        clear hpe hpe' hrow hB hby hok hdec
        have hm : 8 ≤ m := by omega
        have hm' : (8 : Int) ≤ (m : Int) := by omega
        have hm0 : (0 : Int) < (m : Int) := by omega
        have hm1 : (1 : Int) < (m : Int) := by omega
        have hm2 : (2 : Int) < (m : Int) := by omega
        have hm3 : (3 : Int) < (m : Int) := by omega
        have hm4 : (4 : Int) < (m : Int) := by omega
        have hm5 : (5 : Int) < (m : Int) := by omega
        have hm6 : (6 : Int) < (m : Int) := by omega
        have hm7 : (7 : Int) < (m : Int) := by omega
        go_wp2_with fail
        go_region
        have hS0 := Pz.start wr y0 y1 y2 y3 0
        generalize (wr.alloc (.cells #[.int .u8 y0, .int .u8 y1, .int .u8 y2, .int .u8 y3, .int .u32 0] 24)).drew = W0 at *
        have HS0 := Lib.hid hS0
        clear hS0
        go_wp2_with fail
        first | rw [show decide (0 < m) = true from decide_eq_true (by omega)] | simp only [show decide (0 < m) = true from decide_eq_true (by omega)]
        go_loopw [36] (fun kv W => (kv = .int .i64 0 ∧ Pz wr ⟨y0, y1, y2, y3, 0⟩ W) ∨ (kv = .int .i64 1 ∧ Pz wr ⟨y0, y1, y2, y3, y4⟩ W) ∨ (kv = .int .i64 2 ∧ Pz wr ⟨y0, y1, y2, y3, (y4 + 256 * y5)⟩ W) ∨ (kv = .int .i64 3 ∧ Pz wr ⟨y0, y1, y2, y3, (y4 + 256 * y5 + 65536 * y6)⟩ W) ∨ (kv = .int .i64 4 ∧ Pz wr ⟨y0, y1, y2, y3, (y4 + 256 * y5 + 65536 * y6 + 16777216 * y7)⟩ W)) (fun kv _ => 4 - (RowKit.intOf kv).toNat)
        case atStart => exact .inl ⟨rfl, HS0.out⟩
        case round =>
          clear HS0
          rcases hrel with ⟨rfl, hS⟩ | ⟨rfl, hS⟩ | ⟨rfl, hS⟩ | ⟨rfl, hS⟩ | ⟨rfl, hS⟩
          · have HS := Lib.hid hS
            have b := bx4 _ hS.below
            have k4 := hS.bx.k4
            have f4 := hS.fz
            clear hS bx4 bx5 bx6 bx7
            go_wp2_with fail
            go_region
            rw [(or0 y4 r4)]
            have HSn := Lib.hid (HS.out.put y4)
            clear HS b k4 f4
            go_wp2_with fail
            go_roundw
            case rel => first | exact .inr (.inl ⟨rfl, HSn.out⟩) | (refine ⟨_, _, _, _, _, _, _, _, _, _, _, _, _, _, _, _, _, _, ?_, rfl⟩; exact .inr (.inl ⟨rfl, HSn.out⟩))
            case measure => simp [RowKit.intOf]
          · have HS := Lib.hid hS
            have b := bx5 _ hS.below
            have k4 := hS.bx.k4
            have f4 := hS.fz
            clear hS bx4 bx5 bx6 bx7
            go_wp2_with fail
            go_region
            rw [(or1 _ y5 (by omega) r5)]
            have HSn := Lib.hid (HS.out.put (y4 + 256 * y5))
            clear HS b k4 f4
            go_wp2_with fail
            go_roundw
            case rel => first | exact .inr (.inr (.inl ⟨rfl, HSn.out⟩)) | (refine ⟨_, _, _, _, _, _, _, _, _, _, _, _, _, _, _, _, _, _, ?_, rfl⟩; exact .inr (.inr (.inl ⟨rfl, HSn.out⟩)))
            case measure => simp [RowKit.intOf]
          · have HS := Lib.hid hS
            have b := bx6 _ hS.below
            have k4 := hS.bx.k4
            have f4 := hS.fz
            clear hS bx4 bx5 bx6 bx7
            go_wp2_with fail
            go_region
            rw [(or2 _ y6 (by omega) r6)]
            have HSn := Lib.hid (HS.out.put (y4 + 256 * y5 + 65536 * y6))
            clear HS b k4 f4
            go_wp2_with fail
            go_roundw
            case rel => first | exact .inr (.inr (.inr (.inl ⟨rfl, HSn.out⟩))) | (refine ⟨_, _, _, _, _, _, _, _, _, _, _, _, _, _, _, _, _, _, ?_, rfl⟩; exact .inr (.inr (.inr (.inl ⟨rfl, HSn.out⟩))))
            case measure => simp [RowKit.intOf]
          · have HS := Lib.hid hS
            have b := bx7 _ hS.below
            have k4 := hS.bx.k4
            have f4 := hS.fz
            clear hS bx4 bx5 bx6 bx7
            go_wp2_with fail
            go_region
            rw [(or3 _ y7 (by omega) r7)]
            have HSn := Lib.hid (HS.out.put (y4 + 256 * y5 + 65536 * y6 + 16777216 * y7))
            clear HS b k4 f4
            go_wp2_with fail
            go_roundw
            case rel => first | exact .inr (.inr (.inr (.inr ⟨rfl, HSn.out⟩))) | (refine ⟨_, _, _, _, _, _, _, _, _, _, _, _, _, _, _, _, _, _, ?_, rfl⟩; exact .inr (.inr (.inr (.inr ⟨rfl, HSn.out⟩))))
            case measure => simp [RowKit.intOf]
          · have HS4 := Lib.hid hS
            clear hS
            generalize y4 + 256 * y5 + 65536 * y6 + 16777216 * y7 = V3 at HOK HDEC HPE HS4
            clear bx4 bx5 bx6 bx7 r4 r5 r6 r7 b0 b1 b2 b3
            have k0 := HS4.out.bx.k0
            have k1 := HS4.out.bx.k1
            have k2 := HS4.out.bx.k2
            have k3 := HS4.out.bx.k3
            have k4 := HS4.out.bx.k4
            go_wp2_with fail
            refine (Check_any ⟨y0, y1, y2, y3, V3⟩ HOK.out _).mono ?_
            rintro e w5 ⟨rfl, hB5⟩
            have HW5 := Lib.hid (HS4.out.below.trans (hB5.mono HS4.out.below.size))
            have hX5 := HS4.out.bx.below hB5
            clear k0 k1 k2 k3 k4 hB5 HS4
            have k0 := hX5.k0
            have k1 := hX5.k1
            have k2 := hX5.k2
            have k3 := hX5.k3
            have k4 := hX5.k4
            clear hX5
            have HB5 := Lib.hid (HB.out.trans (HW5.out.mono HB.out.size))
            generalize hcv : chk ⟨y0, y1, y2, y3, V3⟩ = cv at *
            by_cases hc0 : cv = 0
            · subst hc0
              rw [if_pos rfl] at HPE
              have HR5 := Lib.hid (row_below HR.out HW5.out)
              have hm128 : i ≤ 128 := by omega
              go_wp2_with (at_builtin; refine wpList_append_own _ rfl _ _ 40 rfl w.heap.size 24 i0 (.agg #[.int .u8 0, .int .u8 0, .int .u8 0, .int .u8 0, .int .u32 0]) 5 8 Tryd.underlying40 hi hz0 hz1 hz2 rfl (by decide) _ _ _ rfl (HR5.out.alloc _) ⟨w5.heap.size, 0, none⟩ 1 1 [.int .u8 y0, .int .u8 y1, .int .u8 y2, .int .u8 y3, .int .u32 V3] rfl rfl ?c1 ?c2 ?c3 ?c4 ?c5 ?_)
              case c1 => exact new_cells _ _ _ _ _ _
              case c2 => intro u hu; simp at hu; rcases hu with rfl | rfl | rfl | rfl | rfl <;> rfl
              case c3 => unfold maxLen; omega
              case c4 => omega
              case c5 => have := HB5.out.size; simp; omega
              intro v' w6 hown6 hg6 _
              have hO6 : w6.ownsRow w.heap.size 24 5 v' (i + 1) (flat ((List.range (i + 1)).map (dec l))) := by
                rw [List.range_succ, List.map_append, flat_append]
                show w6.ownsRow w.heap.size 24 5 v' (i + 1) (_ ++ ((dec l i).cells.toList ++ []))
                rw [HDEC.out]
                exact hown6
              have HO6 := Lib.hid hO6
              have HB6 := Lib.hid (below_turn (HB5.out.alloc HB5.out.size _) hg6 (Nat.le_refl _) (fun k e => (HR5.out.lt k e).1))
              have hB8 := HBY.out.drop 8
              rw [List.drop_drop, show 8 * i + 8 = 8 * (i + 1) from by omega] at hB8
              have HB8 := Lib.hid hB8
              have HP8 := Lib.hid HPE.out.symm
              clear hown6 hg6 hO6 HR5 HB5 HW5 hB8 HR HB HPE HDEC k0 k1 k2 k3 k4
              go_wp2
              go_roundw
              case rel =>
                refine ⟨i + 1, m - 8, _, _, by omega, by omega, rfl, by omega, ?_, HP8.out, HO6.out, HB6.out⟩
                first
                  | exact HB8.out
                  | (split; (first | exact HB8.out | (rw [List.drop_eq_nil_of_le (by rw [HN.out]; omega)]; exact By.nil _ _)); (first | exact HB8.out | (rw [List.drop_eq_nil_of_le (by rw [HN.out]; omega)]; exact By.nil _ _)))
              case measure => first | (simp; omega) | (simp; done) | omega
            · have e0 : prsE l = cv := by rw [HPE.out, if_neg hc0]
              have hcb : (cv != 0) = true := by rw [bne_iff_ne]; exact hc0
              have e2 : prsL l = [] := by rw [HL.out, e0, if_neg hc0]
              have HE0 := Lib.hid e0
              have HE2 := Lib.hid e2
              clear hc0 HPE hcv e0 e2 HL
              go_wp2
              go_ret2
              exact ⟨.slice none 0 0, by rw [HE0.out]; rfl, by rw [HE2.out]; exact World.ownsRow_nil _ _ _ _, HB5.out⟩
end Go.Proofs.YtlomgbackphmmaaDoor
