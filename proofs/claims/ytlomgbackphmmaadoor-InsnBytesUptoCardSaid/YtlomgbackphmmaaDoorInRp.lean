/- The reference's Parse: the walk. -/
import Derived.Test.YtlomgbackphmmaaDoorInPa0
import Derived.Test.YtlomgbackphmmaaDoorInRf0
import Derived.RegionTactic
import Derived.ChangeAlike
import Derived.BigRegion
import Derived.Deep.DeepCutAuto
set_option linter.unusedVariables false
set_option linter.unusedSimpArgs false
namespace Go.Proofs.YtlomgbackphmmaaDoor
open Go.RowKit Go.Lib

theorem by_rest {L G : Prop} (first : L → G) (second : L) : G := first second
theorem By.at8 {w : World} {A : Option Addr} {l : List Int} (h : By w A l) (i K : Nat) (hK : K = 8 * i) (hl : K + 8 ≤ l.length) :
    ∃ ad : Addr, A = some ad ∧ ad.block < w.heap.size ∧ ∃ y0 y1 y2 y3 y4 y5 y6 y7 : Int, dec l i = ⟨y0, y1, y2, y3, y4 + 256 * y5 + 65536 * y6 + 16777216 * y7⟩ ∧
      (0 ≤ y4 ∧ y4 ≤ 255) ∧ (0 ≤ y5 ∧ y5 ≤ 255) ∧ (0 ≤ y6 ∧ y6 ≤ 255) ∧ (0 ≤ y7 ∧ y7 ≤ 255) ∧ (⟨y0, y1, y2, y3, y4 + 256 * y5 + 65536 * y6 + 16777216 * y7⟩ : Ins).Ok ∧
      (∀ W : World, Below w.heap.size w W → W.cell? (ad.add K) = some (.int .u8 y0) ∧ W.cell? ⟨ad.block, ad.off + (K + 1), none⟩ = some (.int .u8 y1) ∧ W.cell? ⟨ad.block, ad.off + (K + 2), none⟩ = some (.int .u8 y2) ∧ W.cell? ⟨ad.block, ad.off + (K + 3), none⟩ = some (.int .u8 y3) ∧
        W.cell? ⟨ad.block, ad.off + (K + 4), none⟩ = some (.int .u8 y4) ∧ W.cell? ⟨ad.block, ad.off + (K + 5), none⟩ = some (.int .u8 y5) ∧ W.cell? ⟨ad.block, ad.off + (K + 6), none⟩ = some (.int .u8 y6) ∧ W.cell? ⟨ad.block, ad.off + (K + 7), none⟩ = some (.int .u8 y7)) := by
  subst hK
  obtain ⟨ad, rfl, hlt, _⟩ := h.at' (8 * i) (by omega)
  have bs : ∀ j, j < 8 → ∀ W : World, Below w.heap.size w W → W.cell? (ad.add (8 * i + j)) = some (.int .u8 (l.getD (8 * i + j) 0)) := fun j hj W hW => by
    obtain ⟨ad', e, hl', hc⟩ := h.at' (8 * i + j) (by omega)
    obtain rfl : ad = ad' := by injection e
    exact (hW.cell (by rw [block_add]; exact hl')).trans hc
  have ad1 : ∀ j, j + 1 < 8 → ∀ W : World, Below w.heap.size w W → W.cell? ⟨ad.block, ad.off + (8 * i + (j + 1)), none⟩ = some (.int .u8 (l.getD (8 * i + (j + 1)) 0)) := fun j hj W hW => by
    have := bs (j + 1) hj W hW
    rwa [show ad.add (8 * i + (j + 1)) = ⟨ad.block, ad.off + (8 * i + (j + 1)), none⟩ from by simp [Addr.add]] at this
  exact ⟨ad, rfl, hlt, _, _, _, _, _, _, _, _, rfl, h.rngD _, h.rngD _, h.rngD _, h.rngD _, h.dec_ok i, fun W hW => ⟨bs 0 (by omega) W hW, ad1 0 (by omega) W hW, ad1 1 (by omega) W hW, ad1 2 (by omega) W hW, ad1 3 (by omega) W hW, ad1 4 (by omega) W hW, ad1 5 (by omega) W hW, ad1 6 (by omega) W hW⟩⟩

set_option maxRecDepth 100000 in
set_option maxHeartbeats 4000000 in
theorem RParse_any (A : Option Addr) (cap : Nat) (l : List Int) (w : World) (hP : By w A l) (hcap : l.length ≤ cap) (hmx : l.length ≤ 140737488355000) :
    Calls Tryd.prog 18 #[.slice A l.length cap] w fun e w' => ∃ v, e = .returned (.tuple #[v, .int .i64 (prsE l)]) ∧ w'.ownsRow w.heap.size 24 5 v (prsL l).length (flat (prsL l)) ∧ Below w.heap.size w w' := by
  obtain ⟨i0, hi, hz0, hz1, hz2⟩ := info_parts insn_info
  have HP := Lib.hid hP
  have he : prsE l = if l.length % 8 ≠ 0 then 3 else if 128 < l.length / 8 then 11 else pe l 0 (l.length / 8) := rfl
  have hL : prsL l = if prsE l = 0 then (List.range (l.length / 8)).map (dec l) else [] := rfl
  clear hP
  generalize hn : l.length = n at *
  have HE := Lib.hid he
  have HL := Lib.hid hL
  clear he hL
  have HN := Lib.hid hn
  have HM := Lib.hid hmx
  clear hn hmx
  have hcases : n % 8 ≠ 0 ∨ (n % 8 = 0 ∧ 128 < n / 8) ∨ (n % 8 = 0 ∧ n / 8 ≤ 128) := by omega
  rcases hcases with h8 | ⟨h8, h128⟩ | ⟨h8, h128⟩
  · have e1 : prsE l = 3 := by rw [HE.out, if_pos h8]
    have e2 : prsL l = [] := by rw [HL.out, e1]; rfl
    rw [e1, e2]
    have q : ((n : Int) % 8 == 0) = false := beq_eq_false_iff_ne.2 (by omega)
    have q' : ((n : Int) % 8 != 0) = true := by rw [bne_iff_ne]; omega
    clear HE HL
    go_enter Tryd.func18, Tryd.ntmps18
    go_wp2
    go_ret2
    exact ⟨_, rfl, World.ownsRow_nil _ _ _ _, Below.refl _ _⟩
  · have e1 : prsE l = 11 := by rw [HE.out, if_neg (by omega), if_pos h128]
    have e2 : prsL l = [] := by rw [HL.out, e1]; rfl
    rw [e1, e2]
    have q : ((n : Int) % 8 == 0) = true := beq_iff_eq.2 (by omega)
    have q' : ((n : Int) % 8 != 0) = false := by rw [bne_eq_false_iff_eq]; omega
    have q2 : (1024 : Int) < (n : Int) := by omega
    clear HE HL
    go_enter Tryd.func18, Tryd.ntmps18
    go_wp2
    go_ret2
    exact ⟨_, rfl, World.ownsRow_nil _ _ _ _, Below.refl _ _⟩
  · have e1 : prsE l = pe l 0 (n / 8) := by rw [HE.out, if_neg (by omega), if_neg (by omega)]
    have E1 := Lib.hid e1
    have q : ((n : Int) % 8 == 0) = true := beq_iff_eq.2 (by omega)
    have q' : ((n : Int) % 8 != 0) = false := by rw [bne_eq_false_iff_eq]; omega
    have q2 : ¬ ((1024 : Int) < (n : Int)) := by omega
    clear HE e1
    go_enter Tryd.func18, Tryd.ntmps18
    go_wp2_with fail
    go_loopw [4, 5] (fun v kv wr => ∃ (i K : Nat), K = 8 * i ∧ K ≤ n ∧ kv = .int .i64 (K : Int) ∧ pe l i ((n - K) / 8) = prsE l ∧ wr.ownsRow w.heap.size 24 5 v i (flat ((List.range i).map (dec l))) ∧ Below w.heap.size w wr) (fun _ kv _ => n - (RowKit.intOf kv).toNat)
    case atStart => exact ⟨0, 0, rfl, by omega, rfl, by rw [Nat.sub_zero]; exact E1.out.symm, World.ownsRow_nil _ _ _ _, Below.refl _ _⟩
    case round =>
      obtain ⟨i, K, hK, hKn, rfl, hpe, hrow, hB⟩ := hrel
      obtain ⟨A4, c4, rfl⟩ := row_form hrow
      by_cases hgo : K = n
      · subst hgo
        rw [Nat.sub_self, Nat.zero_div] at hpe
        have e0 : prsE l = 0 := hpe.symm
        obtain rfl : i = K / 8 := by omega
        have hlen : ((List.range (K / 8)).map (dec l)).length = K / 8 := by simp
        have hrow' : wr.ownsRow w.heap.size 24 5 (.slice A4 (K / 8) c4) (prsL l).length (flat (prsL l)) := by
          rw [HL.out, e0, if_pos rfl, hlen]
          exact hrow
        have HR := Lib.hid hrow'
        have HB := Lib.hid hB
        have HE0 := Lib.hid e0
        clear hrow hrow' hB hpe HL E1 e0 hlen hK
        go_wp2
        go_ret2
        exact ⟨_, by rw [HE0.out]; rfl, HR.out, HB.out⟩
      · have hlt : K < n := by omega
        have hk8 : K + 8 ≤ n := by omega
        obtain ⟨ad, rfl, hadl, y0, y1, y2, y3, y4, y5, y6, y7, hdec, r4, r5, r6, r7, hok, hcs⟩ := (HP.out.below hB).at8 i K hK (by rw [HN.out]; exact hk8)
        have hpe' : prsE l = if chk (dec l i) = 0 then pe l (i + 1) ((n - (K + 8)) / 8) else chk (dec l i) := by
          rw [← hpe, show (n - K) / 8 = (n - (K + 8)) / 8 + 1 from by omega, pe]
        rw [hdec] at hpe'
        have HR := Lib.hid hrow
        have HB := Lib.hid hB
        have HPE := Lib.hid hpe'
        have HK := Lib.hid hK
        have HOK := Lib.hid hok
        have HDEC := Lib.hid hdec
        have HCS := Lib.hid hcs
        clear hrow hB hpe hpe' hK hok hdec hcs
        have hM := HM.out
        have m0 : (K : Int) < (n : Int) := by omega
        have m1 : (K : Int) + 1 < (n : Int) := by omega
        have m2 : (K : Int) + 2 < (n : Int) := by omega
        have m3 : (K : Int) + 3 < (n : Int) := by omega
        have m4 : (K : Int) + 4 < (n : Int) := by omega
        have m5 : (K : Int) + 5 < (n : Int) := by omega
        have m6 : (K : Int) + 6 < (n : Int) := by omega
        have m7 : (K : Int) + 7 < (n : Int) := by omega
        obtain ⟨b0, b1, b2, b3, _⟩ := HCS.out _ (Below.refl _ wr)
        have hbk : ∀ n, (ad.add n).block = ad.block := block_add ad
        have hadn : ad.block ≠ wr.heap.size := by omega
        have v1 : IntKind.i64.wrap ((K : Int) + 1) = (K : Int) + 1 := by rw [IntKind.wrap_i64]; omega
        have v2 : IntKind.i64.wrap ((K : Int) + 2) = (K : Int) + 2 := by rw [IntKind.wrap_i64]; omega
        have v3 : IntKind.i64.wrap ((K : Int) + 3) = (K : Int) + 3 := by rw [IntKind.wrap_i64]; omega
        have v4 : IntKind.i64.wrap ((K : Int) + 4) = (K : Int) + 4 := by rw [IntKind.wrap_i64]; omega
        have v5 : IntKind.i64.wrap ((K : Int) + 5) = (K : Int) + 5 := by rw [IntKind.wrap_i64]; omega
        have v6 : IntKind.i64.wrap ((K : Int) + 6) = (K : Int) + 6 := by rw [IntKind.wrap_i64]; omega
        have v7 : IntKind.i64.wrap ((K : Int) + 7) = (K : Int) + 7 := by rw [IntKind.wrap_i64]; omega
        have nn1 : 0 ≤ (K : Int) + 1 := by omega
        have nn2 : 0 ≤ (K : Int) + 2 := by omega
        have nn3 : 0 ≤ (K : Int) + 3 := by omega
        have nn4 : 0 ≤ (K : Int) + 4 := by omega
        have nn5 : 0 ≤ (K : Int) + 5 := by omega
        have nn6 : 0 ≤ (K : Int) + 6 := by omega
        have nn7 : 0 ≤ (K : Int) + 7 := by omega
        go_wp2_with fail
        go_region
        have hS0 := Pz.start wr y0 y1 y2 y3 0
        generalize (wr.alloc (.cells #[.int .u8 y0, .int .u8 y1, .int .u8 y2, .int .u8 y3, .int .u32 0] 24)).drew = W0 at *
        have HS0 := Lib.hid hS0
        clear hS0 b0 b1 b2 b3
        have k4 := HS0.out.bx.k4
        have f4 := HS0.out.fz
        obtain ⟨_, _, _, _, b4, b5, b6, b7⟩ := HCS.out _ HS0.out.below
        skip
        have s1 : (256 * y5) % 4294967296 = 256 * y5 := by omega
        have s2 : (65536 * y6) % 4294967296 = 65536 * y6 := by omega
        have s3 : (16777216 * y7) % 4294967296 = 16777216 * y7 := by omega
        have s4 : (y4 + 256 * y5) % 4294967296 = y4 + 256 * y5 := by omega
        have s5 : (y4 + 256 * y5 + 65536 * y6) % 4294967296 = y4 + 256 * y5 + 65536 * y6 := by omega
        have s6 : (y4 + 256 * y5 + 65536 * y6 + 16777216 * y7) % 4294967296 = y4 + 256 * y5 + 65536 * y6 + 16777216 * y7 := by omega
        have q4 : y4 % 4294967296 = y4 := by omega
        have q5 : y5 % 4294967296 = y5 := by omega
        have q6 : y6 % 4294967296 = y6 := by omega
        have q7 : y7 % 4294967296 = y7 := by omega
        go_wp2_with fail
        refine by_rest (L := ?L) ?first ?second
        case first =>
          intro hL
          go_region
          exact hL
        case second =>
          have HSn := Lib.hid (HS0.out.put (y4 + 256 * y5 + 65536 * y6 + 16777216 * y7))
          clear HS0 k4 f4 b4 b5 b6 b7 s1 s2 s3 s4 s5 s6 q4 q5 q6 q7 r4 r5 r6 r7 HCS m1 m2 m3 m4 m5 m6 m7 nn1 nn2 nn3 nn4 nn5 nn6 nn7 v1 v2 v3 v4 v5 v6 v7 hbk hadn hadl hM
          generalize (W0.setCell ⟨wr.heap.size, 4, none⟩ (.int .u32 (y4 + 256 * y5 + 65536 * y6 + 16777216 * y7))).drew = W1 at *
          have k0 := HSn.out.bx.k0
          have k1 := HSn.out.bx.k1
          have k2 := HSn.out.bx.k2
          have k3 := HSn.out.bx.k3
          have k4 := HSn.out.bx.k4
          have HRC := Lib.hid (fun W => RefC.RCheck ⟨y0, y1, y2, y3, y4 + 256 * y5 + 65536 * y6 + 16777216 * y7⟩ HOK.out W)
          generalize hcv : chk ⟨y0, y1, y2, y3, y4 + 256 * y5 + 65536 * y6 + 16777216 * y7⟩ = cv at *
          by_cases hc0 : cv = 0
          · subst hc0
            rw [if_pos rfl] at HPE
            have hm128 : i ≤ 128 := by have := HK.out; omega
            clear hcv
            repeat (first | go_values | go_skip | go_guarded | go_step | go_upon)
            refine (HRC.out _).mono ?_
            rintro e w5 ⟨rfl, hB5⟩
            have HW5 := Lib.hid (HSn.out.below.trans (hB5.mono HSn.out.below.size))
            have hX5 := HSn.out.bx.below hB5
            have j0 := hX5.k0
            have j1 := hX5.k1
            have j2 := hX5.k2
            have j3 := hX5.k3
            have j4 := hX5.k4
            have HB5 := Lib.hid (HB.out.trans (HW5.out.mono HB.out.size))
            have HR5 := Lib.hid (row_below HR.out HW5.out)
            clear hB5 hX5 k0 k1 k2 k3 k4 HSn
            go_wp2_with (at_builtin; refine wpList_append_own _ rfl _ _ 40 rfl w.heap.size 24 i0 (.agg #[.int .u8 0, .int .u8 0, .int .u8 0, .int .u8 0, .int .u32 0]) 5 8 Tryd.underlying40 hi hz0 hz1 hz2 rfl (by decide) _ _ _ rfl (HR5.out.alloc _) ⟨w5.heap.size, 0, none⟩ 1 1 [.int .u8 y0, .int .u8 y1, .int .u8 y2, .int .u8 y3, .int .u32 (y4 + 256 * y5 + 65536 * y6 + 16777216 * y7)] rfl rfl ?c1 ?c2 ?c3 ?c4 ?c5 ?_)
            case c1 => exact new_cells _ _ _ _ _ _
            case c2 => intro u hu; simp at hu; rcases hu with rfl | rfl | rfl | rfl | rfl <;> rfl
            case c3 => unfold maxLen; omega
            case c4 => omega
            case c5 => have := HB5.out.size; simp; omega
            intro v' w6 hown6 hg6 _
            have hO6 : w6.ownsRow w.heap.size 24 5 v' (i + 1) (flat ((List.range (i + 1)).map (dec l))) := by
              rw [List.range_succ, List.map_append, flat_append]
              show w6.ownsRow w.heap.size 24 5 v' (i + 1) (_ ++ ((dec l i).cells.toList ++ []))
              rw [HDEC.out]
              exact hown6
            have HO6 := Lib.hid hO6
            have HB6 := Lib.hid (below_turn (HB5.out.alloc HB5.out.size _) hg6 (Nat.le_refl _) (fun k e => (HR5.out.lt k e).1))
            have HP8 := Lib.hid HPE.out.symm
            clear hown6 hg6 hO6 HR5 HB5 HW5 HR HB HPE HDEC j0 j1 j2 j3 j4
            go_wp2
            go_roundw
            case rel => exact ⟨i + 1, K + 8, by have := HK.out; omega, by omega, by go_num, HP8.out, HO6.out, HB6.out⟩
            case measure => simp [RowKit.intOf]; omega
          · have e0 : prsE l = cv := by rw [HPE.out, if_neg hc0]
            have hcb : (cv != 0) = true := by rw [bne_iff_ne]; exact hc0
            have e2 : prsL l = [] := by rw [HL.out, e0, if_neg hc0]
            have HE0 := Lib.hid e0
            have HE2 := Lib.hid e2
            clear hc0 HPE hcv e0 e2 HL
            repeat (first | go_values | go_skip | go_guarded | go_step | go_upon)
            refine (HRC.out _).mono ?_
            rintro e w5 ⟨rfl, hB5⟩
            have HW5 := Lib.hid (HSn.out.below.trans (hB5.mono HSn.out.below.size))
            have hX5 := HSn.out.bx.below hB5
            have j0 := hX5.k0
            have j1 := hX5.k1
            have j2 := hX5.k2
            have j3 := hX5.k3
            have j4 := hX5.k4
            have HB5 := Lib.hid (HB.out.trans (HW5.out.mono HB.out.size))
            have HR5 := Lib.hid (row_below HR.out HW5.out)
            clear hB5 hX5 k0 k1 k2 k3 k4 HSn
            go_wp2
            go_ret2
            exact ⟨.slice none 0 0, by rw [HE0.out]; rfl, by rw [HE2.out]; exact World.ownsRow_nil _ _ _ _, HB5.out⟩
end Go.Proofs.YtlomgbackphmmaaDoor
