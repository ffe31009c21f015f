/- FlowEnds: a program that is well ends on each way within Longest steps. -/
import Derived.Test.YtaomlfnffnapmaaFlS
import Derived.Test.YtaomlfnffnapmaaFlW
set_option linter.unusedVariables false
set_option linter.unusedSimpArgs false
namespace Go.Proofs.Ytaomlfnffnapmaa
open Go.RowKit

/-- A slice of bools. -/
structure Tu (w : World) (A : Option Addr) (len : Nat) (f : Nat → Bool) : Prop where
  at_ : ∀ i, i < len → ∃ ad : Addr, A = some ad ∧ ad.block < w.heap.size ∧ w.cell? (ad.add i) = some (.bool (f i))
theorem Tu.below {w w1 : World} {A : Option Addr} {len : Nat} {f : Nat → Bool} (h : Tu w A len f) (hb : Below w.heap.size w w1) : Tu w1 A len f := ⟨fun i hi => by
  obtain ⟨ad, e, hl, hc⟩ := h.at_ i hi
  exact ⟨ad, e, Nat.lt_of_lt_of_le hl hb.size, (hb.cell (by rw [block_add]; exact hl)).trans hc⟩⟩

set_option maxRecDepth 100000 in
set_option maxHeartbeats 2000000 in
theorem FlowEnds_calls (A : Option Addr) (cap : Nat) (L : List Ins) (B : Option Addr) (tl tc : Nat) (f : Nat → Bool) (w : World) (hP : Pr w A L) (hT : Tu w B tl f) (htl : tl ≤ 9223372036854775807) :
    Calls Try.prog 5 #[.slice A L.length cap, .slice B tl tc] w fun e w' => e = .returned (.bool true) ∧ Kept w w' := by
  have HP := Lib.hid hP
  have HT := Lib.hid hT
  clear hP hT
  by_cases hw : (fchk L).2 = 0
  · obtain ⟨l0, l1⟩ := well_len hw
    have hlast := well_last hw
    have hb0 := lgN_bd L 0
    have HW := Lib.hid hw
    have HLAST := Lib.hid hlast
    clear hw hlast
    go_enter Try.func5, Try.ntmps5
    go_wp2_with fail
    refine (shown_calls _).mono ?_
    rintro e w1 ⟨rfl, K1⟩
    have HK1 := Lib.hid K1
    clear K1
    go_wp2_with fail
    refine (Longest_any A cap L _ (HP.out.below HK1.out.below)).mono ?_
    rintro e w2 ⟨rfl, hB2⟩
    rw [lng_well HW.out]
    have HK2 := Lib.hid (HK1.out.then_ hB2)
    obtain ⟨ad0, rfl, _, c0, _⟩ := (HP.out.below HK2.out.below).at_ (L.length - 1) (by omega)
    rw [HLAST.out] at c0
    have hz : ((L.length : Int) == 0) = false := beq_eq_false_iff_ne.2 (by omega)
    have hlen1 : ((L.length : Int) - 1) = ((L.length - 1 : Nat) : Int) := by omega
    have hlt1 : ((L.length - 1 : Nat) : Int) < (L.length : Int) := by omega
    clear hB2 HK1
    generalize L.length - 1 = m1 at *
    go_wp2_with fail
    clear hz hlen1 hlt1 c0
    go_loopw [8, 9, 10, 11] (fun p st _ _ wr => ∃ k s : Nat, k < L.length ∧ p = .int .i64 (k : Int) ∧ st = .int .i64 ((s : Int) + 1) ∧ (s : Int) + lgN L k ≤ lgN L 0 ∧ Kept w wr) (fun p _ _ _ _ => L.length - (intOf p).toNat)
    case atStart => exact ⟨0, 0, l0, rfl, rfl, by omega, HK2.out⟩
    case round =>
      obtain ⟨k, s, hk, rfl, rfl, hs, hKr⟩ := hrel
      have HKr := Lib.hid hKr
      have hpos := lgN_pos HW.out hk
      obtain ⟨ad, ea, _, c0, _⟩ := (HP.out.below hKr.below).at_ k hk
      obtain rfl : ad0 = ad := by injection ea
      have hki : (k : Int) < (L.length : Int) := by omega
      clear hKr
      rcases well_two HW.out hk with ⟨h15, hbe⟩ | ⟨x, hbe, hx1, hx2⟩ | ⟨x, y, hbe, hx1, hxy, hy2⟩
      · rw [h15] at c0
        have hsl : (s : Int) + 1 ≤ lgN L 0 := by omega
        clear hbe h15
        generalize lgN L 0 = N0 at *
        go_wp2
        go_ret
        exact ⟨rfl, HKr.out⟩
      · have hx3 : (x : Int) ∈ beh L (k : Int) := by rw [hbe]; simp
        have hnx := lgN_next HW.out hk hx3
        have hop : (L.getD k z0).op ≠ 15 := fun e => by
          rcases beh_cases k hk with ⟨_, h1⟩ | ⟨e2, _⟩ | ⟨e2, _⟩ | ⟨e2, _⟩ | ⟨e2, _⟩
          · rw [h1] at hbe; cases hbe
          · omega
          · omega
          · omega
          · omega
        have hopb : ((L.getD k z0).op != 15) = true := by rw [bne_iff_ne]; exact hop
        have hnxe := (nx_well HW.out hk).trans hbe
        have HNX := Lib.hid hnxe
        generalize (L.getD k z0).op = op at *
        clear hbe hnxe hop hx3
        go_wp2_with fail
        refine (Next_any _ cap L (k : Int) _ (by omega) (HP.out.below HKr.out.below)).mono ?_
        rintro e w3 ⟨v, rfl, hr, hB3⟩
        rw [HNX.out] at hr
        obtain ⟨g, c, rfl⟩ : ∃ g c, v = .slice (some ⟨g, 0, none⟩) 1 c := ownsRow_succ hr
        have d0 := hr.cellAt 0 (by omega)
        have HK3 := Lib.hid (HKr.out.then_ hB3)
        rw [show ([(x : Int)].map (Value.int .i64))[0]? = some (.int .i64 (x : Int)) from rfl] at d0
        have hx1' : (k : Int) < (x : Int) := by omega
        have hs2 : (s : Int) + 1 ≤ lgN L 0 := by omega
        have hs3 : (s : Int) + 1 + lgN L x ≤ lgN L 0 := by omega
        clear hr hB3 c0 HKr hs hnx hpos
        generalize hlx : lgN L x = NX at *
        have HLX := Lib.hid hlx
        clear hlx
        go_wp2
        go_roundw
        case rel => exact ⟨x, s + 1, hx2, rfl, by go_num, by rw [HLX.out]; omega, HK3.out⟩
        case measure => simp [intOf]; omega
      · have hx3 : (x : Int) ∈ beh L (k : Int) := by rw [hbe]; simp
        have hy3 : (y : Int) ∈ beh L (k : Int) := by rw [hbe]; simp
        have hnx := lgN_next HW.out hk hx3
        have hny := lgN_next HW.out hk hy3
        have hop : (L.getD k z0).op ≠ 15 := fun e => by
          rcases beh_cases k hk with ⟨_, h1⟩ | ⟨e2, _⟩ | ⟨e2, _⟩ | ⟨e2, _⟩ | ⟨e2, _⟩
          · rw [h1] at hbe; cases hbe
          · omega
          · omega
          · omega
          · omega
        have hopb : ((L.getD k z0).op != 15) = true := by rw [bne_iff_ne]; exact hop
        have hnxe := (nx_well HW.out hk).trans hbe
        have HNX := Lib.hid hnxe
        generalize (L.getD k z0).op = op at *
        clear hbe hnxe hop hx3 hy3
        go_wp2_with fail
        refine (Next_any _ cap L (k : Int) _ (by omega) (HP.out.below HKr.out.below)).mono ?_
        rintro e w3 ⟨v, rfl, hr, hB3⟩
        rw [HNX.out] at hr
        obtain ⟨g, c, rfl⟩ : ∃ g c, v = .slice (some ⟨g, 0, none⟩) 2 c := ownsRow_succ hr
        have d0 := hr.cellAt 0 (by omega)
        have d1 := hr.cellAt 1 (by omega)
        have HK3 := Lib.hid (HKr.out.then_ hB3)
        rw [show ([(x : Int), (y : Int)].map (Value.int .i64))[0]? = some (.int .i64 (x : Int)) from rfl] at d0
        rw [show ([(x : Int), (y : Int)].map (Value.int .i64))[1]? = some (.int .i64 (y : Int)) from rfl] at d1
        have hx1' : (k : Int) < (x : Int) := by omega
        have hs2 : (s : Int) + 1 ≤ lgN L 0 := by omega
        have hs3 : (s : Int) + 1 + lgN L x ≤ lgN L 0 := by omega
        have hs4 : (s : Int) + 1 + lgN L y ≤ lgN L 0 := by omega
        by_cases hst : s < tl
        · obtain ⟨ad2, rfl, _, ct⟩ := (HT.out.below HK3.out.below).at_ s hst
          cases hf : f s
          · rw [hf] at ct
            have HF := Lib.hid hf
            clear hf hr hB3 c0 HKr hs hnx hny hpos hs4
            generalize hlx : lgN L x = NX at *
            have HLX := Lib.hid hlx
            clear hlx
            go_wp2
            go_roundw
            case rel => exact ⟨x, s + 1, by omega, rfl, by go_num, by rw [HLX.out]; omega, HK3.out⟩
            case measure => simp [intOf]; omega
          · rw [hf] at ct
            have HF := Lib.hid hf
            clear hf hr hB3 c0 HKr hs hnx hny hpos hs3
            generalize hlx : lgN L y = NX at *
            have HLX := Lib.hid hlx
            clear hlx
            go_wp2
            go_roundw
            case rel => exact ⟨y, s + 1, by omega, rfl, by go_num, by rw [HLX.out]; omega, HK3.out⟩
            case measure => simp [intOf]; omega
        · have hst' : (tl : Int) ≤ (s : Int) := by omega
          clear hst hr hB3 c0 HKr hs hnx hny hpos hs4
          generalize hlx : lgN L x = NX at *
          have HLX := Lib.hid hlx
          clear hlx
          go_wp2
          go_roundw
          case rel => exact ⟨x, s + 1, by omega, rfl, by go_num, by rw [HLX.out]; omega, HK3.out⟩
          case measure => simp [intOf]; omega
  · have hne : ((fchk L).2 != 0) = true := by rw [bne_iff_ne]; exact hw
    have HL := Lib.hid (lng_bad hw)
    clear hw
    go_enter Try.func5, Try.ntmps5
    go_wp2_with fail
    refine (shown_calls _).mono ?_
    rintro e w1 ⟨rfl, K1⟩
    have HK1 := Lib.hid K1
    clear K1
    go_wp2_with fail
    refine (Longest_any A cap L _ (HP.out.below HK1.out.below)).mono ?_
    rintro e w2 ⟨rfl, hB2⟩
    rw [HL.out]
    have HK2 := Lib.hid (HK1.out.then_ hB2)
    clear hB2
    go_wp2
    go_ret
    exact ⟨rfl, HK2.out⟩
theorem FlowEnds_row (A : Option Addr) (len cap : Nat) {f0 f1 f2 f3 f4 : Nat → Int} (B : Option Addr) (tl tc : Nat) (f : Nat → Bool) (w : World) (h0 : ColI w A len 5 0 .u8 f0) (h1 : ColI w A len 5 1 .u8 f1) (h2 : ColI w A len 5 2 .u8 f2) (h3 : ColI w A len 5 3 .u8 f3) (h4 : ColI w A len 5 4 .u32 f4)
    (hb : ColB w B tl 1 0 f) (htl : tl ≤ maxLen) :
    Calls Try.prog 5 #[.slice A len cap, .slice B tl tc] w fun e w' => e = .returned (.bool true) ∧ Kept w w' := by
  obtain ⟨L, hl, hP⟩ := Pr.of_cols h0 h1 h2 h3 h4
  subst hl
  exact FlowEnds_calls A cap L B tl tc f w hP ⟨fun i hi => by
    obtain ⟨ad, e, hlt, hc⟩ := hb i hi
    rw [Nat.mul_one, Nat.add_zero] at hc
    exact ⟨ad, e, hlt, hc⟩⟩ (by unfold maxLen at htl; omega)
end Go.Proofs.Ytaomlfnffnapmaa
