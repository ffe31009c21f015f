/- FlowBoth: one stands behind another just if that one stands ahead of it. -/
import Derived.Test.YtaomlfnffnapmaaFlS
import Derived.Test.YtaomlfnffnapmaaFlW
import Derived.BigQuiet
set_option linter.unusedVariables false
set_option linter.unusedSimpArgs false
namespace Go.Proofs.Ytaomlfnffnapmaa
open Go.RowKit

def sb (L : List Ins) : Nat → Nat
  | 0 => 0
  | k + 1 => sb L k + (beh L (k : Int)).length
def sa (L : List Ins) (k : Nat) : Nat → Nat
  | 0 => 0
  | m + 1 => sa L k m + (ahU L (m : Int) k).length
def ind (bs : List Int) : Nat → Nat
  | 0 => 0
  | m + 1 => ind bs m + if (m : Int) ∈ bs then 1 else 0
theorem ind_nil : ∀ m, ind [] m = 0
  | 0 => rfl
  | m + 1 => by unfold ind; rw [ind_nil m]; simp
theorem ind_one (x : Nat) : ∀ m, ind [(x : Int)] m = if x < m then 1 else 0
  | 0 => by simp [ind]
  | m + 1 => by
    unfold ind; rw [ind_one x m]
    have : ((m : Nat) : Int) ∈ [(x : Int)] ↔ m = x := by simp; omega
    simp only [this]
    split <;> split <;> split <;> omega
theorem ind_two (x y : Nat) (h : x < y) : ∀ m, ind [(x : Int), (y : Int)] m = (if x < m then 1 else 0) + if y < m then 1 else 0
  | 0 => by simp [ind]
  | m + 1 => by
    unfold ind; rw [ind_two x y h m]
    have : ((m : Nat) : Int) ∈ [(x : Int), (y : Int)] ↔ m = x ∨ m = y := by simp; omega
    simp only [this]
    split <;> split <;> split <;> split <;> split <;> omega
theorem ind_well {L : List Ins} (h : (fchk L).2 = 0) {k : Nat} (hk : k < L.length) : ind (beh L (k : Int)) L.length = (beh L (k : Int)).length := by
  rcases well_two h hk with ⟨_, e⟩ | ⟨x, e, h1, h2⟩ | ⟨x, y, e, h1, h2, h3⟩
  · rw [e, ind_nil]; rfl
  · rw [e, ind_one, if_pos h2]; rfl
  · rw [e, ind_two x y h2, if_pos (by omega), if_pos h3]; rfl
theorem sa_zero (L : List Ins) : ∀ m, sa L 0 m = 0
  | 0 => rfl
  | m + 1 => by unfold sa; rw [sa_zero L m]; rfl
theorem sa_succ (L : List Ins) (k : Nat) : ∀ m, m ≤ L.length → sa L (k + 1) m = sa L k m + ind (beh L (k : Int)) m
  | 0, _ => rfl
  | m + 1, h => by
    unfold sa ind
    rw [sa_succ L k m (by omega)]
    by_cases hm : (m : Int) ∈ beh L (k : Int)
    · rw [ahU_hit (by unfold hit; rw [decide_eq_true hm, decide_eq_true (by omega)]; rfl), if_pos hm, List.length_append, List.length_singleton]; omega
    · rw [ahU_miss (by unfold hit; rw [decide_eq_false hm]; rfl), if_neg hm]; omega
theorem sa_sb {L : List Ins} (h : (fchk L).2 = 0) : ∀ k, k ≤ L.length → sa L k L.length = sb L k
  | 0, _ => sa_zero L _
  | k + 1, hk => by
    unfold sb
    rw [sa_succ L k _ (Nat.le_refl _), ind_well h (by omega), sa_sb h k (by omega)]
theorem beh_two {L : List Ins} (h : (fchk L).2 = 0) {k : Nat} (hk : k < L.length) : (beh L (k : Int)).length ≤ 2 := by
  rcases well_two h hk with ⟨_, e⟩ | ⟨x, e, h1, h2⟩ | ⟨x, y, e, h1, h2, h3⟩ <;> rw [e] <;> simp
theorem sb_bd {L : List Ins} (h : (fchk L).2 = 0) : ∀ k, k ≤ L.length → sb L k ≤ 2 * k
  | 0, _ => by simp [sb]
  | k + 1, hk => by
    have := sb_bd h k (by omega)
    have := beh_two h (k := k) (by omega)
    unfold sb; omega
theorem sa_bd {L : List Ins} (h : (fchk L).2 = 0) : ∀ k, sa L L.length k ≤ 128 * k
  | 0 => by simp [sa]
  | k + 1 => by
    have := sa_bd h k
    have := ahU_le L (k : Int) L.length
    have := (well_len h).2
    unfold sa; omega
/-- One of those it leads to. -/
theorem both_at {L : List Ins} (h : (fchk L).2 = 0) {k : Nat} (hk : k < L.length) {i : Nat} (hi : i < (beh L (k : Int)).length) :
    ∃ x : Nat, (beh L (k : Int)).getD i 0 = (x : Int) ∧ k < x ∧ x < L.length ∧ (∃ j, j < (ah L (x : Int)).length ∧ (ah L (x : Int)).getD j 0 = (k : Int)) ∧ (i = 0 ∨ (i = 1 ∧ ∃ y : Nat, (beh L (k : Int)).getD 0 0 = (y : Int) ∧ y < x)) := by
  have hin : ∀ x : Nat, (x : Int) ∈ beh L (k : Int) → x < L.length → ∃ j, j < (ah L (x : Int)).length ∧ (ah L (x : Int)).getD j 0 = (k : Int) := fun x hx hl => by
    have hm : (k : Int) ∈ ah L (x : Int) := by
      unfold ah ahU
      refine List.mem_map.2 ⟨k, List.mem_filter.2 ⟨List.mem_range.2 hk, ?_⟩, rfl⟩
      unfold hit
      rw [decide_eq_true hx, decide_eq_true (by omega)]; rfl
    obtain ⟨j, hj, e⟩ := List.mem_iff_getElem.1 hm
    exact ⟨j, hj, by rw [List.getD_eq_getElem?_getD, List.getElem?_eq_getElem hj, e]; rfl⟩
  rcases well_two h hk with ⟨_, e⟩ | ⟨x, e, h1, h2⟩ | ⟨x, y, e, h1, h2, h3⟩
  · rw [e] at hi; exact absurd hi (by simp)
  · have hx := hin x (by rw [e]; simp) h2
    rw [e] at hi ⊢
    obtain rfl : i = 0 := by simp at hi; omega
    exact ⟨x, rfl, h1, h2, hx, .inl rfl⟩
  · have hx := hin x (by rw [e]; simp) (by omega)
    have hy := hin y (by rw [e]; simp) h3
    rw [e] at hi ⊢
    have h01 : i = 0 ∨ i = 1 := by simp at hi; omega
    rcases h01 with rfl | rfl
    · exact ⟨x, rfl, h1, by omega, hx, .inl rfl⟩
    · exact ⟨y, rfl, by omega, h3, hy, .inr ⟨rfl, x, rfl, h2⟩⟩
def Has (ys : List Int) (k j : Nat) : Prop := ∃ i, j ≤ i ∧ i < ys.length ∧ ys.getD i 0 = (k : Int)

set_option maxRecDepth 100000 in
set_option maxHeartbeats 4000000 in
theorem FlowBoth_calls (A : Option Addr) (cap : Nat) (L : List Ins) (w : World) (hP : Pr w A L) :
    Calls Try.prog 6 #[.slice A L.length cap] w fun e w' => e = .returned (.bool true) ∧ Kept w w' := by
  have HP := Lib.hid hP
  clear hP
  by_cases hw : (fchk L).2 = 0
  · obtain ⟨l0, l1⟩ := well_len hw
    have HW := Lib.hid hw
    have HC := Lib.hid (fun (w : World) (hP : Pr w A L) => Check_whole A cap L w hP)
    have hS0 := sa_sb hw L.length (Nat.le_refl _)
    have HS0 := Lib.hid hS0
    clear hw hS0
    go_enter Try.func6, Try.ntmps6
    go_wp2_with fail
    refine (shown_calls _).mono ?_
    rintro e w1 ⟨rfl, K1⟩
    have HK1 := Lib.hid K1
    clear K1
    go_wp2_with fail
    refine (HC.out _ (HP.out.below HK1.out.below)).mono ?_
    rintro e w2 ⟨rfl, hB2⟩
    rw [HW.out]
    have HK2 := Lib.hid (HK1.out.then_ hB2)
    clear hB2 HK1 HC
    go_wp2_with fail
    go_loopw [6, 7, 8, 9, 10, 11, 12] (fun m p _ _ _ _ _ wr => ∃ k : Nat, k ≤ L.length ∧ p = .int .i64 (k : Int) ∧ m = .int .i64 ((sb L k : Int) - (sa L L.length k : Int)) ∧ Kept w wr) (fun _ p _ _ _ _ _ _ => L.length - (intOf p).toNat)
    case atStart => exact ⟨0, by omega, rfl, rfl, HK2.out⟩
    case round =>
      clear HK2
      obtain ⟨k, hk, rfl, rfl, hKr⟩ := hrel
      have HKr := Lib.hid hKr
      have b1 := sb_bd HW.out k hk
      have b2 := sa_bd HW.out k
      clear hKr
      by_cases hkn : k < L.length
      · have b3 := beh_two HW.out hkn
        have b4 := ahU_le L (k : Int) L.length
        have hnx := Lib.hid (nx_well HW.out hkn)
        have e1 : sb L (k + 1) = sb L k + (beh L (k : Int)).length := rfl
        have e2 : sa L L.length (k + 1) = sa L L.length k + (ahU L (k : Int) L.length).length := rfl
        have E1 := Lib.hid e1
        have E2 := Lib.hid e2
        have HAT := Lib.hid (fun (i : Nat) (hi : i < (beh L (k : Int)).length) => both_at HW.out hkn hi)
        clear e1 e2
        go_wp2_with fail
        refine (Next_any _ cap L (k : Int) _ (by omega) (HP.out.below HKr.out.below)).mono ?_
        rintro e w3 ⟨v3, rfl, hr3, hB3⟩
        rw [hnx.out] at hr3
        obtain ⟨A3, c3, rfl, hR3⟩ := Ri.of_row hr3 rfl
        have HR3 := Lib.hid hR3
        have HK3 := Lib.hid (HKr.out.then_ hB3)
        clear hr3 hB3 hR3 HKr hnx
        go_wp2_with fail
        go_loopw [9, 10, 11, 12] (fun iv _ _ _ wx => ∃ i : Nat, i ≤ (beh L (k : Int)).length ∧ iv = .int .i64 (i : Int) ∧ Kept w wx ∧ Ri wx A3 (beh L (k : Int))) (fun iv _ _ _ _ => (beh L (k : Int)).length - (intOf iv).toNat)
        case atStart => exact ⟨0, by omega, rfl, HK3.out, HR3.out⟩
        case round =>
          clear HK3 HR3
          obtain ⟨i, hi, rfl, hK, hR⟩ := hrel
          have HKx := Lib.hid hK
          have HRx := Lib.hid hR
          clear hK hR
          by_cases hin : i < (beh L (k : Int)).length
          · obtain ⟨x, hx, hkx, hxl, hfind, h01⟩ := HAT.out i hin
            obtain ⟨g, rfl, hc⟩ := HRx.out.at_ i hin
            rw [hx] at hc
            have HFIND := Lib.hid hfind
            have HX := Lib.hid hx
            have H01 := Lib.hid h01
            clear hx hfind h01
            go_wp2_with fail
            refine (Ahead_any _ cap L (x : Int) _ (by omega) (HP.out.below HKx.out.below)).mono ?_
            rintro e w4 ⟨v4, rfl, hr4, hB4⟩
            obtain ⟨A4, c4, rfl, hR4⟩ := Ri.of_row hr4 rfl
            have b5 : (ah L (x : Int)).length ≤ 128 := by have := ahU_le L (x : Int) L.length; unfold ah; omega
            have HR4 := Lib.hid hR4
            have HK4 := Lib.hid (HKx.out.then_ hB4)
            have HRx4 := Lib.hid (HRx.out.below hB4)
            clear hr4 hB4 hR4 HKx HRx hc
            generalize ah L (x : Int) = ys at *
            go_wp2_with fail
            go_loopw [11, 12] (fun fv jv wy => ∃ (j : Nat) (b : Bool), j ≤ ys.length ∧ jv = .int .i64 (j : Int) ∧ fv = .bool b ∧ (b = true ∨ Has ys k j) ∧ Below w4.heap.size w4 wy) (fun _ jv _ => ys.length - (intOf jv).toNat)
            case atStart => exact ⟨0, false, by omega, rfl, rfl, .inr (by obtain ⟨j, h1, h2⟩ := HFIND.out; exact ⟨j, by omega, h1, h2⟩), Below.refl _ _⟩
            case round =>
              obtain ⟨j, b, hj, rfl, rfl, hb, hBy⟩ := hrel
              have HB := Lib.hid hb
              have HBy := Lib.hid hBy
              clear hb hBy
              by_cases hjn : j < ys.length
              · obtain ⟨g4, rfl, hc4⟩ := (HR4.out.below HBy.out).at_ j hjn
                have hnext : ys.getD j 0 ≠ (k : Int) → b = false → Has ys k (j + 1) := fun h1 h2 => by
                  rcases HB.out with h | ⟨q, h3, h4, h5⟩
                  · rw [h2] at h; cases h
                  · exact ⟨q, by
                      have : q ≠ j := fun e => h1 (e ▸ h5)
                      omega, h4, h5⟩
                have HN := Lib.hid hnext
                clear hnext
                generalize ys.getD j 0 = y at *
                cases b with
                | true =>
                  go_wp2
                  go_roundw
                  case rel => exact ⟨j + 1, true, by omega, by go_num, rfl, .inl rfl, HBy.out⟩
                  case measure => simp [intOf]; omega
                | false =>
                  go_wp2
                  go_roundw
                  case rel => exact ⟨j + 1, (y == (k : Int)), by omega, by go_num, rfl, (by
                    by_cases h : y = (k : Int)
                    · exact .inl (beq_iff_eq.2 h)
                    · exact .inr (HN.out h rfl)), HBy.out⟩
                  case measure => simp [intOf]; omega
              · have hb : b = true := by
                  rcases HB.out with h | ⟨q, h3, h4, h5⟩
                  · exact h
                  · omega
                subst hb
                have hR5 := HRx4.out.below HBy.out
                obtain ⟨g5, eg, hc⟩ := hR5.at_ i hin
                obtain rfl : g = g5 := by injection eg with eg; injection eg
                have HK5 := Lib.hid (HK4.out.then_ HBy.out)
                have HR5 := Lib.hid hR5
                rw [HX.out] at hc
                have hd1 : decide ((x : Int) ≤ (k : Int)) = false := decide_eq_false (by omega)
                have hd2 : decide (x ≤ k) = false := decide_eq_false (by omega)
                have hjj : (ys.length : Int) ≤ (j : Int) := by omega
                clear hR5 eg
                rcases H01.out with rfl | ⟨rfl, y, hy, hyx⟩
                · go_wp2_with fail
                  go_big_quiet (fail)
                  go_wp2
                  go_roundw
                  case rel => exact ⟨1, by omega, by go_num, HK5.out.then_ (below_drewN (Below.refl _ _) _), HR5.out.below (below_drewN (Below.refl _ _) _)⟩
                  case measure => simp [intOf]; omega
                · obtain ⟨g6, eg, hc6⟩ := HR5.out.at_ 0 (by omega)
                  obtain rfl : g = g6 := by injection eg with eg; injection eg
                  rw [hy] at hc6
                  have hd3 : decide ((x : Int) ≤ (y : Int)) = false := decide_eq_false (by omega)
                  have hd4 : decide (x ≤ y) = false := decide_eq_false (by omega)
                  clear hy eg
                  go_wp2_with fail
                  go_big_quiet (fail)
                  go_wp2
                  go_roundw
                  case rel => exact ⟨2, by omega, by go_num, HK5.out.then_ (below_drewN (Below.refl _ _) _), HR5.out.below (below_drewN (Below.refl _ _) _)⟩
                  case measure => simp [intOf]; omega
          · have hii : ((beh L (k : Int)).length : Int) ≤ (i : Int) := by omega
            have b6 : (ah L (k : Int)).length ≤ L.length := b4
            go_wp2_with fail
            refine (Ahead_any _ cap L (k : Int) _ (by omega) (HP.out.below HKx.out.below)).mono ?_
            rintro e w4 ⟨v4, rfl, hr4, hB4⟩
            obtain ⟨A4, c4, rfl, hR4⟩ := Ri.of_row hr4 rfl
            have HK4 := Lib.hid (HKx.out.then_ hB4)
            have hE2 : sa L L.length (k + 1) = sa L L.length k + (ah L (k : Int)).length := E2.out
            have HE2 := Lib.hid hE2
            clear hr4 hB4 hR4 HKx HRx hE2
            go_wp2
            go_roundw
            case rel => exact ⟨k + 1, by omega, by go_num, congrArg (Value.int .i64) (by rw [E1.out, HE2.out]; omega), HK4.out⟩
            case measure => simp [intOf]; omega
      · obtain rfl : k = L.length := by omega
        have hkk : (L.length : Int) ≤ (L.length : Int) := by omega
        have h0 := HS0.out
        generalize hm : (sb L L.length : Int) - (sa L L.length L.length : Int) = mm at *
        obtain rfl : mm = 0 := by omega
        clear hm h0
        go_wp2
        go_ret
        exact ⟨rfl, HKr.out⟩
  · have hne : ((fchk L).2 != 0) = true := by rw [bne_iff_ne]; exact hw
    have HC := Lib.hid (fun (w : World) (hP : Pr w A L) => Check_whole A cap L w hP)
    generalize (fchk L).1 = i1 at *
    generalize (fchk L).2 = i2 at *
    clear hw
    go_enter Try.func6, Try.ntmps6
    go_wp2_with fail
    refine (shown_calls _).mono ?_
    rintro e w1 ⟨rfl, K1⟩
    have HK1 := Lib.hid K1
    clear K1
    go_wp2_with fail
    refine (HC.out _ (HP.out.below HK1.out.below)).mono ?_
    rintro e w2 ⟨rfl, hB2⟩
    have HK2 := Lib.hid (HK1.out.then_ hB2)
    clear hB2
    go_wp2
    go_ret
    exact ⟨rfl, HK2.out⟩
theorem FlowBoth_row (A : Option Addr) (len cap : Nat) {f0 f1 f2 f3 f4 : Nat → Int} (w : World) (h0 : ColI w A len 5 0 .u8 f0) (h1 : ColI w A len 5 1 .u8 f1) (h2 : ColI w A len 5 2 .u8 f2) (h3 : ColI w A len 5 3 .u8 f3) (h4 : ColI w A len 5 4 .u32 f4) :
    Calls Try.prog 6 #[.slice A len cap] w fun e w' => e = .returned (.bool true) ∧ Kept w w' := by
  obtain ⟨L, rfl, hP⟩ := Pr.of_cols h0 h1 h2 h3 h4
  exact FlowBoth_calls A cap L w hP
end Go.Proofs.Ytaomlfnffnapmaa
