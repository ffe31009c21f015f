/- TreeFirsts: leaves are taken away from the left in the order in which all stood. -/
import Derived.Test.YthkppnkhiimaeaaTlw
set_option linter.unusedVariables false
set_option linter.unusedSimpArgs false
namespace Go.Proofs.Ythkppnkhiimaeaa
open Go.RowKit

set_option maxRecDepth 100000 in
set_option maxHeartbeats 2000000 in
theorem TreeFirsts_calls (A : Option Addr) (len cap : Nat) (f : Nat → Int) (w : World) (c : ColI w A len 1 0 .u64 f) (hlc : len ≤ cap) (hm : len ≤ maxLen) :
    Calls Try.prog 5 #[.slice A len cap] w fun e w' => e = .returned (.bool true) ∧ Kept w w' := by
  have hA : 0 < len → ∃ ad : Addr, A = some ad := fun h => by obtain ⟨ad, e, _⟩ := c 0 h; exact ⟨ad, e⟩
  obtain ⟨N, hNe⟩ : ∃ N, min len 40 = N := ⟨_, rfl⟩
  have hN : N ≤ 40 := by omega
  have hky : Ky w A N f := ⟨fun i hi => (Ky.of_col c).at_ i (by omega)⟩
  have HKy := Lib.hid hky
  have HA := Lib.hid hA
  have HM := Lib.hid hm
  have HNE := Lib.hid hNe
  clear c hA hky hNe hm
  go_enter Try.func5, Try.ntmps5
  go_wp2_with fail
  refine (shown_calls _).mono ?_
  rintro e w1 ⟨rfl, K1⟩
  have HK1 := Lib.hid K1
  clear K1
  go_wp2_with fail
  refine (few_calls hlc HM.out HA.out).mono ?_
  rintro e w' ⟨rfl, rfl⟩
  rw [HNE.out]
  clear hlc
  go_wp2_with fail
  refine (fresh_fh HK1.out (HKy.out.below HK1.out.below) hN).mono ?_
  rintro e w2 ⟨p, d, kw, rfl, F2, _, _⟩
  have HT2 := Lib.hid F2.ts
  clear F2
  go_wp2
  go_loopg [5] N (fun gq v wr => ∃ (k : Nat) (h : Hp) (t : Bt), k ≤ N ∧ gq = N - k ∧ v = .int .i64 (k : Int) ∧ Ts w wr p d kw h t ∧ Fst t k)
  case atStart => exact ⟨0, _, _, by omega, by omega, rfl, HT2.out, Fst.nil⟩
  case round =>
    clear HT2
    obtain ⟨k, h, t, hk, rfl, rfl, hT, hF⟩ := hrel
    have HT := Lib.hid hT
    have HF := Lib.hid hF
    clear hT hF
    by_cases hlt : k < N
    · have hd : decide ((k : Int) < (N : Int)) = true := decide_eq_true (by omega)
      have hk40 : k < 40 := by omega
      go_wp2_with fail
      refine (leaf_calls ((k : Int) + 1) (by omega) (by omega) _).mono ?_
      rintro e w' ⟨rfl, rfl⟩
      obtain ⟨h', t', _, a2, a3⟩ := Add_ts HT.out (isN_lf hk40) HF.out.not
      have HT3 := Lib.hid a2
      have HC3 := Lib.hid a3
      clear a2 a3
      go_wp2_with fail
      refine HC3.out.mono ?_
      rintro e w4 ⟨rfl, T4, _⟩
      have HT4 := Lib.hid T4
      have HF4 := Lib.hid (HF.out.add HT3.out)
      clear T4 HT3 HC3
      go_wp2
      go_roundg (N - (k + 1))
      case measure => omega
      case rel => exact ⟨k + 1, h', t', by omega, rfl, by go_num, HT4.out, HF4.out⟩
    · obtain rfl : N = k := by omega
      have hd : decide ((N : Int) < (N : Int)) = false := decide_eq_false (by omega)
      clear hlt hk
      go_wp2_with fail
      refine (All_ts HT.out).mono ?_
      rintro e w5 ⟨v, rfl, hrow, T5, _⟩
      obtain ⟨A5, c5, rfl, hR⟩ := Ri.of_row hrow rfl
      obtain ⟨L, hL⟩ : ∃ L, t.ids = L := ⟨_, rfl⟩
      have hLlen : L.length = N := by rw [← hL]; exact HF.out.len
      have hdn := HT.out.S.new.2.1
      obtain ⟨B, hB⟩ : ∃ B, wr.heap.size = B := ⟨_, rfl⟩
      rw [hL, hLlen]
      rw [hL, hB] at hR
      rw [hB] at hdn
      have HDN := Lib.hid hdn
      have HT5 : Hid (∃ h t, Ts w w5 p d kw h t ∧ t.ids = L.drop 0) := Lib.hid ⟨h, t, T5, by rw [hL]; rfl⟩
      have HR5 := Lib.hid hR
      have HLL := Lib.hid hLlen
      clear hrow T5 hR hL HF HT hB hdn
      go_wp2
      go_loopg [8] N (fun gq v wr => ∃ (k : Nat) (h : Hp) (t : Bt), k ≤ N ∧ gq = N - k ∧ v = .int .i64 (k : Int) ∧ Ts w wr p d kw h t ∧ t.ids = L.drop k ∧ Ri wr B A5 L)
      case atStart =>
        obtain ⟨h, t, a1, a2⟩ := HT5.out
        exact ⟨0, h, t, by omega, by omega, rfl, a1, a2, HR5.out⟩
      case round =>
        clear HT5 HR5
        obtain ⟨k, h, t, hk, rfl, rfl, hT, hids, hR⟩ := hrel
        have HT := Lib.hid hT
        have HI := Lib.hid hids
        have HR := Lib.hid hR
        clear hT hids hR
        by_cases hlt : k < N
        · have hd : decide ((k : Int) < (N : Int)) = true := decide_eq_true (by omega)
          obtain ⟨dr1, dr2, dr3⟩ := drop_head (L := L) (k := k) (by rw [HLL.out]; exact hlt)
          obtain ⟨g, rfl, hgB, hcell⟩ := HR.out.at_ k (by rw [HLL.out]; exact hlt)
          obtain ⟨x, hx⟩ : ∃ x, L.getD k 0 = x := ⟨_, rfl⟩
          rw [hx] at dr1 dr2 dr3 hcell
          rw [← HI.out] at dr1 dr2 dr3
          have HD1 := Lib.hid dr1
          have HD2 := Lib.hid dr2
          have HD3 := Lib.hid dr3
          have HGB := Lib.hid hgB
          have HC := Lib.hid hcell
          clear dr1 dr2 dr3 hx hgB hcell
          go_wp2_with fail
          refine (First_ts HT.out).mono ?_
          rintro e w6 ⟨rfl, T6, hg6⟩
          rw [HD1.out]
          have HT6 := Lib.hid T6
          have hc6 : w6.cell? ⟨g, k, none⟩ = some (.int .i64 x) := hg6.cell HC.out (fun e => (by injection e with e; have := HGB.out; have := HDN.out; simp at e; omega))
          have HR6 := Lib.hid (HR.out.grown hg6 HDN.out)
          clear T6 hg6
          obtain ⟨h', t', _, a2, a3⟩ := Remove_ts HT6.out HD3.out
          have HA2 := Lib.hid a2
          have HA3 := Lib.hid a3
          clear a2 a3
          go_wp2_with fail
          refine HA3.out.mono ?_
          rintro e w7 ⟨rfl, T7, hg7⟩
          have HT7 := Lib.hid T7
          have HR7 := Lib.hid (HR6.out.grown hg7 HDN.out)
          have HI7 : Hid (t'.ids = L.drop (k + 1)) := Lib.hid (by rw [HA2.out, HD2.out])
          clear T7 hg7 HA2 HA3
          go_wp2
          go_roundg (N - (k + 1))
          case measure => omega
          case rel => exact ⟨k + 1, h', t', by omega, rfl, by go_num, HT7.out, HI7.out, HR7.out⟩
        · obtain rfl : N = k := by omega
          have hd : decide ((N : Int) < (N : Int)) = false := decide_eq_false (by omega)
          have hnil : t.ids.headD 0 = 0 := by rw [HI.out, List.drop_eq_nil_of_le (by rw [HLL.out]; exact Nat.le_refl _)]; rfl
          go_wp2_with fail
          refine (First_ts HT.out).mono ?_
          rintro e w8 ⟨rfl, T8, _⟩
          rw [hnil]
          have HT8 := Lib.hid T8
          clear T8
          go_wp2
          go_ret
          exact ⟨rfl, HT8.out.S.kept⟩
end Go.Proofs.Ythkppnkhiimaeaa
