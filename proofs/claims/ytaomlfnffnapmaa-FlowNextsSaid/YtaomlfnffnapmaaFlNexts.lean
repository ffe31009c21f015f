/- FlowNexts: what stands behind, and ahead, is as the document says. -/
import Derived.Test.YtaomlfnffnapmaaFlN0
import Derived.StillTailTactics
set_option linter.unusedVariables false
set_option linter.unusedSimpArgs false
namespace Go.Proofs.Ytaomlfnffnapmaa
open Go.RowKit

theorem Ri.of_C {w : World} {A : Option Addr} {L : List Int} (h : Go.Proofs.YtaomlfnffnapmaaW.PrintWords.Kd.C (Go.Proofs.YtaomlfnffnapmaaW.PrintWords.Kd.int .i64) w A L.length L) : ∀ i, i < L.length → ∃ ad : Addr, A = some ad ∧ w.cell? (ad.add i) = some (.int .i64 (L.getD i 0)) := fun i hi => by
  obtain ⟨ad, e, hc⟩ := Go.Proofs.YtaomlfnffnapmaaW.PrintWords.Kd.at_int h (i : Int) (by omega) (by omega)
  exact ⟨ad, e, hc⟩
/-- Two rows of the same numbers. -/
theorem Same_true {A A' : Option Addr} {c c' : Nat} {L : List Int} (w : World) (h : Ri w A L) (h' : ∀ i, i < L.length → ∃ ad : Addr, A' = some ad ∧ w.cell? (ad.add i) = some (.int .i64 (L.getD i 0))) (hl : L.length ≤ 1000) :
    Calls Try.prog 14 #[.slice A L.length c, .slice A' L.length c'] w fun e w' => e = .returned (.bool true) ∧ Below w.heap.size w w' := by
  have H := Lib.hid h
  have H' := Lib.hid h'
  clear h h'
  generalize hn : L.length = n at *
  have HN := Lib.hid hn
  clear hn
  go_enter Try.func14, Try.ntmps14
  go_wp2
  go_loopw [5] (fun v wx => ∃ k : Nat, k ≤ n ∧ v = .int .i64 (k : Int) ∧ Below w.heap.size w wx) (fun v _ => n - (intOf v).toNat)
  case atStart => exact ⟨0, by omega, rfl, Below.refl _ _⟩
  case round =>
    obtain ⟨k, hk, rfl, hB⟩ := hrel
    have HB := Lib.hid hB
    clear hB
    by_cases hlt : k < n
    · obtain ⟨g, rfl, hc⟩ := (H.out.below HB.out).at_ k (by rw [HN.out]; exact hlt)
      obtain ⟨ad, rfl, hc0⟩ := H'.out k (by omega)
      have hc' := (HB.out.cell (World.block_lt_of_cell? w _ hc0)).trans hc0
      generalize L.getD k 0 = x at *
      clear hc0
      go_wp2_with fail
      go_quiet (fail)
      go_wp2
      go_roundw
      case rel => exact ⟨k + 1, by omega, by go_num, below_drewN HB.out _⟩
      case measure => simp [intOf]; omega
    · have hkk : (n : Int) ≤ (k : Int) := by omega
      go_wp2
      go_ret
      exact ⟨rfl, HB.out⟩

/-- A row of these numbers, wherever. -/
def Rq (w : World) (A : Option Addr) (L : List Int) : Prop := ∀ i, i < L.length → ∃ ad : Addr, A = some ad ∧ w.cell? (ad.add i) = some (.int .i64 (L.getD i 0))
theorem Rq.below {w w1 : World} {A : Option Addr} {L : List Int} (h : Rq w A L) (hb : Below w.heap.size w w1) : Rq w1 A L := fun i hi => by
  obtain ⟨ad, e, hc⟩ := h i hi
  exact ⟨ad, e, (hb.cell (World.block_lt_of_cell? w _ hc)).trans hc⟩
theorem RNext_calls {A : Option Addr} {cap : Nat} {L : List Ins} {pc : Int} {w : World} (hP : Pr w A L) (hcap : L.length ≤ cap) (hn : L.length ≤ 1000) (hpc : -9223372036854775808 ≤ pc ∧ pc ≤ 9223372036854775807) :
    Calls Try.prog 16 #[.slice A L.length cap, .int .i64 pc] w fun e w' => ∃ A' c', e = .returned (.slice A' (nx L pc).length c') ∧ Rq w' A' (nx L pc) ∧ Below w.heap.size w w' := by
  have h := PFlowNexts.turnbuckleref16_Next.calls (L.length + 2) A cap (L.map RefN.s37) pc _ w (RefN.C_of_pr hP (by omega)) (by rw [List.length_map]; exact hcap) (RefN.Next_eq L (fun i => hP.okD i) hn pc hpc)
  rw [List.length_map] at h
  refine h.mono ?_
  rintro e w' ⟨v, rfl, hR, hB⟩
  obtain ⟨A', c', rfl, _, hC⟩ := Go.Proofs.YtaomlfnffnapmaaW.PrintWords.Kd.R_reads hR
  exact ⟨A', c', rfl, Ri.of_C hC, hB⟩
theorem RAhead_calls {A : Option Addr} {cap : Nat} {L : List Ins} {pc : Int} {w : World} (hP : Pr w A L) (hcap : L.length ≤ cap) (hn : L.length ≤ 1000) (hpc : -9223372036854775808 ≤ pc ∧ pc ≤ 9223372036854775807) :
    Calls Try.prog 18 #[.slice A L.length cap, .int .i64 pc] w fun e w' => ∃ A' c', e = .returned (.slice A' (ah L pc).length c') ∧ Rq w' A' (ah L pc) ∧ Below w.heap.size w w' := by
  have h := PFlowNexts.turnbuckleref16_Ahead.calls (2 * L.length + 3) A cap (L.map RefN.s37) pc _ w (RefN.C_of_pr hP (by omega)) (by rw [List.length_map]; exact hcap) (RefN.Ahead_eq L (fun i => hP.okD i) hn pc hpc)
  rw [List.length_map] at h
  refine h.mono ?_
  rintro e w' ⟨v, rfl, hR, hB⟩
  obtain ⟨A', c', rfl, _, hC⟩ := Go.Proofs.YtaomlfnffnapmaaW.PrintWords.Kd.R_reads hR
  exact ⟨A', c', rfl, Ri.of_C hC, hB⟩

set_option maxRecDepth 100000 in
set_option maxHeartbeats 2000000 in
theorem FlowNexts_calls (A : Option Addr) (cap : Nat) (L : List Ins) (pc : Int) (w : World) (hP : Pr w A L) (hcap : L.length ≤ cap) (hlen : L.length ≤ maxLen) (hpc : -9223372036854775808 ≤ pc ∧ pc ≤ 9223372036854775807) :
    Calls Try.prog 4 #[.slice A L.length cap, .int .i64 pc] w fun e w' => e = .returned (.bool true) ∧ Kept w w' := by
  have HP := Lib.hid hP
  unfold maxLen at hlen
  by_cases h300 : 300 < L.length
  · have h3 : (300 : Int) < (L.length : Int) := by omega
    clear hP
    go_enter Try.func4, Try.ntmps4
    go_wp2_with fail
    refine (shown_calls _).mono ?_
    rintro e w1 ⟨rfl, K1⟩
    have HK1 := Lib.hid K1
    clear K1
    go_wp2
    go_ret
    exact ⟨rfl, HK1.out⟩
  · have h3 : (L.length : Int) ≤ 300 := by omega
    have hok := fun i => hP.okD i
    have hnl : (nx L pc).length ≤ 1000 := by
      have h1 := RefN.nx_up L hok pc
      rw [← h1]
      exact Nat.le_trans (RefN.upN_le _ _) (by omega)
    have hal : (ah L pc).length ≤ 1000 := Nat.le_trans (ahU_le _ _ _) (by omega)
    clear hP hok
    go_enter Try.func4, Try.ntmps4
    go_wp2_with fail
    refine (shown_calls _).mono ?_
    rintro e w1 ⟨rfl, K1⟩
    have HK1 := Lib.hid K1
    have HP1 := Lib.hid (HP.out.below K1.below)
    clear K1
    go_wp2_with fail
    refine (Next_any A cap L pc _ (by omega) HP1.out).mono ?_
    rintro e w2 ⟨v2, rfl, hr2, hB2⟩
    obtain ⟨A2, c2, rfl, hR2⟩ := Ri.of_row hr2 rfl
    have HK2 := Lib.hid (HK1.out.then_ hB2)
    have HP2 := Lib.hid (HP1.out.below hB2)
    have HR2 := Lib.hid hR2
    clear hr2 hB2 hR2 HK1 HP1
    go_wp2_with fail
    refine (RNext_calls HP2.out hcap (by omega) hpc).mono ?_
    rintro e w3 ⟨A3, c3, rfl, hR3, hB3⟩
    have HK3 := Lib.hid (HK2.out.then_ hB3)
    have HP3 := Lib.hid (HP2.out.below hB3)
    have HR23 := Lib.hid (HR2.out.below hB3)
    have HR3 := Lib.hid hR3
    clear hB3 hR3 HK2 HP2 HR2
    go_wp2_with fail
    refine (Same_true _ HR23.out HR3.out hnl).mono ?_
    rintro e w4 ⟨rfl, hB4⟩
    have HK4 := Lib.hid (HK3.out.then_ hB4)
    have HP4 := Lib.hid (HP3.out.below hB4)
    clear hB4 HK3 HP3 HR23 HR3
    go_wp2_with fail
    refine (Ahead_any A cap L pc _ (by omega) HP4.out).mono ?_
    rintro e w5 ⟨v5, rfl, hr5, hB5⟩
    obtain ⟨A5, c5, rfl, hR5⟩ := Ri.of_row hr5 rfl
    have HK5 := Lib.hid (HK4.out.then_ hB5)
    have HP5 := Lib.hid (HP4.out.below hB5)
    have HR5 := Lib.hid hR5
    clear hr5 hB5 hR5 HK4 HP4
    go_wp2_with fail
    refine (RAhead_calls HP5.out hcap (by omega) hpc).mono ?_
    rintro e w6 ⟨A6, c6, rfl, hR6, hB6⟩
    have HK6 := Lib.hid (HK5.out.then_ hB6)
    have HR56 := Lib.hid (HR5.out.below hB6)
    have HR6 := Lib.hid hR6
    clear hB6 hR6 HK5 HP5 HR5
    go_wp2_with fail
    refine (Same_true _ HR56.out HR6.out hal).mono ?_
    rintro e w7 ⟨rfl, hB7⟩
    have HK7 := Lib.hid (HK6.out.then_ hB7)
    clear hB7
    go_wp2
    go_ret
    exact ⟨rfl, HK7.out⟩
theorem FlowNexts_row (A : Option Addr) (len cap : Nat) {f0 f1 f2 f3 f4 : Nat → Int} (pc : Int) (w : World) (h0 : ColI w A len 5 0 .u8 f0) (h1 : ColI w A len 5 1 .u8 f1) (h2 : ColI w A len 5 2 .u8 f2) (h3 : ColI w A len 5 3 .u8 f3) (h4 : ColI w A len 5 4 .u32 f4)
    (hlc : len ≤ cap) (hl : len ≤ maxLen) (hpc : -9223372036854775808 ≤ pc ∧ pc ≤ 9223372036854775807) :
    Calls Try.prog 4 #[.slice A len cap, .int .i64 pc] w fun e w' => e = .returned (.bool true) ∧ Kept w w' := by
  obtain ⟨L, rfl, hP⟩ := Pr.of_cols h0 h1 h2 h3 h4
  exact FlowNexts_calls A cap L pc w hP hlc hl hpc
end Go.Proofs.Ytaomlfnffnapmaa
