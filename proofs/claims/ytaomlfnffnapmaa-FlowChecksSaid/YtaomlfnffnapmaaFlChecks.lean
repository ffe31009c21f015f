/- FlowChecks: where a program isn't well, and why, and how long it takes, is as the document says. -/
import Derived.Test.YtaomlfnffnapmaaFlR1
import Derived.StillTailTactics
set_option linter.unusedVariables false
set_option linter.unusedSimpArgs false
namespace Go.Proofs.Ytaomlfnffnapmaa
open Go.RowKit

theorem chk_bd (x : Ins) : 0 ≤ chk x ∧ chk x ≤ 20 := by
  unfold chk
  split
  · split
    · omega
    · split <;> omega
  · omega
theorem fchkU_bd (L : List Ins) : ∀ d k, 0 ≤ (fchkU L d k).2 ∧ (fchkU L d k).2 ≤ 20
  | 0, k => by unfold fchkU; simp
  | d + 1, k => by
    unfold fchkU
    split
    · show 0 ≤ bad L k ∧ bad L k ≤ 20
      have := chk_bd (L.getD k z0)
      unfold bad
      split
      · exact this
      · split
        · omega
        · split <;> omega
    · exact fchkU_bd L d (k + 1)
theorem fchk_bd (L : List Ins) : 0 ≤ (fchk L).2 ∧ (fchk L).2 ≤ 20 := by
  unfold fchk
  split
  · simp
  · exact fchkU_bd L _ _
theorem lng_bd (L : List Ins) : 0 ≤ (lng L).2 ∧ (lng L).2 ≤ 20 := by
  have := fchk_bd L
  unfold lng
  split
  · exact this
  · simp

theorem RCheck_calls {A : Option Addr} {cap : Nat} {L : List Ins} {w : World} (hP : Pr w A L) (hcap : L.length ≤ cap) (hn : L.length ≤ 9223372036854775807) :
    Calls Try.prog 11 #[.slice A L.length cap] w fun e w' => e = .returned (.tuple #[.int .i64 (fchk L).1, .int .i64 (fchk L).2]) ∧ Below w.heap.size w w' := by
  obtain ⟨K, hK⟩ : ∃ K, 60000 ≤ K := ⟨60000, Nat.le_refl _⟩
  have h := PFlowChecks.turnbuckleref16_Check.calls K A cap (L.map RefC.s37) (fchk L).1 (fchk L).2 w (RefC.C_of_pr hP hn) (by rw [List.length_map]; exact hcap) (RefC.Check_eq L (fun i => hP.okD i) K hK)
  rw [List.length_map] at h
  exact h
theorem RLongest_calls {A : Option Addr} {cap : Nat} {L : List Ins} {w : World} (hP : Pr w A L) (hcap : L.length ≤ cap) (hn : L.length ≤ 9223372036854775807) :
    Calls Try.prog 13 #[.slice A L.length cap] w fun e w' => e = .returned (.tuple #[.int .i64 (lng L).1, .int .i64 (lng L).2]) ∧ Below w.heap.size w w' := by
  obtain ⟨K, hK⟩ : ∃ K, 60000 ≤ K := ⟨60000, Nat.le_refl _⟩
  have h := PFlowChecks.turnbuckleref16_Longest.calls K A cap (L.map RefC.s37) (lng L).1 (lng L).2 w (RefC.C_of_pr hP hn) (by rw [List.length_map]; exact hcap) (RefC.Longest_eq L (fun i => hP.okD i) K hK)
  rw [List.length_map] at h
  exact h

set_option maxRecDepth 100000 in
set_option maxHeartbeats 2000000 in
theorem FlowChecks_calls (A : Option Addr) (cap : Nat) (L : List Ins) (w : World) (hP : Pr w A L) (hcap : L.length ≤ cap) (hlen : L.length ≤ maxLen) :
    Calls Try.prog 3 #[.slice A L.length cap] w fun e w' => e = .returned (.bool true) ∧ Kept w w' := by
  have HP := Lib.hid hP
  have hl : L.length ≤ 9223372036854775807 := by unfold maxLen at hlen; omega
  have b1 := fchk_bd L
  have b2 := lng_bd L
  have HC := fun (A : Option Addr) (cap : Nat) (w : World) (hP : Pr w A L) => Check_whole A cap L w hP
  have HL := fun (A : Option Addr) (cap : Nat) (w : World) (hP : Pr w A L) => Longest_any A cap L w hP
  have HRC := fun (A : Option Addr) (cap : Nat) (w : World) (hP : Pr w A L) (hc : L.length ≤ cap) => RCheck_calls hP hc hl
  have HRL := fun (A : Option Addr) (cap : Nat) (w : World) (hP : Pr w A L) (hc : L.length ≤ cap) => RLongest_calls hP hc hl
  generalize (fchk L).1 = i1 at *
  generalize (fchk L).2 = e1 at *
  generalize (lng L).1 = i2 at *
  generalize (lng L).2 = e2 at *
  have HC' := Lib.hid HC
  have HL' := Lib.hid HL
  have HRC' := Lib.hid HRC
  have HRL' := Lib.hid HRL
  clear hP HC HL HRC HRL
  go_enter Try.func3, Try.ntmps3
  go_wp2_with fail
  refine (shown_calls _).mono ?_
  rintro e w1 ⟨rfl, K1⟩
  have HK1 := Lib.hid K1
  have HP1 := Lib.hid (HP.out.below K1.below)
  clear K1
  go_wp2_with fail
  refine (HC'.out _ _ _ HP1.out).mono ?_
  rintro e w2 ⟨rfl, hB2⟩
  have HK2 := Lib.hid (HK1.out.then_ hB2)
  have HP2 := Lib.hid (HP1.out.below hB2)
  clear hB2 HK1 HP1
  go_wp2_with fail
  refine (HRC'.out _ _ _ HP2.out hcap).mono ?_
  rintro e w3 ⟨rfl, hB3⟩
  have HK3 := Lib.hid (HK2.out.then_ hB3)
  have HP3 := Lib.hid (HP2.out.below hB3)
  clear hB3 HK2 HP2
  go_wp2_with fail
  refine (HL'.out _ _ _ HP3.out).mono ?_
  rintro e w4 ⟨rfl, hB4⟩
  have HK4 := Lib.hid (HK3.out.then_ hB4)
  have HP4 := Lib.hid (HP3.out.below hB4)
  clear hB4 HK3 HP3
  go_wp2_with fail
  refine (HRL'.out _ _ _ HP4.out hcap).mono ?_
  rintro e w5 ⟨rfl, hB5⟩
  have HK5 := Lib.hid (HK4.out.then_ hB5)
  clear hB5
  go_wp2
  go_ret
  exact ⟨rfl, HK5.out⟩
theorem FlowChecks_row (A : Option Addr) (len cap : Nat) {f0 f1 f2 f3 f4 : Nat → Int} (w : World) (h0 : ColI w A len 5 0 .u8 f0) (h1 : ColI w A len 5 1 .u8 f1) (h2 : ColI w A len 5 2 .u8 f2) (h3 : ColI w A len 5 3 .u8 f3) (h4 : ColI w A len 5 4 .u32 f4)
    (hlc : len ≤ cap) (hl : len ≤ maxLen) :
    Calls Try.prog 3 #[.slice A len cap] w fun e w' => e = .returned (.bool true) ∧ Kept w w' := by
  obtain ⟨L, rfl, hP⟩ := Pr.of_cols h0 h1 h2 h3 h4
  exact FlowChecks_calls A cap L w hP hlc hl
end Go.Proofs.Ytaomlfnffnapmaa
