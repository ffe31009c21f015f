/- PoolLowest: what is taken is below each other page that is free; taking one, and a run of one, is the same. -/
import Derived.Test.YtiamohjonljdnaaDoorPool7
set_option linter.unusedVariables false
set_option linter.unusedSimpArgs false
namespace Go.Proofs.YtiamohjonljdnaaDoor
open Go.RowKit

set_option maxRecDepth 100000 in
set_option maxHeartbeats 1000000 in
theorem PoolLowest_calls (pages : Int) (A : Option Addr) (len cap : Nat) (fg : Nat → Int) (w : World) (T : Tb w) (h0 : 0 ≤ pages) (h1 : pages ≤ 255) (hlen : len ≤ 9223372036854775807) (hD : ColI w A len 1 0 .u8 fg) :
    Calls Tryd.prog 7 #[.int .u8 pages, .slice A len cap] w fun e w' => e = .returned (.bool true) ∧ Kept w w' := by
  obtain ⟨N, hN0⟩ := Int.eq_ofNat_of_zero_le (show 0 ≤ pages % 129 by omega)
  have hN : N ≤ 128 := by omega
  have HD := Lib.hid hD
  clear hD
  go_enter Tryd.func7, Tryd.ntmps7
  go_wp2_with fail
  refine (shown_calls _ T).mono ?_
  rintro e w1 ⟨rfl, K1⟩
  go_wp2_with fail
  refine (PNew_st K1 T N hN).mono ?_
  rintro e w2 ⟨p, rfl, S2⟩
  have HS2 := Lib.hid S2
  clear S2
  go_wp2_with fail
  refine (PNew_ok N _ hN).mono ?_
  rintro e w3 ⟨rfl, hp3, hb3⟩
  have HS3 : Hid (P2 w w3 p w2.heap.size N (first 0) (first 0)) := Lib.hid (P2.as_ ⟨HS2.out.kept.then_ hb3, HS2.out.po.below hb3, hp3, HS2.out.new, HS2.out.kept.below.size, by have := HS2.out.po.lt; omega, T⟩ first_zero first_zero)
  clear hp3 hb3 HS2
  generalize w2.heap.size = q at *
  go_wp2_with fail
  go_loopw [11] (fun i wr => ∃ k : Nat, k ≤ N ∧ i = .int .i64 (k : Int) ∧ P2 w wr p q N (first k) (first k)) (fun i _ => N - (intOf i).toNat)
  case atStart => exact ⟨0, by omega, rfl, HS3.out⟩
  case round =>
    obtain ⟨k, hk, rfl, hS⟩ := hrel
    have HS := Lib.hid hS
    clear hS HS3
    by_cases hlt : k < N
    · go_wp2_with fail
      refine (TakeP HS.out k hlt (first_not (by omega)) (fun i hi => first_at hi)).mono ?_
      rintro e w4 ⟨rfl, S4⟩
      go_wp2_with fail
      refine (RunQ S4 k hlt (first_not (by omega)) (fun i hi => first_at hi)).mono ?_
      rintro e w5 ⟨rfl, S5⟩
      have S5' := Lib.hid (S5.as_ (first_next k) (first_next k))
      clear S5 S4
      go_wp2
      go_roundw
      case rel => exact ⟨k + 1, by omega, by go_num, S5'.out⟩
      case measure => simp [intOf]; omega
    · obtain rfl : N = k := by omega
      clear hlt hk
      go_wp2_with fail
      go_loopw [12] (fun i wr => ∃ (m : Nat) (f : Nat → Bool), m ≤ 100 ∧ i = .int .i64 (m : Int) ∧ P2 w wr p q N f f) (fun i _ => 100 - (intOf i).toNat)
      case atStart => exact ⟨0, _, by omega, rfl, HS.out⟩
      case round =>
        clear HS
        obtain ⟨m, f, hm, rfl, hS⟩ := hrel
        have HS := Lib.hid hS
        clear hS
        by_cases hlt : m < len ∧ m < 100
        · obtain ⟨hlt1, hlt2⟩ := hlt
          obtain ⟨ad, rfl, hadl, hc, hw⟩ := HD.out m hlt1
          rw [Nat.mul_one, Nat.add_zero] at hc
          generalize fg m = g at *
          have hg0 := (bd_u8 hw).1
          have hg1 := (bd_u8 hw).2
          have HC : Hid (∀ w1, Kept w w1 → w1.cell? (ad.add m) = some (.int .u8 g)) := Lib.hid (fun w1 K => (K.below.cell (by rw [block_add]; exact hadl)).trans hc)
          have hcr := HC.out _ HS.out.drew.kept
          have Sd := HS.out.drew
          have hwg : IntKind.i64.wrap g = g := by rw [IntKind.wrap_i64]; omega
          clear hw hc
          go_wp2_with fail
          go_region_with (first
            | (go_at_call_of 12 (Value.pointer (some ⟨p, 0, none⟩)); refine (GiveP (by with_reducible assumption) g).mono ?_; rintro e w' ⟨rfl, S'⟩; have hc' := HC.out _ S'.kept)
            | (go_at_call_of 12 (Value.pointer (some ⟨q, 0, none⟩)); refine (GiveQ (by with_reducible assumption) g).mono ?_; rintro e w' ⟨rfl, S'⟩; have hc' := HC.out _ S'.kept))
          all_goals (
            have HS' := Lib.hid S'
            clear S' Sd hwg
            go_wp2
            go_roundw
            case rel => exact ⟨m + 1, _, by omega, by go_num, HS'.out⟩
            case measure => simp [intOf]; omega)
        · have hno : ((len : Int) ≤ (m : Int)) ∨ ((m : Int) < (len : Int)) ∧ m = 100 := by omega
          clear hlt
          rcases least_or f N with hfull | ⟨a, ha, hf, hl⟩
          · rcases hno with hno | ⟨hno, rfl⟩
            all_goals (
              go_wp2_with fail
              refine (TakeP_full HS.out hfull).mono ?_
              rintro e w4 ⟨rfl, S4⟩
              go_wp2_with fail
              refine (RunQ_full S4 hfull).mono ?_
              rintro e w5 ⟨rfl, S5⟩
              have HS5 := Lib.hid S5
              clear S4 S5
              go_wp2_with fail
              refine wp_loop_rounds 1 ?_
              rw [rounds_succ]
              by_cases hN0' : N = 0
              · subst hN0'
                go_wp2_with fail
                go_ret
                exact ⟨rfl, HS5.out.kept⟩
              · have h1 : ((0 : Int) < (N : Int)) := by omega
                go_wp2_with fail
                refine (Taken_calls HS5.out.pp 0).mono ?_
                rintro e w6 ⟨rfl, rfl⟩
                rw [show tak f 0 = f 0 from tak_at (P := 0), hfull 0 (by omega)]
                go_wp2_with fail
                refine (PFree_calls HS5.out.pp).mono ?_
                rintro e w6 ⟨rfl, rfl⟩
                rw [cnt_all f N hfull, Int.sub_self]
                go_wp2_with fail
                go_ret
                exact ⟨rfl, HS5.out.kept⟩)
          · rcases hno with hno | ⟨hno, rfl⟩
            all_goals (
              go_wp2_with fail
              refine (TakeP HS.out a ha hf hl).mono ?_
              rintro e w4 ⟨rfl, S4⟩
              go_wp2_with fail
              refine (RunQ S4 a ha hf hl).mono ?_
              rintro e w5 ⟨rfl, S5⟩
              have HS5 := Lib.hid S5
              have HL := Lib.hid hl
              clear S4 S5 hf hl
              go_wp2_with fail
              go_loop [17] (fun i => ∃ k : Nat, k ≤ a ∧ i = .int .i64 (k : Int)) (fun i => a - (intOf i).toNat)
              case atStart => exact ⟨0, by omega, rfl⟩
              case round =>
                obtain ⟨k, hk, rfl⟩ := hrel
                by_cases hka : k < a
                · go_wp2_with fail
                  refine (Taken_calls HS5.out.pp (k : Int)).mono ?_
                  rintro e w6 ⟨rfl, rfl⟩
                  rw [tak_at, HL.out k hka, Bool.true_or]
                  go_wp2
                  go_round
                  case rel => exact ⟨k + 1, by omega, by go_num⟩
                  case measure => simp [intOf]; omega
                · have hka' : (a : Int) ≤ (k : Int) := by omega
                  go_wp2_with fail
                  refine (Taken_calls HS5.out.pp (a : Int)).mono ?_
                  rintro e w6 ⟨rfl, rfl⟩
                  rw [tak_at, beq_self_eq_true, Bool.or_true]
                  go_wp2_with fail
                  go_ret
                  exact ⟨rfl, HS5.out.kept⟩)
end Go.Proofs.YtiamohjonljdnaaDoor
