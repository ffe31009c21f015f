/- PoolRuns: pages that are taken in a run lie one behind the other, were free, and no others are taken. -/
import Derived.Test.YtiamohjonljdnaaDoorPOnce
import Derived.Test.YtiamohjonljdnaaDoorPool6
set_option linter.unusedVariables false
set_option linter.unusedSimpArgs false
namespace Go.Proofs.YtiamohjonljdnaaDoor
open Go.RowKit

theorem bool_info : (Tryd.prog.info? 4).map (fun i => (i.zero, i.size, i.bytes)) = some (some (.bool false), 1, 1) := by kernel_rfl

/-- The row 'was': what was taken, as far as k. -/
def was (f : Nat → Bool) (k : Nat) : List Value := (List.range k).map (fun i => Value.bool (f i))
theorem was_next (f : Nat → Bool) (k : Nat) : was f k ++ [Value.bool (f k)] = was f (k + 1) := by
  unfold was
  rw [List.range_succ, List.map_append]
  rfl
theorem was_at (f : Nat → Bool) (k i : Nat) (h : i < k) : (was f k)[i]? = some (.bool (f i)) := by
  unfold was
  rw [List.getElem?_map, List.getElem?_range h]
  rfl

/-- Another row of the call's own, above the pool, was written. -/
theorem Pw.row {w0 w w1 : World} {p n : Nat} {f : Nat → Bool} (S : Pw w0 w p n f) {r : Option Nat} (hg : w.grownBy w1 r) {B : Nat} (hpB : p < B) (hB : w0.heap.size ≤ B) (hr : ∀ k, r = some k → B ≤ k) : Pw w0 w1 p n f := by
  refine ⟨⟨S.kept.below.grown hg S.kept.below.size (fun k hk => by have := hr k hk; omega)⟩, ⟨(hg.block p S.po.lt (fun e => by have := hr p e.symm; omega)).trans S.po.blk, S.po.len, S.po.out⟩, S.new, S.tb⟩

/-- .. and is read, behind a write to the pool. -/
theorem was_col {w w1 : World} {B p N : Nat} {v : Value} {f : Nat → Bool} (h : w.ownsRow B 4 1 v N (was f N)) (hg : w.grownBy w1 (some p)) (hpB : p < B) :
    ∃ (A : Option Addr) (c : Nat), v = .slice A N c ∧ ColB w1 A N 1 0 f := by
  have hk : w1.ownsRow B 4 1 v N (was f N) := h.kept hg (by
    cases hb : v.ownBlock with
    | none => exact .inl rfl
    | some k => exact .inr (fun e => by injection e with e; have := (h.lt k hb).1; omega))
  rcases Nat.eq_zero_or_pos N with rfl | hN
  · rcases hk.2 with ⟨rfl, _⟩ | ⟨g, cap, cur, rfl, _⟩
    · exact ⟨none, 0, rfl, fun i hi => absurd hi (by omega)⟩
    · exact ⟨_, cap, rfl, fun i hi => absurd hi (by omega)⟩
  · rcases hk.2 with ⟨_, h0⟩ | ⟨g, cap, cur, rfl, _⟩
    · omega
    have hg2 : g < w1.heap.size := (hk.lt g rfl).2
    refine ⟨_, cap, rfl, fun i hi => ⟨⟨g, 0, none⟩, rfl, hg2, ?_⟩⟩
    exact hk.cells rfl (i * 1 + 0) _ (by rw [Nat.mul_one, Nat.add_zero]; exact was_at f N i hi)

/-- What is asked of a run's answer. -/
structure RunTo (f g : Nat → Bool) (N : Nat) (n : Int) (a : Nat) (c : Int) : Prop where
  on : ∀ i : Nat, c = 0 → a ≤ i → (i : Int) < a + n → f i = false ∧ g i = true
  off : ∀ i : Nat, (c = 0 → a ≤ i → ¬ (i : Int) < a + n) → g i = f i
  code : (c = 0 ∧ 1 ≤ n ∧ a + n ≤ N) ∨ (c = 5 ∧ 1 ≤ n ∧ a = 0) ∨ (c = 1 ∧ n < 1 ∧ a = 0)

theorem Run_to {w0 w : World} {p N : Nat} {f : Nat → Bool} (S : Pw w0 w p N f) (n : Int) (hn : n ≤ 9223372036854775807) :
    Calls Tryd.prog 14 #[.pointer (some ⟨p, 0, none⟩), .int .i64 n] w fun e w' => ∃ (a : Nat) (c : Int) (g : Nat → Bool), e = .returned (.tuple #[.int .i64 (a : Int), .int .i64 c]) ∧ Pw w0 w' p N g ∧ w.grownBy w' (some p) ∧ RunTo f g N n a c := by
  by_cases h1 : n < 1
  · refine (TakeRun_bad _ n w h1).mono ?_
    rintro e w' ⟨h, rfl⟩
    exact ⟨0, 1, f, h, S, World.grownBy.refl _ _, ⟨fun _ h => by omega, fun _ _ => rfl, .inr (.inr ⟨rfl, h1, rfl⟩)⟩⟩
  · obtain ⟨M, rfl⟩ := Int.eq_ofNat_of_zero_le (show 0 ≤ n by omega)
    rcases run_or f N M with h | ⟨a, ha, h2, h3⟩
    · refine (TakeRun_none S.po M (by omega) hn (fun b hb => by obtain ⟨j, h4, h5⟩ := h b (by omega); exact ⟨j, by omega, h5⟩)).mono ?_
      rintro e w' ⟨h, rfl⟩
      exact ⟨0, 5, f, h, S, World.grownBy.refl _ _, ⟨fun _ h => by omega, fun _ _ => rfl, .inr (.inl ⟨rfl, by omega, rfl⟩)⟩⟩
    · refine (TakeRun_ok S.po M a (by omega) ha h2 h3).mono ?_
      rintro e w' ⟨h, hp, hg⟩
      refine ⟨a, 0, _, h, S.grown hp hg, hg, ⟨fun i _ h4 h5 => ⟨?_, ?_⟩, fun i hi => ?_, .inl ⟨rfl, by omega, by omega⟩⟩⟩
      · have := h2 (i - a) (by omega)
        rwa [show a + (i - a) = i from by omega] at this
      · show (f i || (decide (a ≤ i) && decide (i < a + M))) = true
        rw [decide_eq_true h4, decide_eq_true (show i < a + M by omega)]
        simp
      · show (f i || (decide (a ≤ i) && decide (i < a + M))) = f i
        have h6 : (decide (a ≤ i) && decide (i < a + M)) = false := by
          rw [Bool.and_eq_false_iff, decide_eq_false_iff_not, decide_eq_false_iff_not]
          by_cases h7 : a ≤ i
          · exact .inr (fun h8 => hi rfl h7 (by omega))
          · exact .inl h7
        rw [h6, Bool.or_false]

theorem Pw.drewN {w0 w : World} {p n : Nat} {f : Nat → Bool} (S : Pw w0 w p n f) (k : Nat) : Pw w0 (w.drewN k) p n f := S.then_ (below_drewN (Below.refl _ _) k)
theorem Taken_quiet {w0 w : World} {p n : Nat} {f : Nat → Bool} (S : Pw w0 w p n f) (i m : Nat) {b : Bool} (h : f i = b) :
    Calls Tryd.prog 13 #[.pointer (some ⟨p, 0, none⟩), .int .i64 (i : Int)] (w.drewN m) fun e w'' => e = .returned (.bool b) ∧ ∃ m, w'' = w.drewN m := by
  refine Calls.quiet_of_same ((Taken_calls (S.drewN m).po (i : Int)).mono ?_)
  rintro e w' ⟨h1, rfl⟩
  rw [tak_at, h] at h1
  exact ⟨h1, rfl⟩

set_option maxRecDepth 100000 in
set_option maxHeartbeats 4000000 in
theorem PoolRuns_calls (pages : Int) (A : Option Addr) (len cap : Nat) (fg : Nat → Int) (n : Int) (w : World) (T : Tb w) (h0 : 0 ≤ pages) (h1 : pages ≤ 255) (hlen : len ≤ 9223372036854775807) (hD : ColI w A len 1 0 .u8 fg) (hn : n ≤ 9223372036854775807) :
    Calls Tryd.prog 3 #[.int .u8 pages, .slice A len cap, .int .i64 n] w fun e w' => e = .returned (.bool true) ∧ Kept w w' := by
  obtain ⟨N, hN0⟩ := Int.eq_ofNat_of_zero_le (show 0 ≤ pages % 129 by omega)
  have hN : N ≤ 128 := by omega
  have HD := Lib.hid hD
  obtain ⟨i0, hi, hz0, hz1, hz2⟩ := info_parts bool_info
  clear hD
  go_enter Tryd.func3, Tryd.ntmps3
  go_wp2_with fail
  refine (shown_calls _ T).mono ?_
  rintro e w1 ⟨rfl, K1⟩
  go_wp2_with fail
  refine (PNew_st K1 T N hN).mono ?_
  rintro e w2 ⟨p, rfl, S2⟩
  have HS2 := Lib.hid (S2.as_ first_zero)
  clear S2
  go_wp2_with fail
  go_loopw [11] (fun i wr => ∃ k : Nat, k ≤ N ∧ i = .int .i64 (k : Int) ∧ Pw w wr p N (first k)) (fun i _ => N - (intOf i).toNat)
  case atStart => exact ⟨0, by omega, rfl, HS2.out⟩
  case round =>
    obtain ⟨k, hk, rfl, hS⟩ := hrel
    have HS := Lib.hid hS
    clear hS
    by_cases hlt : k < N
    · go_wp2_with fail
      refine (Take_st HS.out k hlt (first_not (by omega)) (fun i hi => first_at hi)).mono ?_
      rintro e w3 ⟨rfl, S3⟩
      have S3' := Lib.hid (S3.as_ (first_next k))
      clear S3
      go_wp2
      go_roundw
      case rel => exact ⟨k + 1, by omega, by go_num, S3'.out⟩
      case measure => simp [intOf]; omega
    · obtain rfl : N = k := by omega
      clear hlt
      go_wp2_with fail
      go_loopw [12] (fun i wr => ∃ (m : Nat) (f : Nat → Bool), m ≤ 200 ∧ i = .int .i64 (m : Int) ∧ Pw w wr p N f) (fun i _ => 200 - (intOf i).toNat)
      case atStart => exact ⟨0, _, by omega, rfl, HS.out⟩
      case round =>
        obtain ⟨m, f, hm, rfl, hS⟩ := hrel
        have HS := Lib.hid hS
        clear hS
        by_cases hlt : m < len ∧ m < 200
        · obtain ⟨hlt1, hlt2⟩ := hlt
          obtain ⟨ad, rfl, hadl, hc, hw⟩ := HD.out.below HS.out.kept.below m hlt1
          rw [Nat.mul_one, Nat.add_zero] at hc
          generalize fg m = g at *
          have hg0 := (bd_u8 hw).1
          have hg1 := (bd_u8 hw).2
          clear hw
          go_wp2_with fail
          refine (Give_any HS.out g).mono ?_
          rintro e w3 ⟨c, f', rfl, S3⟩
          go_wp2
          go_roundw
          case rel => exact ⟨m + 1, f', by omega, by go_num, S3⟩
          case measure => simp [intOf]; omega
        · have hno : ((len : Int) ≤ (m : Int)) ∨ ((m : Int) < (len : Int)) ∧ m = 200 := by omega
          clear hlt
          obtain ⟨B, hB0⟩ : ∃ B, B = wr.heap.size := ⟨_, rfl⟩
          have hwB : w.heap.size ≤ B := by rw [hB0]; exact HS.out.kept.below.size
          have hpB : p < B := by rw [hB0]; exact HS.out.po.lt
          have HB0 := Lib.hid hB0
          have hBr : B ≤ wr.heap.size := Nat.le_of_eq hB0
          clear hB0
          rcases hno with hno | ⟨hno, rfl⟩
          all_goals
            go_wp2_with fail
            go_loopw [13, 14] (fun v i wx => ∃ j : Nat, j ≤ N ∧ i = .int .i64 (j : Int) ∧ wx.ownsRow B 4 1 v j (was f j) ∧ Pw w wx p N f ∧ B ≤ wx.heap.size) (fun _ i _ => N - (intOf i).toNat)
            case atStart => exact ⟨0, by omega, rfl, World.ownsRow_nil _ _ _ _, HS.out, hBr⟩
            case round =>
              clear HS hBr HB0
              obtain ⟨j, hj, rfl, hown, hS, hBw⟩ := hrel
              have HO := Lib.hid hown
              have HS := Lib.hid hS
              clear hown hS
              by_cases hjN : j < N
              · go_wp2_with fail
                refine (Taken_calls HS.out.po (j : Int)).mono ?_
                rintro e w3 ⟨rfl, rfl⟩
                rw [tak_at]
                go_wp2_with (at_builtin; refine wpList_append_own _ rfl _ _ 31 rfl B 4 i0 (.bool false) 1 1 Tryd.underlying31 hi hz0 hz1 hz2 rfl (by decide) _ _ _ rfl (HO.out.alloc _) ⟨wr.heap.size, 0, none⟩ 1 1 [.bool (f j)] rfl rfl ?c1 ?c2 ?c3 ?c4 ?c5 ?_)
                case c1 =>
                  intro j u hj
                  match j, hj with
                  | 0, hj => simp at hj; subst hj; simp [Addr.add]
                case c2 => intro u hu; simp at hu; subst hu; rfl
                case c3 => unfold maxLen; omega
                case c4 => omega
                case c5 => simp; omega
                · intro v' w4 hown4 hg4 _
                  rw [was_next] at hown4
                  have HO4 := Lib.hid hown4
                  have S4 := Lib.hid ((HS.out.then_ ((Below.refl _ _).alloc (Nat.le_refl _) _)).row hg4 hpB hwB (fun k hk => (HO.out.lt k hk).1))
                  have hB4 : B ≤ w4.heap.size := Nat.le_trans (Nat.le_trans hBw (by simp)) hg4.size
                  clear hown4 hg4 HO HS
                  go_wp2
                  go_roundw
                  case rel => exact ⟨j + 1, by omega, by go_num, HO4.out, S4.out, hB4⟩
                  case measure => simp [intOf]; omega
              · obtain rfl : N = j := by omega
                clear hjN hj
                go_wp2_with fail
                refine (Run_to HS.out n hn).mono ?_
                rintro e w3 ⟨a, c, g, rfl, S3, hg3, R3⟩
                obtain ⟨A3, c3, rfl, hC3⟩ := was_col HO.out hg3 hpB
                have HS3 := Lib.hid S3
                have HC3 := Lib.hid hC3
                have HR3 := Lib.hid R3
                clear S3 hg3 hC3 R3 HO HS
                go_wp2_with fail
                go_loopw [17, 18] (fun i b wx => ∃ k : Nat, k ≤ N ∧ i = .int .i64 (k : Int) ∧ Pw w wx p N g ∧ ColB wx A3 N 1 0 f) (fun i _ _ => N - (intOf i).toNat)
                case atStart => exact ⟨0, by omega, rfl, HS3.out, HC3.out⟩
                case round =>
                  clear HS3 HC3
                  obtain ⟨k, hk, rfl, hS, hC⟩ := hrel
                  have HSx := Lib.hid hS
                  have HCx := Lib.hid hC
                  clear hS hC
                  by_cases hkN : k < N
                  · obtain ⟨ad, rfl, _, hcell⟩ := HCx.out k hkN
                    rw [Nat.mul_one, Nat.add_zero] at hcell
                    by_cases hin : c = 0 ∧ a ≤ k ∧ (k : Int) < a + n
                    · obtain ⟨rfl, h2, h3⟩ := hin
                      have hf := (HR3.out.on k rfl h2 h3).1
                      have hg := Lib.hid (HR3.out.on k rfl h2 h3).2
                      rw [hf] at hcell
                      have hw1 : (a : Int) + n ≤ N ∧ 1 ≤ n := by rcases HR3.out.code with h | h | h <;> omega
                      obtain ⟨hw1, hw2⟩ := hw1
                      have ha : (a : Int) ≤ (k : Int) := by omega
                      clear h2
                      go_wp2_with fail
                      go_quiet ((go_at_call 13; exact Taken_quiet HSx.out k _ hg.out))
                      go_wp2
                      go_roundw
                      case rel => exact ⟨k + 1, by omega, by go_num, HSx.out.drewN _, HCx.out.below (below_drewN (Below.refl _ _) _)⟩
                      case measure => simp [intOf]; omega
                    · obtain ⟨b, hb⟩ : ∃ b, f k = b := ⟨_, rfl⟩
                      have hg := Lib.hid ((HR3.out.off k (fun h1 h2 h3 => hin ⟨h1, h2, h3⟩)).trans hb)
                      rw [hb] at hcell
                      clear hb
                      cases b
                      all_goals
                        by_cases hc0 : c = 0
                        · subst hc0
                          by_cases ha : a ≤ k
                          · have hb : ¬ (k : Int) < a + n := fun h => hin ⟨rfl, ha, h⟩
                            have hb' : decide ((k : Int) < a + n) = false := decide_eq_false hb
                            have hw1 : (a : Int) + n ≤ N ∧ 1 ≤ n := by rcases HR3.out.code with h | h | h <;> omega
                            obtain ⟨hw1, hw2⟩ := hw1
                            have ha' : (a : Int) ≤ (k : Int) := by omega
                            clear hb hin
                            go_wp2_with fail
                            go_quiet ((go_at_call 13; exact Taken_quiet HSx.out k _ hg.out))
                            go_wp2
                            go_roundw
                            case rel => exact ⟨k + 1, by omega, by go_num, HSx.out.drewN _, HCx.out.below (below_drewN (Below.refl _ _) _)⟩
                            case measure => simp [intOf]; omega
                          · have ha' : (k : Int) < (a : Int) := by omega
                            clear hin ha
                            go_wp2_with fail
                            go_quiet ((go_at_call 13; exact Taken_quiet HSx.out k _ hg.out))
                            go_wp2
                            go_roundw
                            case rel => exact ⟨k + 1, by omega, by go_num, HSx.out.drewN _, HCx.out.below (below_drewN (Below.refl _ _) _)⟩
                            case measure => simp [intOf]; omega
                        · have hc : (c == 0) = false := beq_eq_false_iff_ne.2 hc0
                          clear hin hc0
                          go_wp2_with fail
                          go_quiet ((go_at_call 13; exact Taken_quiet HSx.out k _ hg.out))
                          go_wp2
                          go_roundw
                          case rel => exact ⟨k + 1, by omega, by go_num, HSx.out.drewN _, HCx.out.below (below_drewN (Below.refl _ _) _)⟩
                          case measure => simp [intOf]; omega
                  · have hkN' : (N : Int) ≤ (k : Int) := by omega
                    rcases HR3.out.code with ⟨rfl, h1, h2⟩ | ⟨rfl, h1, rfl⟩ | ⟨rfl, h1, rfl⟩
                    · have hd : decide (n < 1) = false := decide_eq_false (by omega)
                      go_wp2_with fail
                      go_ret
                      exact ⟨by simp only [hd]; rfl, HSx.out.kept⟩
                    · have hd : decide (n < 1) = false := decide_eq_false (by omega)
                      go_wp2_with fail
                      go_ret
                      exact ⟨by simp only [hd]; rfl, HSx.out.kept⟩
                    · have hd : decide (n < 1) = true := decide_eq_true (by omega)
                      go_wp2_with fail
                      go_ret
                      exact ⟨by simp only [hd]; rfl, HSx.out.kept⟩
end Go.Proofs.YtiamohjonljdnaaDoor
