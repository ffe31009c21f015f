/- The chain's functions (layer 10): what each does to the arena's bytes. -/
import Derived.Test.YtajbfjmbohkphaaCh
set_option linter.unusedVariables false
set_option linter.unusedSimpArgs false
namespace Go.Proofs.Ytajbfjmbohkphaa
open Go.RowKit

section
variable {w0 w w1 : World} {p d : Nat} {bs : List Int}

theorem chk_zero {bs : List Int} {h n : Int} (e : chk bs h n = 0) (hl : bs.length ≤ 65536) : 1 ≤ h ∧ h ≤ (bs.length : Int) - 8 ∧ 1 ≤ n ∧ n ≤ (bs.length : Int) - 16 := by
  unfold chk at e
  split at e
  · rename_i hh
    simp only [inn, Bool.and_eq_true, decide_eq_true_eq] at hh
    omega
  · omega

theorem side_calls (front : Bool) (w : World) :
    Calls Try.prog 30 #[.bool front] w fun e w' => e = .returned (.tuple #[.int .i64 (if front then 0 else 4), .int .i64 (if front then 4 else 0)]) ∧ w = w' := by
  cases front
  all_goals
    go_enter Try.func30, Try.ntmps30
    go_wp2
    go_ret2
    exact ⟨rfl, rfl⟩

theorem End_any (head : Int) (front : Bool) (w : World) (h : Ar w p d bs) :
    Calls Try.prog 23 #[.pointer (some ⟨p, 0, none⟩), .int .i64 head, .bool front] w fun e w' =>
      e = .returned (.tuple #[.int .i64 (if inn bs head 8 then gt bs (head + if front then 0 else 4) else 0), .int .i64 (if inn bs head 8 then 0 else 4)]) ∧ Lk w w' p d bs w.heap.size := by
  have L0 := Lib.hid (Lk.new h)
  have hl := h.len
  have hc0 := L0.out.cell
  clear h
  cases h1 : inn bs head 8
  · unfold inn at h1
    go_enter Try.func23, Try.ntmps23
    go_wp2_with fail
    refine (in_lk L0.out head 8 (by omega) (by omega)).mono ?_
    rintro e w1 ⟨rfl, L1⟩
    rw [h1]
    go_wp2
    go_ret2
    exact ⟨rfl, L1⟩
  · have hb : 1 ≤ head ∧ head ≤ (bs.length : Int) - 8 := by simpa [inn] using h1
    obtain ⟨hb1, hb2⟩ := hb
    unfold inn at h1
    cases front
    all_goals
      go_enter Try.func23, Try.ntmps23
      go_wp2_with fail
      refine (in_lk L0.out head 8 (by omega) (by omega)).mono ?_
      rintro e w1 ⟨rfl, L1⟩
      rw [h1]
      have hc1 := L1.cell
      have HL1 := Lib.hid L1
      clear L1 h1
      go_wp2_with fail
      refine (side_calls _ _).mono ?_
      rintro e w1' ⟨rfl, rfl⟩
      go_wp2_with fail
      refine (get_lk HL1.out _).mono ?_
      rintro e w2 ⟨rfl, L2⟩
      go_wp2
      go_ret2
      exact ⟨by simp, L2⟩
theorem Next_any (node : Int) (front : Bool) (w : World) (h : Ar w p d bs) :
    Calls Try.prog 25 #[.pointer (some ⟨p, 0, none⟩), .int .i64 node, .bool front] w fun e w' =>
      e = .returned (.tuple #[.int .i64 (if inn bs node 16 then gt bs (node + if front then 0 else 4) else 0), .int .i64 (if inn bs node 16 then 0 else 4)]) ∧ Lk w w' p d bs w.heap.size := by
  have L0 := Lib.hid (Lk.new h)
  have hl := h.len
  have hc0 := L0.out.cell
  clear h
  cases h1 : inn bs node 16
  · unfold inn at h1
    go_enter Try.func25, Try.ntmps25
    go_wp2_with fail
    refine (in_lk L0.out node 16 (by omega) (by omega)).mono ?_
    rintro e w1 ⟨rfl, L1⟩
    rw [h1]
    go_wp2
    go_ret2
    exact ⟨rfl, L1⟩
  · have hb : 1 ≤ node ∧ node ≤ (bs.length : Int) - 16 := by simpa [inn] using h1
    obtain ⟨hb1, hb2⟩ := hb
    unfold inn at h1
    cases front
    all_goals
      go_enter Try.func25, Try.ntmps25
      go_wp2_with fail
      refine (in_lk L0.out node 16 (by omega) (by omega)).mono ?_
      rintro e w1 ⟨rfl, L1⟩
      rw [h1]
      have hc1 := L1.cell
      have HL1 := Lib.hid L1
      clear L1 h1
      go_wp2_with fail
      refine (side_calls _ _).mono ?_
      rintro e w1' ⟨rfl, rfl⟩
      go_wp2_with fail
      refine (get_lk HL1.out _).mono ?_
      rintro e w2 ⟨rfl, L2⟩
      go_wp2
      go_ret2
      exact ⟨by simp, L2⟩

theorem Owner_any (node : Int) (w : World) (h : Ar w p d bs) :
    Calls Try.prog 24 #[.pointer (some ⟨p, 0, none⟩), .int .i64 node] w fun e w' =>
      e = .returned (.tuple #[.int .i64 (if inn bs node 16 then gt bs (node + 8) else 0), .int .i64 (if inn bs node 16 then 0 else 4)]) ∧ Lk w w' p d bs w.heap.size := by
  have L0 := Lib.hid (Lk.new h)
  have hl := h.len
  have hc0 := L0.out.cell
  clear h
  cases h1 : inn bs node 16
  · unfold inn at h1
    go_enter Try.func24, Try.ntmps24
    go_wp2_with fail
    refine (in_lk L0.out node 16 (by omega) (by omega)).mono ?_
    rintro e w1 ⟨rfl, L1⟩
    rw [h1]
    go_wp2
    go_ret2
    exact ⟨rfl, L1⟩
  · have hb : 1 ≤ node ∧ node ≤ (bs.length : Int) - 16 := by simpa [inn] using h1
    obtain ⟨hb1, hb2⟩ := hb
    unfold inn at h1
    go_enter Try.func24, Try.ntmps24
    go_wp2_with fail
    refine (in_lk L0.out node 16 (by omega) (by omega)).mono ?_
    rintro e w1 ⟨rfl, L1⟩
    rw [h1]
    have hc1 := L1.cell
    have HL1 := Lib.hid L1
    clear L1 h1
    go_wp2_with fail
    refine (get_lk HL1.out _).mono ?_
    rintro e w2 ⟨rfl, L2⟩
    go_wp2
    go_ret2
    exact ⟨by simp, L2⟩

/-- What Push answers, and leaves. -/
def pushE (bs : List Int) (h n : Int) : Int := if chk bs h n = 0 then (if gt bs (n + 8) = 0 then 0 else 8) else 4
def pushL (bs : List Int) (h n e o : Int) : List Int :=
  let b4 := st (st (st (st bs (n + e) (gt bs (h + e))) (n + o) 0) (n + 8) h) (h + e) n
  if gt bs (h + e) = 0 then st b4 (h + o) n else st b4 (gt bs (h + e) + o) n
def pushB (bs : List Int) (h n : Int) (front : Bool) : List Int := if pushE bs h n = 0 then (if front then pushL bs h n 0 4 else pushL bs h n 4 0) else bs

set_option maxHeartbeats 1000000 in
theorem Push_any (h n : Int) (front : Bool) (w : World) (hA : Ar w p d bs) :
    Calls Try.prog 11 #[.pointer (some ⟨p, 0, none⟩), .int .i64 h, .int .i64 n, .bool front] w fun e w' =>
      e = .returned (.int .i64 (pushE bs h n)) ∧ Lk w w' p d (pushB bs h n front) w.heap.size := by
  have L0 := Lib.hid (Lk.new hA)
  have hl := hA.len
  have hc0 := L0.out.cell
  have hr := gt_range bs hA.rng
  clear hA
  unfold pushB pushE
  by_cases h1 : chk bs h n = 0
  · rw [if_pos h1]
    obtain ⟨b1, b2, b3, b4⟩ := chk_zero h1 hl
    have hr2 := hr (n + 8)
    by_cases h2 : gt bs (n + 8) = 0
    · rw [if_pos h2, if_pos rfl]
      cases front
      · have hr3 := hr (h + 4)
        by_cases h3 : gt bs (h + 4) = 0
        · simp only [if_true, pushL, Int.add_zero, h3, if_false, Bool.false_eq_true]
          go_enter Try.func11, Try.ntmps11
          go_wp2_with fail
          refine (check_lk L0.out).mono ?_
          rintro e w1 ⟨rfl, L1⟩
          rw [h1]
          have hc1 := L1.cell
          clear h1
          go_wp2_with fail
          refine (get_lk L1 (n + 8)).mono ?_
          rintro e w2 ⟨rfl, L2⟩
          rw [h2]
          have hc2 := L2.cell
          clear hc1 L1 h2 hc0
          go_wp2_with fail
          refine (side_calls _ _).mono ?_
          rintro e w1' ⟨rfl, rfl⟩
          go_wp2_with fail
          refine (get_lk L2 (h + 4)).mono ?_
          rintro e w3 ⟨rfl, L3⟩
          rw [h3]
          have hc3 := L3.cell
          clear hc2 L2
          go_wp2_with fail
          refine (set_lk L3 (n + 4) _ (by omega) (by omega)).mono ?_
          rintro e w4 ⟨rfl, L4⟩
          have hc4 := L4.cell
          clear hc3 L3
          go_wp2_with fail
          refine (set_lk L4 n 0 (by omega) (by omega)).mono ?_
          rintro e w5 ⟨rfl, L5⟩
          have hc5 := L5.cell
          clear hc4 L4
          go_wp2_with fail
          refine (set_lk L5 (n + 8) h (by omega) (by omega)).mono ?_
          rintro e w6 ⟨rfl, L6⟩
          have hc6 := L6.cell
          clear hc5 L5
          go_wp2_with fail
          refine (set_lk L6 (h + 4) n (by omega) (by omega)).mono ?_
          rintro e w7 ⟨rfl, L7⟩
          have hc7 := L7.cell
          clear hc6 L6
          go_wp2_with fail
          refine (set_lk L7 h n (by omega) (by omega)).mono ?_
          rintro e w8 ⟨rfl, L8⟩
          clear hc7 L7
          go_wp2
          go_ret
          exact ⟨rfl, L8⟩
        · simp only [if_true, pushL, Int.add_zero, h3, if_false, Bool.false_eq_true]
          go_enter Try.func11, Try.ntmps11
          go_wp2_with fail
          refine (check_lk L0.out).mono ?_
          rintro e w1 ⟨rfl, L1⟩
          rw [h1]
          have hc1 := L1.cell
          clear h1
          go_wp2_with fail
          refine (get_lk L1 (n + 8)).mono ?_
          rintro e w2 ⟨rfl, L2⟩
          rw [h2]
          have hc2 := L2.cell
          clear hc1 L1 h2 hc0
          go_wp2_with fail
          refine (side_calls _ _).mono ?_
          rintro e w1' ⟨rfl, rfl⟩
          go_wp2_with fail
          refine (get_lk L2 (h + 4)).mono ?_
          rintro e w3 ⟨rfl, L3⟩
          have hc3 := L3.cell
          clear hc2 L2
          go_wp2_with fail
          refine (set_lk L3 (n + 4) _ (by omega) (by omega)).mono ?_
          rintro e w4 ⟨rfl, L4⟩
          have hc4 := L4.cell
          clear hc3 L3
          go_wp2_with fail
          refine (set_lk L4 n 0 (by omega) (by omega)).mono ?_
          rintro e w5 ⟨rfl, L5⟩
          have hc5 := L5.cell
          clear hc4 L4
          go_wp2_with fail
          refine (set_lk L5 (n + 8) h (by omega) (by omega)).mono ?_
          rintro e w6 ⟨rfl, L6⟩
          have hc6 := L6.cell
          clear hc5 L5
          go_wp2_with fail
          refine (set_lk L6 (h + 4) n (by omega) (by omega)).mono ?_
          rintro e w7 ⟨rfl, L7⟩
          have hc7 := L7.cell
          clear hc6 L6
          go_wp2_with fail
          refine (set_lk L7 (gt bs (h + 4)) n (by omega) (by omega)).mono ?_
          rintro e w8 ⟨rfl, L8⟩
          clear hc7 L7
          go_wp2
          go_ret
          exact ⟨rfl, L8⟩
      · have hr3 := hr h
        by_cases h3 : gt bs h = 0
        · simp only [if_true, pushL, Int.add_zero, h3, if_false, Bool.false_eq_true]
          go_enter Try.func11, Try.ntmps11
          go_wp2_with fail
          refine (check_lk L0.out).mono ?_
          rintro e w1 ⟨rfl, L1⟩
          rw [h1]
          have hc1 := L1.cell
          clear h1
          go_wp2_with fail
          refine (get_lk L1 (n + 8)).mono ?_
          rintro e w2 ⟨rfl, L2⟩
          rw [h2]
          have hc2 := L2.cell
          clear hc1 L1 h2 hc0
          go_wp2_with fail
          refine (side_calls _ _).mono ?_
          rintro e w1' ⟨rfl, rfl⟩
          go_wp2_with fail
          refine (get_lk L2 h).mono ?_
          rintro e w3 ⟨rfl, L3⟩
          rw [h3]
          have hc3 := L3.cell
          clear hc2 L2
          go_wp2_with fail
          refine (set_lk L3 n _ (by omega) (by omega)).mono ?_
          rintro e w4 ⟨rfl, L4⟩
          have hc4 := L4.cell
          clear hc3 L3
          go_wp2_with fail
          refine (set_lk L4 (n + 4) 0 (by omega) (by omega)).mono ?_
          rintro e w5 ⟨rfl, L5⟩
          have hc5 := L5.cell
          clear hc4 L4
          go_wp2_with fail
          refine (set_lk L5 (n + 8) h (by omega) (by omega)).mono ?_
          rintro e w6 ⟨rfl, L6⟩
          have hc6 := L6.cell
          clear hc5 L5
          go_wp2_with fail
          refine (set_lk L6 h n (by omega) (by omega)).mono ?_
          rintro e w7 ⟨rfl, L7⟩
          have hc7 := L7.cell
          clear hc6 L6
          go_wp2_with fail
          refine (set_lk L7 (h + 4) n (by omega) (by omega)).mono ?_
          rintro e w8 ⟨rfl, L8⟩
          clear hc7 L7
          go_wp2
          go_ret
          exact ⟨rfl, L8⟩
        · simp only [if_true, pushL, Int.add_zero, h3, if_false, Bool.false_eq_true]
          go_enter Try.func11, Try.ntmps11
          go_wp2_with fail
          refine (check_lk L0.out).mono ?_
          rintro e w1 ⟨rfl, L1⟩
          rw [h1]
          have hc1 := L1.cell
          clear h1
          go_wp2_with fail
          refine (get_lk L1 (n + 8)).mono ?_
          rintro e w2 ⟨rfl, L2⟩
          rw [h2]
          have hc2 := L2.cell
          clear hc1 L1 h2 hc0
          go_wp2_with fail
          refine (side_calls _ _).mono ?_
          rintro e w1' ⟨rfl, rfl⟩
          go_wp2_with fail
          refine (get_lk L2 h).mono ?_
          rintro e w3 ⟨rfl, L3⟩
          have hc3 := L3.cell
          clear hc2 L2
          go_wp2_with fail
          refine (set_lk L3 n _ (by omega) (by omega)).mono ?_
          rintro e w4 ⟨rfl, L4⟩
          have hc4 := L4.cell
          clear hc3 L3
          go_wp2_with fail
          refine (set_lk L4 (n + 4) 0 (by omega) (by omega)).mono ?_
          rintro e w5 ⟨rfl, L5⟩
          have hc5 := L5.cell
          clear hc4 L4
          go_wp2_with fail
          refine (set_lk L5 (n + 8) h (by omega) (by omega)).mono ?_
          rintro e w6 ⟨rfl, L6⟩
          have hc6 := L6.cell
          clear hc5 L5
          go_wp2_with fail
          refine (set_lk L6 h n (by omega) (by omega)).mono ?_
          rintro e w7 ⟨rfl, L7⟩
          have hc7 := L7.cell
          clear hc6 L6
          go_wp2_with fail
          refine (set_lk L7 ((gt bs h) + 4) n (by omega) (by omega)).mono ?_
          rintro e w8 ⟨rfl, L8⟩
          clear hc7 L7
          go_wp2
          go_ret
          exact ⟨rfl, L8⟩
    · rw [if_neg h2, if_neg (by omega)]
      have h2' : (gt bs (n + 8) != 0) = true := by rw [bne_iff_ne]; exact h2
      go_enter Try.func11, Try.ntmps11
      go_wp2_with fail
      refine (check_lk L0.out).mono ?_
      rintro e w1 ⟨rfl, L1⟩
      rw [h1]
      have hc1 := L1.cell
      clear h1
      go_wp2_with fail
      refine (get_lk L1 (n + 8)).mono ?_
      rintro e w2 ⟨rfl, L2⟩
      go_wp2
      go_ret
      exact ⟨rfl, L2⟩
  · have h4 : chk bs h n = 4 := by unfold chk at h1 ⊢; split at h1 <;> simp_all
    rw [if_neg h1, if_neg (by omega)]
    go_enter Try.func11, Try.ntmps11
    go_wp2_with fail
    refine (check_lk L0.out).mono ?_
    rintro e w1 ⟨rfl, L1⟩
    rw [h4]
    clear h1 h4
    go_wp2
    go_ret
    exact ⟨rfl, L1⟩
end
end Go.Proofs.Ytajbfjmbohkphaa
