/- The chain's functions (layer 10): Remove, Pop. -/
import Derived.Test.YtajbfjmbohkphaaCh2
import Derived.Deep.RegionWith
set_option linter.unusedVariables false
set_option linter.unusedSimpArgs false
namespace Go.Proofs.Ytajbfjmbohkphaa
open Go.RowKit

section
variable {w0 w w1 : World} {p d : Nat} {bs : List Int} {X : Nat}

theorem Lk.drew (S : Lk w0 w p d bs X) : Lk w0 w.drew p d bs X := S.then_ ⟨rfl, rfl, rfl, Nat.le_refl _, fun _ _ => rfl⟩

theorem fill_lk (S : Lk w0 w p d bs X) (at_ m c : Int) (hm : m ≤ 9223372036854775807) (hc0 : 0 ≤ c) (hc1 : c ≤ 255) :
    Calls Try.prog 32 #[.pointer (some ⟨p, 0, none⟩), .int .i64 at_, .int .i64 m, .int .u8 c] w fun e w' =>
      e = .returned (.int .i64 (rErr bs.length at_ m)) ∧ Lk w0 w' p d (fillA bs at_ m c) X :=
  (Fill_any at_ m c w S.ar hm hc0 hc1).mono fun _ _ ⟨h, hA, hg⟩ => ⟨h, S.grown hA hg⟩

/-- What Remove answers, and leaves. -/
def removeE (bs : List Int) (h n : Int) : Int := if chk bs h n = 0 then (if gt bs (n + 8) = h then 0 else 8) else 4
def removeL (bs : List Int) (h n : Int) : List Int :=
  fillA (st (st bs (if gt bs (n + 4) = 0 then h else gt bs (n + 4)) (gt bs n)) (if gt bs n = 0 then h + 4 else gt bs n + 4) (gt bs (n + 4))) n 12 0
def removeB (bs : List Int) (h n : Int) : List Int := if removeE bs h n = 0 then removeL bs h n else bs

set_option maxHeartbeats 2000000 in
theorem Remove_any (h n : Int) (w : World) (hA : Ar w p d bs) :
    Calls Try.prog 13 #[.pointer (some ⟨p, 0, none⟩), .int .i64 h, .int .i64 n] w fun e w' =>
      e = .returned (.int .i64 (removeE bs h n)) ∧ Lk w w' p d (removeB bs h n) w.heap.size := by
  have L0 := Lib.hid (Lk.new hA)
  have hl := hA.len
  have hc0 := L0.out.cell
  have hr := gt_range bs hA.rng
  clear hA
  unfold removeB removeE
  by_cases h1 : chk bs h n = 0
  · rw [if_pos h1]
    obtain ⟨b1, b2, b3, b4⟩ := chk_zero h1 hl
    have hr2 := hr (n + 8)
    by_cases h2 : gt bs (n + 8) = h
    · rw [if_pos h2, if_pos rfl]
      obtain ⟨nx, hnx⟩ : ∃ x, gt bs n = x := ⟨_, rfl⟩
      obtain ⟨pv, hpv⟩ : ∃ x, gt bs (n + 4) = x := ⟨_, rfl⟩
      have hr3 := hr n
      have hr4 := hr (n + 4)
      unfold removeL
      rw [hnx] at hr3 ⊢
      rw [hpv] at hr4 ⊢
      obtain ⟨hr3a, hr3b⟩ := hr3
      obtain ⟨hr4a, hr4b⟩ := hr4
      have HNX := Lib.hid hnx
      have HPV := Lib.hid hpv
      clear hnx hpv hr
      by_cases hp0 : pv = 0
      · by_cases hn0 : nx = 0
        · skip
          rw [if_pos hp0, if_pos hn0]
          subst hp0
          subst hn0
          go_enter Try.func13, Try.ntmps13
          go_wp2_with fail
          refine (check_lk L0.out).mono ?_
          rintro e w1 ⟨rfl, L1⟩
          rw [h1]
          have hc1 := L1.cell
          clear h1
          go_wp2_with fail
          refine (get_lk L1 (n + 8)).mono ?_
          rintro e w2 ⟨rfl, L2⟩
          rw [h2]
          have hc2 := L2.cell
          clear hc1 L1 h2 hc0
          have hwn : IntKind.i64.wrap n = n := by rw [IntKind.wrap_i64]; omega
          have hwn4 : IntKind.i64.wrap (n + 4) = n + 4 := by rw [IntKind.wrap_i64]; omega
          have LD := L2.drew
          have hcd := LD.cell
          go_wp2_with fail
          go_region_with (go_at_call 29; refine (get_lk (by with_reducible assumption) _).mono ?_; rintro e w' ⟨rfl, L'⟩; (first | rw [HNX.out] | rw [HPV.out]); have hc' := L'.cell)
          all_goals (
            have HL3 := Lib.hid L'
            have hc3 := L'.cell
            clear L' LD L2 hcd hc2 hwn hwn4
            go_wp2_with fail
            refine (set_lk HL3.out h 0 (by omega) (by omega)).mono ?_
            rintro e w4 ⟨rfl, L4⟩
            have hc4 := L4.cell
            clear hc3
            go_wp2_with fail
            refine (set_lk L4 (h + 4) 0 (by omega) (by omega)).mono ?_
            rintro e w5 ⟨rfl, L5⟩
            have hc5 := L5.cell
            clear hc4
            go_wp2_with fail
            refine (fill_lk L5 n 12 0 (by omega) (by omega) (by omega)).mono ?_
            rintro e w6 ⟨rfl, L6⟩
            go_wp2
            go_ret
            exact ⟨rfl, L6⟩)
        · skip
          rw [if_pos hp0, if_neg hn0]
          subst hp0
          have hnb : (nx != 0) = true := by rw [bne_iff_ne]; exact hn0
          clear hn0
          go_enter Try.func13, Try.ntmps13
          go_wp2_with fail
          refine (check_lk L0.out).mono ?_
          rintro e w1 ⟨rfl, L1⟩
          rw [h1]
          have hc1 := L1.cell
          clear h1
          go_wp2_with fail
          refine (get_lk L1 (n + 8)).mono ?_
          rintro e w2 ⟨rfl, L2⟩
          rw [h2]
          have hc2 := L2.cell
          clear hc1 L1 h2 hc0
          have hwn : IntKind.i64.wrap n = n := by rw [IntKind.wrap_i64]; omega
          have hwn4 : IntKind.i64.wrap (n + 4) = n + 4 := by rw [IntKind.wrap_i64]; omega
          have LD := L2.drew
          have hcd := LD.cell
          go_wp2_with fail
          go_region_with (go_at_call 29; refine (get_lk (by with_reducible assumption) _).mono ?_; rintro e w' ⟨rfl, L'⟩; (first | rw [HNX.out] | rw [HPV.out]); have hc' := L'.cell)
          all_goals (
            have HL3 := Lib.hid L'
            have hc3 := L'.cell
            clear L' LD L2 hcd hc2 hwn hwn4
            go_wp2_with fail
            refine (set_lk HL3.out h nx (by omega) (by omega)).mono ?_
            rintro e w4 ⟨rfl, L4⟩
            have hc4 := L4.cell
            clear hc3
            go_wp2_with fail
            refine (set_lk L4 (nx + 4) 0 (by omega) (by omega)).mono ?_
            rintro e w5 ⟨rfl, L5⟩
            have hc5 := L5.cell
            clear hc4
            go_wp2_with fail
            refine (fill_lk L5 n 12 0 (by omega) (by omega) (by omega)).mono ?_
            rintro e w6 ⟨rfl, L6⟩
            go_wp2
            go_ret
            exact ⟨rfl, L6⟩)
      · by_cases hn0 : nx = 0
        · skip
          rw [if_neg hp0, if_pos hn0]
          have hpb : (pv != 0) = true := by rw [bne_iff_ne]; exact hp0
          clear hp0
          subst hn0
          go_enter Try.func13, Try.ntmps13
          go_wp2_with fail
          refine (check_lk L0.out).mono ?_
          rintro e w1 ⟨rfl, L1⟩
          rw [h1]
          have hc1 := L1.cell
          clear h1
          go_wp2_with fail
          refine (get_lk L1 (n + 8)).mono ?_
          rintro e w2 ⟨rfl, L2⟩
          rw [h2]
          have hc2 := L2.cell
          clear hc1 L1 h2 hc0
          have hwn : IntKind.i64.wrap n = n := by rw [IntKind.wrap_i64]; omega
          have hwn4 : IntKind.i64.wrap (n + 4) = n + 4 := by rw [IntKind.wrap_i64]; omega
          have LD := L2.drew
          have hcd := LD.cell
          go_wp2_with fail
          go_region_with (go_at_call 29; refine (get_lk (by with_reducible assumption) _).mono ?_; rintro e w' ⟨rfl, L'⟩; (first | rw [HNX.out] | rw [HPV.out]); have hc' := L'.cell)
          all_goals (
            have HL3 := Lib.hid L'
            have hc3 := L'.cell
            clear L' LD L2 hcd hc2 hwn hwn4
            go_wp2_with fail
            refine (set_lk HL3.out pv 0 (by omega) (by omega)).mono ?_
            rintro e w4 ⟨rfl, L4⟩
            have hc4 := L4.cell
            clear hc3
            go_wp2_with fail
            refine (set_lk L4 (h + 4) pv (by omega) (by omega)).mono ?_
            rintro e w5 ⟨rfl, L5⟩
            have hc5 := L5.cell
            clear hc4
            go_wp2_with fail
            refine (fill_lk L5 n 12 0 (by omega) (by omega) (by omega)).mono ?_
            rintro e w6 ⟨rfl, L6⟩
            go_wp2
            go_ret
            exact ⟨rfl, L6⟩)
        · skip
          rw [if_neg hp0, if_neg hn0]
          have hpb : (pv != 0) = true := by rw [bne_iff_ne]; exact hp0
          clear hp0
          have hnb : (nx != 0) = true := by rw [bne_iff_ne]; exact hn0
          clear hn0
          go_enter Try.func13, Try.ntmps13
          go_wp2_with fail
          refine (check_lk L0.out).mono ?_
          rintro e w1 ⟨rfl, L1⟩
          rw [h1]
          have hc1 := L1.cell
          clear h1
          go_wp2_with fail
          refine (get_lk L1 (n + 8)).mono ?_
          rintro e w2 ⟨rfl, L2⟩
          rw [h2]
          have hc2 := L2.cell
          clear hc1 L1 h2 hc0
          have hwn : IntKind.i64.wrap n = n := by rw [IntKind.wrap_i64]; omega
          have hwn4 : IntKind.i64.wrap (n + 4) = n + 4 := by rw [IntKind.wrap_i64]; omega
          have LD := L2.drew
          have hcd := LD.cell
          go_wp2_with fail
          go_region_with (go_at_call 29; refine (get_lk (by with_reducible assumption) _).mono ?_; rintro e w' ⟨rfl, L'⟩; (first | rw [HNX.out] | rw [HPV.out]); have hc' := L'.cell)
          all_goals (
            have HL3 := Lib.hid L'
            have hc3 := L'.cell
            clear L' LD L2 hcd hc2 hwn hwn4
            go_wp2_with fail
            refine (set_lk HL3.out pv nx (by omega) (by omega)).mono ?_
            rintro e w4 ⟨rfl, L4⟩
            have hc4 := L4.cell
            clear hc3
            go_wp2_with fail
            refine (set_lk L4 (nx + 4) pv (by omega) (by omega)).mono ?_
            rintro e w5 ⟨rfl, L5⟩
            have hc5 := L5.cell
            clear hc4
            go_wp2_with fail
            refine (fill_lk L5 n 12 0 (by omega) (by omega) (by omega)).mono ?_
            rintro e w6 ⟨rfl, L6⟩
            go_wp2
            go_ret
            exact ⟨rfl, L6⟩)
    · rw [if_neg h2, if_neg (by omega)]
      have h2' : (gt bs (n + 8) != h) = true := by rw [bne_iff_ne]; exact h2
      go_enter Try.func13, Try.ntmps13
      go_wp2_with fail
      refine (check_lk L0.out).mono ?_
      rintro e w1 ⟨rfl, L1⟩
      rw [h1]
      have hc1 := L1.cell
      clear h1
      go_wp2_with fail
      refine (get_lk L1 (n + 8)).mono ?_
      rintro e w2 ⟨rfl, L2⟩
      go_wp2
      go_ret
      exact ⟨rfl, L2⟩
  · have h4 : chk bs h n = 4 := by unfold chk at h1 ⊢; split at h1 <;> simp_all
    rw [if_neg h1, if_neg (by omega)]
    go_enter Try.func13, Try.ntmps13
    go_wp2_with fail
    refine (check_lk L0.out).mono ?_
    rintro e w1 ⟨rfl, L1⟩
    rw [h4]
    clear h1 h4
    go_wp2
    go_ret
    exact ⟨rfl, L1⟩

/-- What Pop answers, and leaves. -/
def endL (bs : List Int) (h : Int) (front : Bool) : Int := gt bs (h + if front then 0 else 4)
def popE (bs : List Int) (h : Int) (front : Bool) : Int := if inn bs h 8 then (if endL bs h front = 0 then 6 else removeE bs h (endL bs h front)) else 4
def popN (bs : List Int) (h : Int) (front : Bool) : Int := if inn bs h 8 then endL bs h front else 0
def popB (bs : List Int) (h : Int) (front : Bool) : List Int := if inn bs h 8 then (if endL bs h front = 0 then bs else removeB bs h (endL bs h front)) else bs
theorem Pop_any (h : Int) (front : Bool) (w : World) (hA : Ar w p d bs) :
    Calls Try.prog 15 #[.pointer (some ⟨p, 0, none⟩), .int .i64 h, .bool front] w fun e w' =>
      e = .returned (.tuple #[.int .i64 (popN bs h front), .int .i64 (popE bs h front)]) ∧ Ar w' p d (popB bs h front) ∧ w.grownBy w' (some d) := by
  have HA := Lib.hid hA
  clear hA
  unfold popN popE popB
  cases h1 : inn bs h 8
  · go_enter Try.func15, Try.ntmps15
    go_wp2_with fail
    refine (End_any h front _ HA.out).mono ?_
    rintro e w1 ⟨rfl, L1⟩
    rw [h1]
    go_wp2
    go_ret2
    exact ⟨rfl, L1.ar, L1.gr⟩
  · obtain ⟨x, hx⟩ : ∃ x, endL bs h front = x := ⟨_, rfl⟩
    have HX := Lib.hid hx
    unfold endL at hx
    rw [HX.out]
    by_cases h0 : x = 0
    · subst h0
      go_enter Try.func15, Try.ntmps15
      go_wp2_with fail
      refine (End_any h front _ HA.out).mono ?_
      rintro e w1 ⟨rfl, L1⟩
      rw [h1, hx]
      go_wp2
      go_ret2
      exact ⟨rfl, L1.ar, L1.gr⟩
    · have h0' : (x == 0) = false := beq_eq_false_iff_ne.2 h0
      simp only [if_true, if_neg h0]
      clear h0
      go_enter Try.func15, Try.ntmps15
      go_wp2_with fail
      refine (End_any h front _ HA.out).mono ?_
      rintro e w1 ⟨rfl, L1⟩
      rw [h1, hx]
      have HL1 := Lib.hid L1
      clear L1
      go_wp2_with fail
      refine (Remove_any h x _ HL1.out.ar).mono ?_
      rintro e w2 ⟨rfl, L2⟩
      have HL2 := Lib.hid L2
      clear L2
      go_wp2
      go_ret2
      exact ⟨rfl, HL2.out.ar, HL1.out.gr.trans HL2.out.gr⟩
end
end Go.Proofs.Ytajbfjmbohkphaa
