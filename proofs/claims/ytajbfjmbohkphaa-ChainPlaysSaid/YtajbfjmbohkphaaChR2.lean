/- The law ChainPlays: alike. -/
import Derived.Test.YtajbfjmbohkphaaChR1
set_option linter.unusedVariables false
set_option linter.unusedSimpArgs false
namespace Go.Proofs.Ytajbfjmbohkphaa.Ref
open Go.RowKit Go.Proofs.YtajbfjmbohkphaaW.PrintWords Go.Proofs.Ytajbfjmbohkphaa.PChainPlays
open Go.Proofs.Ytajbfjmbohkphaa (Cs hA nA isH_hA isN_nA head_calls node_calls All_cs End_cs Owner_cs Next_in Next_free ownr endN nums isH isN isH8 isH16 isH24)

theorem ownr_mem {ls : Int → List Int} {n : Int} (h : ownr ls n ≠ 0) : isH (ownr ls n) ∧ n ∈ ls (ownr ls n) := by
  unfold Go.Proofs.Ytajbfjmbohkphaa.ownr at h ⊢
  by_cases h1 : n ∈ ls 8
  · rw [if_pos h1]; exact ⟨isH8, h1⟩
  by_cases h2 : n ∈ ls 16
  · rw [if_neg h1, if_pos h2]; exact ⟨isH16, h2⟩
  by_cases h3 : n ∈ ls 24
  · rw [if_neg h1, if_neg h2, if_pos h3]; exact ⟨isH24, h3⟩
  · rw [if_neg h1, if_neg h2, if_neg h3] at h; exact absurd rfl h
theorem split_at {L : List Int} {n : Int} (h : n ∈ L) (hn : L.Nodup) : ∃ X Y, L = X ++ n :: Y ∧ n ∉ X := by
  obtain ⟨X, Y, rfl⟩ := List.append_of_mem h
  refine ⟨X, Y, rfl, fun hx => ?_⟩
  rw [List.nodup_append] at hn
  exact hn.2.2 n hx n (List.mem_cons_self ..) rfl
theorem Next_both {w0 w : World} {p d : Nat} {ls : Int → List Int} (S : Cs w0 w p d ls) {n : Int} (hn : isN n) (front : Bool) :
    Calls Try.prog 25 #[.pointer (some ⟨p, 0, none⟩), .int .i64 n, .bool front] w fun e w' => ∃ x : Int,
      e = .returned (.tuple #[.int .i64 x, .int .i64 0]) ∧ Cs w0 w' p d ls ∧ w.grownBy w' (some d) ∧ turnbuckleref10_Next.f 40 H3 (O3 ls) n front = some x := by
  by_cases ho : ownr ls n = 0
  · refine (Next_free S hn ho front).mono ?_
    rintro e w' ⟨he, hS, hg⟩
    exact ⟨0, he, hS, hg, Next_free_eq (few_of S) ho front 40 (by omega)⟩
  · obtain ⟨hh, hm⟩ := ownr_mem ho
    obtain ⟨X, Y, hL, hX⟩ := split_at hm (S.nodup hh)
    refine (Next_in S hh hL front).mono ?_
    rintro e w' ⟨he, hS, hg⟩
    exact ⟨_, he, hS, hg, Next_in_eq (few_of S) hh rfl hL hX front 40 (by omega)⟩

set_option maxRecDepth 100000 in
set_option maxHeartbeats 4000000 in
theorem alike_calls {w0 w : World} {p d g : Nat} {hv ov : Value} {ls : Int → List Int} (S : Cs w0 w p d ls) (L : Lx w0 w p d g hv ov ls) :
    Calls Try.prog 22 #[.pointer (some ⟨p, 0, none⟩), .agg #[hv, ov]] w fun e w' => e = .returned (.bool true) ∧ Cs w0 w' p d ls ∧ Kd1 w w' d := by
  obtain ⟨A0, c0, rfl, hc0, _⟩ := Kd.R_reads L.r
  obtain ⟨A1, c1, rfl⟩ := Kd.V_slice L.v
  have HF := Lib.hid (few_of S)
  have HS := Lib.hid S
  have HL := Lib.hid L
  have hdw := S.new.2.1
  clear S L
  go_enter Try.func22, Try.ntmps22
  go_wp2_with fail
  have hBa : Below w.heap.size w (w.alloc (.cells #[.slice A0 H3.length c0, .slice A1 (O3 ls).length c1] 42)) := (Below.refl _ _).alloc (Nat.le_refl _) _
  have HXa : Hid (Xl (w.alloc (.cells #[.slice A0 H3.length c0, .slice A1 (O3 ls).length c1] 42)) w.heap.size (.slice A0 H3.length c0) (.slice A1 (O3 ls).length c1)) := Lib.hid (heap_alloc_new w _)
  have HSa := Lib.hid (HS.out.then_ hBa)
  have HLa := Lib.hid (HL.out.below hBa)
  have HKa : Hid (Kd1 w (w.alloc (.cells #[.slice A0 H3.length c0, .slice A1 (O3 ls).length c1] 42)) d) := Lib.hid (kd_below hBa)
  have HGD : Hid (w.heap.size ≠ d) := Lib.hid (by omega)
  clear hBa HS HL hdw
  generalize w.alloc (.cells #[.slice A0 H3.length c0, .slice A1 (O3 ls).length c1] 42) = wa at *
  generalize w.heap.size = gb at *
  go_loopw [5] (fun v wr => ∃ q : Nat, q ≤ 3 ∧ v = .int .i64 (q : Int) ∧ Cs w0 wr p d ls ∧ Kd1 wa wr d) (fun v _ => 3 - (intOf v).toNat)
  case atStart => exact ⟨0, by omega, rfl, HSa.out, ⟨Nat.le_refl _, fun _ _ _ => rfl⟩⟩
  case round =>
    obtain ⟨q, hq, rfl, hS, hK⟩ := hrel
    have HSr := Lib.hid hS
    have HKr := Lib.hid hK
    clear hS hK HSa
    by_cases hq3 : q < 3
    · have hw8 : IntKind.u8.wrap (q : Int) = (q : Int) := by rw [IntKind.wrap_u8]; omega
      have hqi : (q : Int) < 3 := by omega
      go_wp2_with fail
      refine (head_calls (q : Int) (by omega) (by omega) _).mono ?_
      rintro e w1 ⟨rfl, rfl⟩
      have hh := isH_hA (q : Int)
      have HH := Lib.hid hh
      clear hh
      generalize hA (q : Int) = h at *
      go_wp2_with fail
      refine (All_cs HSr.out HH.out).mono ?_
      rintro e w2 ⟨v2, rfl, hrow, S2, hg2⟩
      have HK2 := Lib.hid (HKr.out.trans (kd_grown hg2))
      have HS2 := Lib.hid S2
      have hdl := HSr.out.new.2.1
      have HR2 : Hid (Kd.R (Kd.int .i64) 3 w2 wr.heap.size (fun k => k ≠ d) v2 (ls h)) := Lib.hid (Kd.R_of_own hrow (fun k hk => by have := (hrow.lt k hk).1; omega))
      clear S2 hg2 hrow hdl
      go_wp2_with fail
      refine (End_cs HS2.out HH.out true).mono ?_
      rintro e w3 ⟨rfl, S3, hg3⟩
      have HK3 := Lib.hid (HK2.out.trans (kd_grown hg3))
      have HR3 := Lib.hid (Kd.R_kept HR2.out (kd_grown hg3) (fun k hk e => hk e))
      have HS3 := Lib.hid S3
      clear S3 hg3 HR2 HS2 HK2
      go_wp2_with fail
      refine (End_cs HS3.out HH.out false).mono ?_
      rintro e w4 ⟨rfl, S4, hg4⟩
      have HK4 := Lib.hid (HK3.out.trans (kd_grown hg4))
      have HR4 := Lib.hid (Kd.R_kept HR3.out (kd_grown hg4) (fun k hk e => hk e))
      have HS4 := Lib.hid S4
      clear S4 hg4 HR3 HS3 HK3
      have HL4 := Lib.hid (HLa.out.kept HK4.out)
      have HX4 := Lib.hid (HXa.out.kept HK4.out HGD.out)
      have hx0 := HX4.out.c0
      have hx1 := HX4.out.c1
      have hr0 := Kd.R_reads' HL4.out.r
      go_wp2_with fail
      refine (turnbuckleref10_Of.calls 40 A0 c0 H3 _ A1 c1 (O3 ls) h (ls h) _ hr0.2.2 hr0.2.1 HL4.out.v (Of_eq HH.out 40 (by omega))).mono ?_
      rintro e w5 ⟨v5, rfl, hV5, hB5⟩
      have HK5 := Lib.hid (HK4.out.trans (kd_below hB5))
      have HS5 := Lib.hid (HS4.out.then_ hB5)
      have HR5 := Lib.hid (Kd.R_below HR4.out hB5)
      have HL5 := Lib.hid (HL4.out.below hB5)
      have HX5 := Lib.hid (HX4.out.kept (kd_below hB5) HGD.out)
      obtain ⟨A5, c5, hv5⟩ := Kd.V_slice hV5
      subst hv5
      have hr5 := Kd.V_reads' hV5
      obtain ⟨A2, c2, hv2, hc2, hC2⟩ := Kd.R_reads HR5.out
      subst hv2
      clear hV5 hB5 HK4 HS4 HR4 HL4 HX4 hx0 hx1 hr0
      go_wp2_with fail
      refine (turnbuckleref04_Same.calls 40 A2 c2 (ls h) A5 c5 (ls h) true _ hC2 hc2 hr5.2.2 hr5.2.1 (Same_eq (ls h) 40 (by have := HF.out.len h HH.out; omega) (by have := HF.out.len h HH.out; omega))).mono ?_
      rintro e w6 ⟨rfl, hD6⟩
      have HK6 := Lib.hid (HK5.out.trans (kd_below hD6.below))
      have HS6 := Lib.hid (HS5.out.then_ hD6.below)
      have HL6 := Lib.hid (HL5.out.below hD6.below)
      have HX6 := Lib.hid (HX5.out.kept (kd_below hD6.below) HGD.out)
      clear hD6 HK5 HS5 HR5 HL5 HX5 hr5 hC2 hc2
      have hx0 := HX6.out.c0
      have hx1 := HX6.out.c1
      have hr0 := Kd.R_reads' HL6.out.r
      have hr1 := Kd.V_reads' HL6.out.v
      go_wp2_with fail
      refine (turnbuckleref10_End.calls 40 A0 c0 H3 A1 c1 (O3 ls) h true (endN (ls h) true) _ hr0.2.2 hr0.2.1 hr1.2.2 hr1.2.1 (End_eq HF.out HH.out true 40 (by omega))).mono ?_
      rintro e w7 ⟨rfl, hB7⟩
      have HK7 := Lib.hid (HK6.out.trans (kd_below hB7))
      have HS7 := Lib.hid (HS6.out.then_ hB7)
      have HL7 := Lib.hid (HL6.out.below hB7)
      have HX7 := Lib.hid (HX6.out.kept (kd_below hB7) HGD.out)
      clear hB7 HK6 HS6 HL6 HX6 hx0 hx1 hr0 hr1
      have hx0 := HX7.out.c0
      have hx1 := HX7.out.c1
      have hr0 := Kd.R_reads' HL7.out.r
      have hr1 := Kd.V_reads' HL7.out.v
      go_wp2_with fail
      refine (turnbuckleref10_End.calls 40 A0 c0 H3 A1 c1 (O3 ls) h false (endN (ls h) false) _ hr0.2.2 hr0.2.1 hr1.2.2 hr1.2.1 (End_eq HF.out HH.out false 40 (by omega))).mono ?_
      rintro e w8 ⟨rfl, hB8⟩
      have HK8 := Lib.hid (HK7.out.trans (kd_below hB8))
      have HS8 := Lib.hid (HS7.out.then_ hB8)
      clear hB8 HK7 HS7 HL7 HX7 hx0 hx1 hr0 hr1
      go_wp2
      go_roundw
      case rel => exact ⟨q + 1, by omega, by go_num, HS8.out, HK8.out⟩
      case measure => simp [intOf]; omega
    · obtain rfl : q = 3 := by omega
      clear hq3 hq
      go_wp2_with fail
      obtain ⟨wo, rfl⟩ : ∃ wo : World, wo = wr := ⟨_, rfl⟩
      go_loopw [13] (fun v wr => ∃ q : Nat, q ≤ 14 ∧ v = .int .i64 (q : Int) ∧ Cs w0 wr p d ls ∧ Kd1 wa wr d) (fun v _ => 14 - (intOf v).toNat)
      case atStart => exact ⟨0, by omega, rfl, HSr.out, HKr.out⟩
      case round =>
        obtain ⟨q, hq, rfl, hS, hK⟩ := hrel
        have HSq := Lib.hid hS
        have HKq := Lib.hid hK
        clear hS hK HSr HKr
        by_cases hq3 : q < 14
        · have hw8 : IntKind.u8.wrap (q : Int) = (q : Int) := by rw [IntKind.wrap_u8]; omega
          have hqi : (q : Int) < 14 := by omega
          go_wp2_with fail
          refine (node_calls (q : Int) (by omega) (by omega) _).mono ?_
          rintro e w1 ⟨rfl, rfl⟩
          have hh := isN_nA (q : Int)
          have HN := Lib.hid hh
          clear hh
          generalize nA (q : Int) = n at *
          go_wp2_with fail
          refine (Owner_cs HSq.out HN.out).mono ?_
          rintro e w2 ⟨rfl, S2, hg2⟩
          have HK2 := Lib.hid (HKq.out.trans (kd_grown hg2))
          have HS2 := Lib.hid S2
          clear S2 hg2
          go_wp2_with fail
          refine (Next_both HS2.out HN.out true).mono ?_
          rintro e w3 ⟨x3, rfl, S3, hg3, href3⟩
          have HK3 := Lib.hid (HK2.out.trans (kd_grown hg3))
          have HS3 := Lib.hid S3
          have HE3 := Lib.hid href3
          clear S3 hg3 HS2 HK2 href3
          go_wp2_with fail
          refine (Next_both HS3.out HN.out false).mono ?_
          rintro e w4 ⟨x4, rfl, S4, hg4, href4⟩
          have HK4 := Lib.hid (HK3.out.trans (kd_grown hg4))
          have HS4 := Lib.hid S4
          have HE4 := Lib.hid href4
          clear S4 hg4 HS3 HK3 href4
          have HL4 := Lib.hid (HLa.out.kept HK4.out)
          have HX4 := Lib.hid (HXa.out.kept HK4.out HGD.out)
          have hx0 := HX4.out.c0
          have hx1 := HX4.out.c1
          have hr0 := Kd.R_reads' HL4.out.r
          have hr1 := Kd.V_reads' HL4.out.v
          go_wp2_with fail
          refine (turnbuckleref10_Owner.calls 40 A0 c0 H3 A1 c1 (O3 ls) n (ownr ls n) _ hr0.2.2 hr0.2.1 hr1.2.2 hr1.2.1 (Owner_eq HF.out n 40 (by omega))).mono ?_
          rintro e w6 ⟨rfl, hB6⟩
          have HK6 := Lib.hid (HK4.out.trans (kd_below hB6))
          have HS6 := Lib.hid (HS4.out.then_ hB6)
          have HL6 := Lib.hid (HL4.out.below hB6)
          have HX6 := Lib.hid (HX4.out.kept (kd_below hB6) HGD.out)
          clear hB6 HK4 HS4 HL4 HX4 hx0 hx1 hr0 hr1
          have hx0 := HX6.out.c0
          have hx1 := HX6.out.c1
          have hr0 := Kd.R_reads' HL6.out.r
          have hr1 := Kd.V_reads' HL6.out.v
          go_wp2_with fail
          refine (turnbuckleref10_Next.calls 40 A0 c0 H3 A1 c1 (O3 ls) n true x3 _ hr0.2.2 hr0.2.1 hr1.2.2 hr1.2.1 HE3.out).mono ?_
          rintro e w7 ⟨rfl, hB7⟩
          have HK7 := Lib.hid (HK6.out.trans (kd_below hB7))
          have HS7 := Lib.hid (HS6.out.then_ hB7)
          have HL7 := Lib.hid (HL6.out.below hB7)
          have HX7 := Lib.hid (HX6.out.kept (kd_below hB7) HGD.out)
          clear hB7 HK6 HS6 HL6 HX6 hx0 hx1 hr0 hr1
          have hx0 := HX7.out.c0
          have hx1 := HX7.out.c1
          have hr0 := Kd.R_reads' HL7.out.r
          have hr1 := Kd.V_reads' HL7.out.v
          go_wp2_with fail
          refine (turnbuckleref10_Next.calls 40 A0 c0 H3 A1 c1 (O3 ls) n false x4 _ hr0.2.2 hr0.2.1 hr1.2.2 hr1.2.1 HE4.out).mono ?_
          rintro e w8 ⟨rfl, hB8⟩
          have HK8 := Lib.hid (HK7.out.trans (kd_below hB8))
          have HS8 := Lib.hid (HS7.out.then_ hB8)
          clear hB8 HK7 HS7 HL7 HX7 hx0 hx1 hr0 hr1
          go_wp2
          go_roundw
          case rel => first | exact ⟨q + 1, by omega, by go_num, HS8.out, HK8.out⟩ | ((repeat apply Exists.intro); exact ⟨⟨q + 1, by omega, by go_num, HS8.out, HK8.out⟩, rfl⟩)
          case measure => simp [intOf]; omega
        · obtain rfl : q = 14 := by omega
          clear hq3 hq
          go_wp2
          go_ret
          exact ⟨rfl, HSq.out, HKa.out.trans HKq.out⟩
end Go.Proofs.Ytajbfjmbohkphaa.Ref
