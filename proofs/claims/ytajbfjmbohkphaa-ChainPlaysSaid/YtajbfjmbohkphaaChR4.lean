/- The law ChainPlays: the walk. -/
import Derived.Test.YtajbfjmbohkphaaChR3
import Derived.Deep.RegionHeld3
set_option linter.unusedVariables false
set_option linter.unusedSimpArgs false
namespace Go.Proofs.Ytajbfjmbohkphaa.Ref
open Go.RowKit Go.Proofs.YtajbfjmbohkphaaW.PrintWords Go.Proofs.Ytajbfjmbohkphaa.PChainPlays
open Go.Proofs.Ytajbfjmbohkphaa (Cs hA nA isH_hA isN_nA head_calls node_calls Push_cs Pop_cs Remove_cs fresh_cs shown_calls ownr endN nums isH isN Deeds pushLs remLs)

set_option maxRecDepth 100000 in
set_option maxHeartbeats 4000000 in
theorem ChainPlays_calls (A : Option Addr) (len cap : Nat) (fk fh fn : Nat → Int) (w : World) (hlen : len ≤ 9223372036854775807) (hD : Deeds w A len fk fh fn) :
    Calls Try.prog 5 #[.slice A len cap] w fun e w' => e = .returned (.bool true) ∧ Go.Proofs.Ytajbfjmbohkphaa.Kept w w' := by
  have HD := Lib.hid hD
  clear hD
  go_enter Try.func5, Try.ntmps5
  go_wp2_with fail
  refine (shown_calls _).mono ?_
  rintro e w1 ⟨rfl, K1⟩
  go_wp2_with fail
  refine (fresh_cs K1).mono ?_
  rintro e w2 ⟨p, d, rfl, S2⟩
  have hBl : Below w2.heap.size w2 (w2.alloc (.cells #[.int .i64 8, .int .i64 16, .int .i64 24] 3)) := (Below.refl _ _).alloc (Nat.le_refl _) _
  have S3 := S2.then_ hBl
  have hn2 := S2.new
  have hpd2 : w.heap.size ≤ w2.heap.size := S2.kept.below.size
  have hrow := World.ownsRow_lit w2 #[Value.int .i64 8, .int .i64 16, .int .i64 24] 3 (e := 3) (base := w.heap.size) (size := 1) hpd2 (by unfold maxLen; omega) (by rfl)
  have hR3 : Kd.R (Kd.int .i64) 3 (w2.alloc (.cells #[.int .i64 8, .int .i64 16, .int .i64 24] 3)) w.heap.size (fun k => k ≠ p ∧ k ≠ d) (.slice (some ⟨w2.heap.size, 0, none⟩) 3 3) H3 := Kd.R_of_own hrow (fun k hk => by
    simp [Value.ownBlock] at hk
    omega)
  have HS3 := Lib.hid S3
  have HR3 := Lib.hid hR3
  clear hBl S3 S2 hR3 hrow hpd2 K1 hn2
  go_wp2_with fail
  refine (turnbuckleref10_Make.calls (fun k => k ≠ p ∧ k ≠ d) (.slice (some ⟨w2.heap.size, 0, none⟩) 3 3) H3 H3 (O3 (fun _ => [])) w _ HS3.out.kept.below HR3.out Make_eq).mono ?_
  rintro e w4 ⟨v0, v1, rfl, hr4, hn4, hb4, hk4⟩
  obtain ⟨A0, c0, hv0⟩ := Kd.R_slice hr4
  subst hv0
  obtain ⟨A1, c1, hv1⟩ := Kd.N_slice hn4
  subst hv1
  have S4 := Cs_kept HS3.out hb4 hk4 (fun e => e.1 rfl) (fun e => e.2 rfl)
  have hn3 := HS3.out.new
  have hn4' := S4.new
  have hsz := hb4.size
  have hBa : Below w4.heap.size w4 (w4.alloc (.cells #[.slice A0 H3.length c0, .slice A1 (O3 (fun _ => [])).length c1] 42)) := (Below.refl _ _).alloc (Nat.le_refl _) _
  have HS5 := Lib.hid (S4.then_ hBa)
  have hP : ∀ k, (k ≠ p ∧ k ≠ d ∨ (w2.alloc (.cells #[.int .i64 8, .int .i64 16, .int .i64 24] 3)).heap.size ≤ k) → k < w4.heap.size → k ≠ p ∧ k ≠ d ∧ k ≠ w4.heap.size := fun k hk hl => by
    rcases hk with hk | hk
    · exact ⟨hk.1, hk.2, by omega⟩
    · omega
  have HRd : Hid (Rd w (w4.alloc (.cells #[.slice A0 H3.length c0, .slice A1 (O3 (fun _ => [])).length c1] 42)) p d w4.heap.size (.slice A0 H3.length c0) (.slice A1 (O3 (fun _ => [])).length c1) (fun _ => [])) := Lib.hid
    ⟨⟨Kd.R_below (Kd.R_mono (Kd.R_bound hr4) (fun k hk => hP k hk.1 hk.2.2.1)) hBa, Kd.V_below (Kd.V_mono (Kd.N_V (base' := w.heap.size) (Kd.N_bound hn4)) (fun k hk => ⟨hP k hk.1.1 hk.2, hk.1.2⟩)) hBa⟩, heap_alloc_new w4 _, ⟨by omega, by omega, hsz⟩⟩
  have HW : Hid (w.heap.size ≤ w4.heap.size) := Lib.hid hsz
  clear hr4 hn4 hb4 hk4 S4 hn3 hn4' hsz hBa hP HS3 HR3
  go_wp2_with fail
  generalize w4.alloc (.cells #[.slice A0 H3.length c0, .slice A1 (O3 (fun _ => [])).length c1] 42) = wa at *
  generalize w4.heap.size = g at *
  go_loopg [6] 80 (fun gq i wr => ∃ (k : Nat) (hv ov : Value) (ls : Int → List Int), k ≤ 80 ∧ gq = 80 - k ∧ i = .int .i64 (k : Int) ∧ Cs w wr p d ls ∧ Rd w wr p d g hv ov ls)
  case atStart => exact ⟨0, _, _, _, by omega, by omega, rfl, HS5.out, HRd.out⟩
  case round =>
    clear HS5 HRd
    obtain ⟨k, hv, ov, ls, hk, rfl, rfl, hS, hRd⟩ := hrel
    have HS := Lib.hid hS
    have HRd := Lib.hid hRd
    clear hS hRd
    by_cases hlt : k < len ∧ k < 80
    · obtain ⟨hlt1, hlt2⟩ := hlt
      obtain ⟨ad, rfl, hck, hch, hcn, ⟨bh0, bh1⟩, ⟨bn0, bn1⟩, _⟩ := (HD.out.below HS.out.kept.below).at_ k hlt1
      have HCK : Hid (∀ w', Go.Proofs.Ytajbfjmbohkphaa.Kept w w' → w'.cell? (ad.add (k * 3)) = some (.int .i64 (fk k))) := Lib.hid (fun w' hK => by
        obtain ⟨ad', ead, h1, _⟩ := (HD.out.below hK.below).at_ k hlt1
        obtain rfl : ad = ad' := by injection ead
        exact h1)
      generalize fk k = K at *
      generalize fh k = H at *
      generalize fn k = nn at *
      have hl2 : (k : Int) < (len : Int) := by omega
      have hl3 : (k : Int) < 80 := by omega
      have HF := Lib.hid (few_of HS.out)
      obtain ⟨A0, c0, hv0⟩ := Kd.R_slice HRd.out.lx.r
      subst hv0
      obtain ⟨A1, c1, hv1⟩ := Kd.V_slice HRd.out.lx.v
      subst hv1
      have HH := Lib.hid (isH_hA H)
      have HN := Lib.hid (isN_nA nn)
      go_wp2_with fail
      refine (head_calls H bh0 bh1 _).mono ?_
      rintro e w1 ⟨rfl, rfl⟩
      go_wp2_with fail
      refine (node_calls nn bn0 bn1 _).mono ?_
      rintro e w1 ⟨rfl, rfl⟩
      generalize hA H = h at *
      generalize nA nn = n at *
      by_cases h0 : K = 0
      · subst h0
        obtain ⟨c, hc⟩ : ∃ c : Int, (if ownr ls n = 0 then (0 : Int) else 8) = c := ⟨_, rfl⟩
        have hI := Push_cs HS.out HH.out HN.out true
        have hE := Push_eq HF.out HH.out n true 40 (by omega)
        rw [hc] at hI hE
        have HE := Lib.hid hE
        clear hc hE
        go_wp2_with fail
        refine hI.mono ?_
        rintro e w3 ⟨rfl, S3, hg3⟩
        have HS3 := Lib.hid S3
        have HRd3 := Lib.hid (HRd.out.kept (kd_grown hg3))
        clear hI S3 hg3 hck
        have hck := HCK.out _ HS3.out.kept
        have hx0 := HRd3.out.xl.c0
        have hx1 := HRd3.out.xl.c1
        go_upto_region 19 with fail
        have hBd : Below w3.heap.size w3 w3.drew := (Below.refl _ _).drew
        have HS4 : Hid (Cs w w3.drew p d (pushLs ls h n true)) := Lib.hid (HS3.out.then_ hBd)
        have HRd4 : Hid (Rd w w3.drew p d g (.slice A0 H3.length c0) (.slice A1 (O3 ls).length c1) ls) := Lib.hid (HRd3.out.kept (kd_below hBd))
        go_region_with (go_simp; go_at_call 19; refine (turnbuckleref10_Push.calls 40 (fun k => k ≠ p ∧ k ≠ d ∧ k ≠ g) _ H3 (fun k => k ≠ p ∧ k ≠ d ∧ k ≠ g) A1 c1 (O3 ls) h n true H3 (O3 (pushLs ls h n true)) c w _ HS4.out.kept.below HRd4.out.lx.r HRd4.out.lx.v HE.out).mono ?_; rintro e w5 ⟨u0, u1, rfl, hr5, hv5, hb5, hk5⟩; obtain ⟨B0, b0, hu0⟩ := Kd.R_slice hr5; subst hu0; obtain ⟨B1, b1, hu1⟩ := Kd.V_slice hv5; subst hu1; have hX5 : Xl w5 g (.slice A0 H3.length c0) (.slice A1 (O3 ls).length c1) := (hk5.2 g HRd4.out.xl.lt (fun e => e.2.2 rfl)).trans HRd4.out.xl; have hy0 := hX5.c0; have hy1 := hX5.c1; have hf0 := blk_frozen hX5 0; have hf1 := blk_frozen hX5 1)
        all_goals
          have hst := HRd4.out.step HS4.out hr5 hv5 hb5 hk5
          have HS5 := Lib.hid hst.2
          have HRd5 := Lib.hid hst.1
          have hz0 := HRd5.out.xl.c0
          have hz1 := HRd5.out.xl.c1
          clear hst hr5 hv5 hb5 hk5 hX5 hx0 hx1
          go_wp2_with fail
          refine (alike_calls HS5.out HRd5.out.lx).mono ?_
          rintro e w7 ⟨rfl, S7, hK7⟩
          have HS7 := Lib.hid S7
          have HRd7 := Lib.hid (HRd5.out.kept hK7)
          clear S7 hK7 hz0 hz1 hy0 hy1 hf0 hf1
          go_wp2
          go_roundg (80 - (k + 1))
          case measure => omega
          case rel => exact ⟨k + 1, _, _, _, by omega, rfl, by go_num, HS7.out, HRd7.out⟩
      by_cases h1 : K = 1
      · subst h1
        obtain ⟨c, hc⟩ : ∃ c : Int, (if ownr ls n = 0 then (0 : Int) else 8) = c := ⟨_, rfl⟩
        have hI := Push_cs HS.out HH.out HN.out false
        have hE := Push_eq HF.out HH.out n false 40 (by omega)
        rw [hc] at hI hE
        have HE := Lib.hid hE
        clear hc hE
        go_wp2_with fail
        refine hI.mono ?_
        rintro e w3 ⟨rfl, S3, hg3⟩
        have HS3 := Lib.hid S3
        have HRd3 := Lib.hid (HRd.out.kept (kd_grown hg3))
        clear hI S3 hg3 hck
        have hck := HCK.out _ HS3.out.kept
        have hx0 := HRd3.out.xl.c0
        have hx1 := HRd3.out.xl.c1
        go_upto_region 19 with fail
        have hBd : Below w3.heap.size w3 w3.drew := (Below.refl _ _).drew
        have HS4 : Hid (Cs w w3.drew p d (pushLs ls h n false)) := Lib.hid (HS3.out.then_ hBd)
        have HRd4 : Hid (Rd w w3.drew p d g (.slice A0 H3.length c0) (.slice A1 (O3 ls).length c1) ls) := Lib.hid (HRd3.out.kept (kd_below hBd))
        go_region_with (go_simp; go_at_call 19; refine (turnbuckleref10_Push.calls 40 (fun k => k ≠ p ∧ k ≠ d ∧ k ≠ g) _ H3 (fun k => k ≠ p ∧ k ≠ d ∧ k ≠ g) A1 c1 (O3 ls) h n false H3 (O3 (pushLs ls h n false)) c w _ HS4.out.kept.below HRd4.out.lx.r HRd4.out.lx.v HE.out).mono ?_; rintro e w5 ⟨u0, u1, rfl, hr5, hv5, hb5, hk5⟩; obtain ⟨B0, b0, hu0⟩ := Kd.R_slice hr5; subst hu0; obtain ⟨B1, b1, hu1⟩ := Kd.V_slice hv5; subst hu1; have hX5 : Xl w5 g (.slice A0 H3.length c0) (.slice A1 (O3 ls).length c1) := (hk5.2 g HRd4.out.xl.lt (fun e => e.2.2 rfl)).trans HRd4.out.xl; have hy0 := hX5.c0; have hy1 := hX5.c1; have hf0 := blk_frozen hX5 0; have hf1 := blk_frozen hX5 1)
        all_goals
          have hst := HRd4.out.step HS4.out hr5 hv5 hb5 hk5
          have HS5 := Lib.hid hst.2
          have HRd5 := Lib.hid hst.1
          have hz0 := HRd5.out.xl.c0
          have hz1 := HRd5.out.xl.c1
          clear hst hr5 hv5 hb5 hk5 hX5 hx0 hx1
          go_wp2_with fail
          refine (alike_calls HS5.out HRd5.out.lx).mono ?_
          rintro e w7 ⟨rfl, S7, hK7⟩
          have HS7 := Lib.hid S7
          have HRd7 := Lib.hid (HRd5.out.kept hK7)
          clear S7 hK7 hz0 hz1 hy0 hy1 hf0 hf1
          go_wp2
          go_roundg (80 - (k + 1))
          case measure => omega
          case rel => exact ⟨k + 1, _, _, _, by omega, rfl, by go_num, HS7.out, HRd7.out⟩
      by_cases h2 : K = 2
      · subst h2
        obtain ⟨c, hc⟩ : ∃ c : Int, (if ls h = [] then (6 : Int) else 0) = c := ⟨_, rfl⟩
        have hI := Pop_cs HS.out HH.out true
        have hE := Pop_eq HF.out HH.out (fun x hx => (HS.out.node HH.out hx).1) true 40 (by omega)
        rw [hc] at hI hE
        have HE := Lib.hid hE
        clear hc hE
        go_wp2_with fail
        refine hI.mono ?_
        rintro e w3 ⟨rfl, S3, hg3⟩
        have HS3 := Lib.hid S3
        have HRd3 := Lib.hid (HRd.out.kept (kd_grown hg3))
        clear hI S3 hg3 hck
        have hck := HCK.out _ HS3.out.kept
        have hx0 := HRd3.out.xl.c0
        have hx1 := HRd3.out.xl.c1
        go_upto_region 23 with fail
        have hBd : Below w3.heap.size w3 w3.drew := (Below.refl _ _).drew
        have HS4 : Hid (Cs w w3.drew p d (remLs ls h (endN (ls h) true))) := Lib.hid (HS3.out.then_ hBd)
        have HRd4 : Hid (Rd w w3.drew p d g (.slice A0 H3.length c0) (.slice A1 (O3 ls).length c1) ls) := Lib.hid (HRd3.out.kept (kd_below hBd))
        go_region_with (go_simp; go_at_call 20; refine (turnbuckleref10_Pop.calls 40 (fun k => k ≠ p ∧ k ≠ d ∧ k ≠ g) _ H3 (fun k => k ≠ p ∧ k ≠ d ∧ k ≠ g) A1 c1 (O3 ls) h true H3 (O3 (remLs ls h (endN (ls h) true))) (endN (ls h) true) c w _ HS4.out.kept.below HRd4.out.lx.r HRd4.out.lx.v HE.out).mono ?_; rintro e w5 ⟨u0, u1, rfl, hr5, hv5, hb5, hk5⟩; obtain ⟨B0, b0, hu0⟩ := Kd.R_slice hr5; subst hu0; obtain ⟨B1, b1, hu1⟩ := Kd.V_slice hv5; subst hu1; have hX5 : Xl w5 g (.slice A0 H3.length c0) (.slice A1 (O3 ls).length c1) := (hk5.2 g HRd4.out.xl.lt (fun e => e.2.2 rfl)).trans HRd4.out.xl; have hy0 := hX5.c0; have hy1 := hX5.c1; have hf0 := blk_frozen hX5 0; have hf1 := blk_frozen hX5 1)
        all_goals
          have hst := HRd4.out.step HS4.out hr5 hv5 hb5 hk5
          have HS5 := Lib.hid hst.2
          have HRd5 := Lib.hid hst.1
          have hz0 := HRd5.out.xl.c0
          have hz1 := HRd5.out.xl.c1
          clear hst hr5 hv5 hb5 hk5 hX5 hx0 hx1
          go_wp2_with fail
          refine (alike_calls HS5.out HRd5.out.lx).mono ?_
          rintro e w7 ⟨rfl, S7, hK7⟩
          have HS7 := Lib.hid S7
          have HRd7 := Lib.hid (HRd5.out.kept hK7)
          clear S7 hK7 hz0 hz1 hy0 hy1 hf0 hf1
          go_wp2
          go_roundg (80 - (k + 1))
          case measure => omega
          case rel => exact ⟨k + 1, _, _, _, by omega, rfl, by go_num, HS7.out, HRd7.out⟩
      by_cases h3 : K = 3
      · subst h3
        obtain ⟨c, hc⟩ : ∃ c : Int, (if ls h = [] then (6 : Int) else 0) = c := ⟨_, rfl⟩
        have hI := Pop_cs HS.out HH.out false
        have hE := Pop_eq HF.out HH.out (fun x hx => (HS.out.node HH.out hx).1) false 40 (by omega)
        rw [hc] at hI hE
        have HE := Lib.hid hE
        clear hc hE
        go_wp2_with fail
        refine hI.mono ?_
        rintro e w3 ⟨rfl, S3, hg3⟩
        have HS3 := Lib.hid S3
        have HRd3 := Lib.hid (HRd.out.kept (kd_grown hg3))
        clear hI S3 hg3 hck
        have hck := HCK.out _ HS3.out.kept
        have hx0 := HRd3.out.xl.c0
        have hx1 := HRd3.out.xl.c1
        go_upto_region 23 with fail
        have hBd : Below w3.heap.size w3 w3.drew := (Below.refl _ _).drew
        have HS4 : Hid (Cs w w3.drew p d (remLs ls h (endN (ls h) false))) := Lib.hid (HS3.out.then_ hBd)
        have HRd4 : Hid (Rd w w3.drew p d g (.slice A0 H3.length c0) (.slice A1 (O3 ls).length c1) ls) := Lib.hid (HRd3.out.kept (kd_below hBd))
        go_region_with (go_simp; go_at_call 20; refine (turnbuckleref10_Pop.calls 40 (fun k => k ≠ p ∧ k ≠ d ∧ k ≠ g) _ H3 (fun k => k ≠ p ∧ k ≠ d ∧ k ≠ g) A1 c1 (O3 ls) h false H3 (O3 (remLs ls h (endN (ls h) false))) (endN (ls h) false) c w _ HS4.out.kept.below HRd4.out.lx.r HRd4.out.lx.v HE.out).mono ?_; rintro e w5 ⟨u0, u1, rfl, hr5, hv5, hb5, hk5⟩; obtain ⟨B0, b0, hu0⟩ := Kd.R_slice hr5; subst hu0; obtain ⟨B1, b1, hu1⟩ := Kd.V_slice hv5; subst hu1; have hX5 : Xl w5 g (.slice A0 H3.length c0) (.slice A1 (O3 ls).length c1) := (hk5.2 g HRd4.out.xl.lt (fun e => e.2.2 rfl)).trans HRd4.out.xl; have hy0 := hX5.c0; have hy1 := hX5.c1; have hf0 := blk_frozen hX5 0; have hf1 := blk_frozen hX5 1)
        all_goals
          have hst := HRd4.out.step HS4.out hr5 hv5 hb5 hk5
          have HS5 := Lib.hid hst.2
          have HRd5 := Lib.hid hst.1
          have hz0 := HRd5.out.xl.c0
          have hz1 := HRd5.out.xl.c1
          clear hst hr5 hv5 hb5 hk5 hX5 hx0 hx1
          go_wp2_with fail
          refine (alike_calls HS5.out HRd5.out.lx).mono ?_
          rintro e w7 ⟨rfl, S7, hK7⟩
          have HS7 := Lib.hid S7
          have HRd7 := Lib.hid (HRd5.out.kept hK7)
          clear S7 hK7 hz0 hz1 hy0 hy1 hf0 hf1
          go_wp2
          go_roundg (80 - (k + 1))
          case measure => omega
          case rel => exact ⟨k + 1, _, _, _, by omega, rfl, by go_num, HS7.out, HRd7.out⟩
      · have e0 : (K == 0) = false := beq_eq_false_iff_ne.2 h0
        have e1 : (K == 1) = false := beq_eq_false_iff_ne.2 h1
        have e2 : (K == 2) = false := beq_eq_false_iff_ne.2 h2
        have e3 : (K == 3) = false := beq_eq_false_iff_ne.2 h3
        clear h0 h1 h2 h3
        obtain ⟨c, hc⟩ : ∃ c : Int, (if n ∈ ls h then (0 : Int) else 8) = c := ⟨_, rfl⟩
        have hI := Remove_cs HS.out HH.out HN.out
        have hE := Remove_eq HF.out HH.out n 40 (by omega)
        rw [hc] at hI hE
        have HE := Lib.hid hE
        clear hc hE
        go_wp2_with fail
        refine hI.mono ?_
        rintro e w3 ⟨rfl, S3, hg3⟩
        have HS3 := Lib.hid S3
        have HRd3 := Lib.hid (HRd.out.kept (kd_grown hg3))
        clear hI S3 hg3 hck
        have hx0 := HRd3.out.xl.c0
        have hx1 := HRd3.out.xl.c1
        go_wp2_with fail
        refine (turnbuckleref10_Remove.calls 40 (fun k => k ≠ p ∧ k ≠ d ∧ k ≠ g) _ H3 (fun k => k ≠ p ∧ k ≠ d ∧ k ≠ g) A1 c1 (O3 ls) h n H3 (O3 (remLs ls h n)) c w _ HS3.out.kept.below HRd3.out.lx.r HRd3.out.lx.v HE.out).mono ?_
        rintro e w5 ⟨u0, u1, rfl, hr5, hv5, hb5, hk5⟩
        obtain ⟨B0, b0, hu0⟩ := Kd.R_slice hr5
        subst hu0
        obtain ⟨B1, b1, hu1⟩ := Kd.V_slice hv5
        subst hu1
        have hX5 : Xl w5 g (.slice A0 H3.length c0) (.slice A1 (O3 ls).length c1) := (hk5.2 g HRd3.out.xl.lt (fun e => e.2.2 rfl)).trans HRd3.out.xl
        have hy0 := hX5.c0
        have hy1 := hX5.c1
        have hf0 := blk_frozen hX5 0
        have hf1 := blk_frozen hX5 1
        have hst := HRd3.out.step HS3.out hr5 hv5 hb5 hk5
        have HS5 := Lib.hid hst.2
        have HRd5 := Lib.hid hst.1
        have hz0 := HRd5.out.xl.c0
        have hz1 := HRd5.out.xl.c1
        clear hst hr5 hv5 hb5 hk5 hX5 hx0 hx1
        go_wp2_with fail
        refine (alike_calls HS5.out HRd5.out.lx).mono ?_
        rintro e w7 ⟨rfl, S7, hK7⟩
        have HS7 := Lib.hid S7
        have HRd7 := Lib.hid (HRd5.out.kept hK7)
        clear S7 hK7 hz0 hz1 hy0 hy1 hf0 hf1
        go_wp2
        go_roundg (80 - (k + 1))
        case measure => omega
        case rel => exact ⟨k + 1, _, _, _, by omega, rfl, by go_num, HS7.out, HRd7.out⟩
    · have hno : ((len : Int) ≤ (k : Int)) ∨ ((k : Int) < (len : Int)) ∧ k = 80 := by omega
      clear hlt
      rcases hno with hno | ⟨hno, rfl⟩
      all_goals
        go_wp2
        go_ret
        exact ⟨rfl, HS.out.kept⟩
end Go.Proofs.Ytajbfjmbohkphaa.Ref
