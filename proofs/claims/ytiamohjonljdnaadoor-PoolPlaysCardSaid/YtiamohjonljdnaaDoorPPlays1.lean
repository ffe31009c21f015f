/- PoolPlays: whatever is taken from a pool of any size, and given back, it answers what the document says. -/
import Derived.Test.YtiamohjonljdnaaDoorPPlays0
import Derived.Test.YtiamohjonljdnaaDoorPost
set_option linter.unusedVariables false
set_option linter.unusedSimpArgs false
namespace Go.Proofs.YtiamohjonljdnaaDoor.Ref
open Go.RowKit Go.Proofs.YtiamohjonljdnaaDoorW.PrintWords Go.Proofs.YtiamohjonljdnaaDoor.PPoolPlays
open Go.Proofs.YtiamohjonljdnaaDoor (cnt cnt_le cnt_next upto least_or run_or gcode giv Pw Po Tb tak tak_at Take_at Take_full TakeRun_bad TakeRun_ok TakeRun_none Give_to PNew_bad PNew_st PFree_calls PLen_calls Taken_calls Taken_quiet shown_calls ret_bool Deeds ColI bd_i64 cnt_all bool_info)

/-- A pool and a list of its own that says the same. -/
structure Rnd (w0 w : World) (p N : Nat) (v : Value) (f : Nat → Bool) : Prop where
  pw : Pw w0 w p N f
  row : Kd.R Kd.bool 4 w w0.heap.size (fun k => k ≠ p) v (lst f N)

theorem upto_one (f : Nat → Bool) (a : Nat) : (fun i => f i || i == a) = upto f a (a + 1) := by
  funext i
  show (f i || i == a) = (f i || (decide (a ≤ i) && decide (i < a + 1)))
  congr 1
  rw [Bool.eq_iff_iff]
  simp only [Bool.and_eq_true, decide_eq_true_eq, beq_iff_eq]
  omega

theorem Take_both {w0 w : World} {p N : Nat} {f : Nat → Bool} (S : Pw w0 w p N f) :
    Calls Tryd.prog 11 #[.pointer (some ⟨p, 0, none⟩)] w fun e w' => ∃ (a : Nat) (c : Int) (g : Nat → Bool), e = .returned (.tuple #[.int .i64 (a : Int), .int .i64 c]) ∧ Pw w0 w' p N g ∧ w.grownBy w' (some p) ∧
      turnbuckleref02_Take.f 40000 (lst f N) 1 = some (lst g N, (a : Int), c) := by
  have hN := S.po.len
  rcases least_or f N with h | ⟨a, ha, h1, h2⟩
  · refine (Take_full S.po (S.kept.tb S.tb) h).mono ?_
    rintro e w' ⟨h3, rfl⟩
    exact ⟨0, 5, f, h3, S, World.grownBy.refl _ _, Take_no f N 1 hN (by omega) (by omega) (fun b hb => ⟨0, by omega, h _ (by omega)⟩)⟩
  · refine (Take_at S.po (S.kept.tb S.tb) a ha h1 h2).mono ?_
    rintro e w' ⟨h3, hp, hg⟩
    refine ⟨a, 0, _, h3, S.grown hp hg, hg, ?_⟩
    rw [upto_one]
    exact Take_yes f N 1 a hN (by omega) (by omega) (fun j hj => by obtain rfl : j = 0 := (by omega); exact h1) (fun b hb => ⟨0, by omega, h2 _ (by omega)⟩)
theorem Run_both {w0 w : World} {p N : Nat} {f : Nat → Bool} (S : Pw w0 w p N f) (n : Int) (hn : n ≤ 9223372036854775807) :
    Calls Tryd.prog 14 #[.pointer (some ⟨p, 0, none⟩), .int .i64 n] w fun e w' => ∃ (a : Nat) (c : Int) (g : Nat → Bool), e = .returned (.tuple #[.int .i64 (a : Int), .int .i64 c]) ∧ Pw w0 w' p N g ∧ w.grownBy w' (some p) ∧
      turnbuckleref02_Take.f 40000 (lst f N) n = some (lst g N, (a : Int), c) := by
  have hN := S.po.len
  by_cases h1 : n < 1
  · refine (TakeRun_bad _ n w h1).mono ?_
    rintro e w' ⟨h, rfl⟩
    exact ⟨0, 1, f, h, S, World.grownBy.refl _ _, Take_bad f N n h1⟩
  · obtain ⟨M, rfl⟩ := Int.eq_ofNat_of_zero_le (show 0 ≤ n by omega)
    rcases run_or f N M with h | ⟨a, ha, h2, h3⟩
    · refine (TakeRun_none S.po M (by omega) hn (fun b hb => by obtain ⟨j, h4, h5⟩ := h b (by omega); exact ⟨j, by omega, h5⟩)).mono ?_
      rintro e w' ⟨h4, rfl⟩
      exact ⟨0, 5, f, h4, S, World.grownBy.refl _ _, Take_no f N M hN (by omega) hn h⟩
    · refine (TakeRun_ok S.po M a (by omega) ha h2 h3).mono ?_
      rintro e w' ⟨h, hp, hg⟩
      exact ⟨a, 0, _, h, S.grown hp hg, hg, Take_yes f N M a hN (by omega) ha h2 h3⟩
theorem Give_both {w0 w : World} {p N : Nat} {f : Nat → Bool} (S : Pw w0 w p N f) (n : Int) :
    Calls Tryd.prog 12 #[.pointer (some ⟨p, 0, none⟩), .int .i64 n] w fun e w' => ∃ (c : Int) (g : Nat → Bool), e = .returned (.int .i64 c) ∧ Pw w0 w' p N g ∧ w.grownBy w' (some p) ∧
      turnbuckleref02_Give.f 40000 (lst f N) n = some (lst g N, c) :=
  (Give_to S.po n).mono fun _ _ ⟨h, hp, hg⟩ => ⟨_, _, h, S.grown hp hg, hg, Give_eq f N n S.po.len S.po.out⟩

theorem po_kept {w w1 : World} {p n : Nat} {f : Nat → Bool} (h : Po w p n f) (hk : Go.Proofs.YtiamohjonljdnaaDoorW.PrintWords.Kept w w1 (fun k => k ≠ p)) : Po w1 p n f :=
  ⟨(hk.2 p h.lt (fun e => e rfl)).trans h.blk, h.len, h.out⟩
/-- Behind the reference's step the round's facts stand again. -/
theorem Rnd.step {w0 w w1 : World} {p N : Nat} {v : Value} {g : Nat → Bool} (S : Pw w0 w p N g) (hr : Kd.R Kd.bool 4 w1 w0.heap.size (fun k => (k ≠ p ∨ w.heap.size ≤ k)) v (lst g N)) (hb : Below w0.heap.size w0 w1)
    (hk : Go.Proofs.YtiamohjonljdnaaDoorW.PrintWords.Kept w w1 (fun k => k ≠ p)) : Rnd w0 w1 p N v g :=
  ⟨⟨⟨hb⟩, po_kept S.po hk, S.new, S.tb⟩, Kd.R_mono hr (fun k h => by have := S.po.lt; omega)⟩
theorem Rnd.below {w0 w w1 : World} {p N : Nat} {v : Value} {g : Nat → Bool} (S : Rnd w0 w p N v g) (hb : Below w.heap.size w w1) : Rnd w0 w1 p N v g :=
  ⟨S.pw.then_ hb, Kd.R_below S.row hb⟩
theorem Rnd.grown {w0 w w1 : World} {p N : Nat} {v : Value} {f : Nat → Bool} (S : Rnd w0 w p N v f) (hg : w.grownBy w1 (some p)) : Kd.R Kd.bool 4 w1 w0.heap.size (fun k => k ≠ p) v (lst f N) :=
  Kd.R_grown S.row hg (fun k hk e => hk (by injection e))

set_option maxRecDepth 100000 in
set_option maxHeartbeats 1000000 in
theorem plays_bad (n : Int) (A : Option Addr) (len cap : Nat) (page : Int) (w : World) (T : Tb w) (h : n < 0 ∨ 128 < n) :
    Calls Tryd.prog 4 #[.int .i64 n, .slice A len cap, .int .i64 page] w fun e w' => e = .returned (.bool true) ∧ Go.Proofs.YtiamohjonljdnaaDoor.Kept w w' := by
  have HN := Lib.hid h
  have hb : (decide (n < 0) || decide (128 < n)) = true := by rw [Bool.or_eq_true, decide_eq_true_eq, decide_eq_true_eq]; exact h
  clear h
  go_enter Tryd.func4, Tryd.ntmps4
  go_wp2_with fail
  refine (shown_calls _ T).mono ?_
  rintro e w1 ⟨rfl, K1⟩
  go_wp2_with fail
  refine (PNew_bad n _ HN.out).mono ?_
  rintro e w2 ⟨rfl, rfl⟩
  go_wp2
  all_goals (go_ret; exact ⟨rfl, K1⟩)

theorem madeCells_b (n : Nat) : madeCells #[Value.bool false] n = ((lst (fun _ => false) n).map Value.bool).toArray := by
  apply Array.toList_inj.1
  rw [toList_madeCells_one]
  unfold lst
  rw [List.map_map]
  apply List.ext_getElem
  · simp
  · intro i h1 h2
    simp

set_option maxRecDepth 100000 in
set_option maxHeartbeats 4000000 in
theorem plays_ok (N : Nat) (A : Option Addr) (len cap : Nat) (fk fn : Nat → Int) (page : Int) (w : World) (T : Tb w) (hN : N ≤ 128) (hlen : len ≤ 9223372036854775807) (hD : Deeds w A len fk fn) :
    Calls Tryd.prog 4 #[.int .i64 (N : Int), .slice A len cap, .int .i64 page] w fun e w' => e = .returned (.bool true) ∧ Go.Proofs.YtiamohjonljdnaaDoor.Kept w w' := by
  have HD := Lib.hid hD
  have hmk := fun W => run_make_row' (P := Tryd.prog) 36 4 (.bool false) 1 Tryd.underlying36 bool_info rfl .i64 .i64 N (by omega) (by omega) W
  clear hD
  go_enter Tryd.func4, Tryd.ntmps4
  go_wp2_with fail
  refine (shown_calls _ T).mono ?_
  rintro e w1 ⟨rfl, K1⟩
  go_wp2_with fail
  refine (PNew_st K1 T N hN).mono ?_
  rintro e w2 ⟨p, rfl, S2⟩
  have HS2 := Lib.hid S2
  clear S2
  go_wp2_with fail
  clear hmk
  have S4 : Rnd w (w2.alloc (.cells (madeCells #[.bool false] N) 4)) p N (.slice (some ⟨w2.heap.size, 0, none⟩) N N) (fun _ => false) := by
    refine ⟨HS2.out.then_ ((Below.refl _ _).alloc (Nat.le_refl _) _), ?_⟩
    have hlt := HS2.out.po.lt
    have ho := World.ownsRow_lit w2 (madeCells #[Value.bool false] N) N (e := 4) (base := w.heap.size) (size := 1) HS2.out.kept.below.size (by unfold maxLen; omega) (by rw [size_madeCells]; omega)
    rw [madeCells_b] at ho ⊢
    refine Kd.R_of_own (by rw [lst_length]; exact ho) ?_
    intro k hk
    simp [Value.ownBlock] at hk
    omega
  have HS4 := Lib.hid S4
  clear S4 HS2
  go_loopw [10, 11] (fun v i wr => ∃ (k : Nat) (f : Nat → Bool), k ≤ 200 ∧ i = .int .i64 (k : Int) ∧ Rnd w wr p N v f) (fun _ i _ => 200 - (intOf i).toNat)
  case atStart => exact ⟨0, _, by omega, rfl, HS4.out⟩
  case round =>
    clear HS4
    obtain ⟨k, f, hk, rfl, hS⟩ := hrel
    have HS := Lib.hid hS
    clear hS
    by_cases hlt : k < len ∧ k < 200
    · obtain ⟨hlt1, hlt2⟩ := hlt
      have D := HD.out.below HS.out.pw.kept.below
      obtain ⟨ad, rfl, hck, hcn, hn⟩ := D.at_ k hlt1
      have hlk := HS.out.pw.kept.below
      have HCN : Hid (∀ w1, wr.grownBy w1 (some p) → w1.cell? ⟨(ad.add (k * 2)).block, (ad.add (k * 2)).off + 1, none⟩ = some (.int .i64 (fn k))) := Lib.hid (fun w1 hg => by
        obtain ⟨ad', ead, hadl, _⟩ := HD.out.k k hlt1
        obtain rfl : ad = ad' := by injection ead
        exact (hg.cell hcn (fun e => by injection e with e; rw [Go.Proofs.YtiamohjonljdnaaDoor.block_add] at e; have := HS.out.pw.new; omega)))
      clear D hlk
      generalize fk k = K at *
      generalize fn k = n at *
      by_cases h0 : K = 0
      · subst h0
        go_wp2_with fail
        refine (Take_both HS.out.pw).mono ?_
        rintro e w3 ⟨a, c, g, rfl, S3, hg3, href⟩
        have hR3 := HS.out.grown hg3
        have S3 := Lib.hid S3
        clear hg3
        go_wp2_with fail
        refine (turnbuckleref02_Take.calls 40000 (fun k => k ≠ p) _ (lst f N) 1 _ _ _ w _ S3.out.kept.below hR3 href).mono ?_
        rintro e w4 ⟨v4, rfl, hR4, hB4, hK4⟩
        clear hR3 href
        have HR3 := Lib.hid (Rnd.step S3.out hR4 hB4 hK4)
        clear hR4 hB4 hK4 S3
        obtain ⟨A4, c4, rfl, hc4, hC4⟩ := Kd.R_reads HR3.out.row
        rw [lst_length]
        have HC4 := Lib.hid hC4
        clear hC4
        go_wp2_with fail
        refine (PFree_calls HR3.out.pw.po).mono ?_
        rintro e w5 ⟨rfl, rfl⟩
        go_wp2_with fail
        rw [← lst_length g N]
        refine (turnbuckleref02_Free.calls 200 A4 c4 (lst g N) _ _ HC4.out hc4 (Free_eq g N hN)).mono ?_
        rintro e w5 ⟨rfl, hD5⟩
        rw [lst_length]
        have HR5 := Lib.hid (HR3.out.below hD5.below)
        clear hD5
        go_wp2
        go_roundw
        case rel => exact ⟨k + 1, g, by omega, by go_num, by have h := HR5.out; rw [lst_length] at h; exact h⟩
        case measure => simp [intOf]; omega
      by_cases h1 : K = 1
      · subst h1
        go_wp2_with fail
        refine (Run_both HS.out.pw n hn).mono ?_
        rintro e w3 ⟨a, c, g, rfl, S3, hg3, href⟩
        have hR3 := HS.out.grown hg3
        have hcn3 := HCN.out _ hg3
        have S3 := Lib.hid S3
        clear hg3
        go_wp2_with fail
        refine (turnbuckleref02_Take.calls 40000 (fun k => k ≠ p) _ (lst f N) n _ _ _ w _ S3.out.kept.below hR3 href).mono ?_
        rintro e w4 ⟨v4, rfl, hR4, hB4, hK4⟩
        clear hR3 href hcn3
        have HR3 := Lib.hid (Rnd.step S3.out hR4 hB4 hK4)
        clear hR4 hB4 hK4 S3
        obtain ⟨A4, c4, rfl, hc4, hC4⟩ := Kd.R_reads HR3.out.row
        rw [lst_length]
        have HC4 := Lib.hid hC4
        clear hC4
        go_wp2_with fail
        refine (PFree_calls HR3.out.pw.po).mono ?_
        rintro e w5 ⟨rfl, rfl⟩
        go_wp2_with fail
        rw [← lst_length g N]
        refine (turnbuckleref02_Free.calls 200 A4 c4 (lst g N) _ _ HC4.out hc4 (Free_eq g N hN)).mono ?_
        rintro e w5 ⟨rfl, hD5⟩
        rw [lst_length]
        have HR5 := Lib.hid (HR3.out.below hD5.below)
        clear hD5
        go_wp2
        go_roundw
        case rel => exact ⟨k + 1, g, by omega, by go_num, by have h := HR5.out; rw [lst_length] at h; exact h⟩
        case measure => simp [intOf]; omega
      · have e0 : (K == 0) = false := beq_eq_false_iff_ne.2 h0
        have e1 : (K == 1) = false := beq_eq_false_iff_ne.2 h1
        clear h0 h1
        go_wp2_with fail
        refine (Give_both HS.out.pw n).mono ?_
        rintro e w3 ⟨c, g, rfl, S3, hg3, href⟩
        have hR3 := HS.out.grown hg3
        have hcn3 := HCN.out _ hg3
        have S3 := Lib.hid S3
        clear hg3
        go_wp2_with fail
        refine (turnbuckleref02_Give.calls 40000 (fun k => k ≠ p) _ (lst f N) n _ _ w _ S3.out.kept.below hR3 href).mono ?_
        rintro e w4 ⟨v4, rfl, hR4, hB4, hK4⟩
        clear hR3 href hcn3
        have HR3 := Lib.hid (Rnd.step S3.out hR4 hB4 hK4)
        clear hR4 hB4 hK4 S3
        obtain ⟨A4, c4, rfl, hc4, hC4⟩ := Kd.R_reads HR3.out.row
        rw [lst_length]
        have HC4 := Lib.hid hC4
        clear hC4
        go_wp2_with fail
        refine (PFree_calls HR3.out.pw.po).mono ?_
        rintro e w5 ⟨rfl, rfl⟩
        go_wp2_with fail
        rw [← lst_length g N]
        refine (turnbuckleref02_Free.calls 200 A4 c4 (lst g N) _ _ HC4.out hc4 (Free_eq g N hN)).mono ?_
        rintro e w5 ⟨rfl, hD5⟩
        rw [lst_length]
        have HR5 := Lib.hid (HR3.out.below hD5.below)
        clear hD5
        go_wp2
        go_roundw
        case rel => exact ⟨k + 1, g, by omega, by go_num, by have h := HR5.out; rw [lst_length] at h; exact h⟩
        case measure => simp [intOf]; omega
    · have hno : ((len : Int) ≤ (k : Int)) ∨ ((k : Int) < (len : Int)) ∧ k = 200 := by omega
      clear hlt
      obtain ⟨A4, c4, rfl, hc4, hC4⟩ := Kd.R_reads HS.out.row
      rw [lst_length]
      rw [lst_length] at hC4
      have HS3 := Lib.hid HS.out.pw
      have HC3 := Lib.hid hC4
      clear hC4 HS
      rcases hno with hno | ⟨hno, rfl⟩
      all_goals
        go_wp2_with fail
        go_loopw [16] (fun i wx => ∃ k : Nat, k ≤ N ∧ i = .int .i64 (k : Int) ∧ Pw w wx p N f ∧ Kd.C Kd.bool wx A4 N (lst f N)) (fun i _ => N - (intOf i).toNat)
        case atStart => exact ⟨0, by omega, rfl, HS3.out, HC3.out⟩
        case round =>
          clear HS3 HC3
          obtain ⟨k, hk, rfl, hS, hC⟩ := hrel
          have HSx := Lib.hid hS
          have HCx := Lib.hid hC
          clear hS hC
          by_cases hkN : k < N
          · obtain ⟨ad, rfl, hcell⟩ := Kd.at_bool HCx.out (k : Int) (by omega) (by omega)
            rw [rd_lst f N k hkN, Int.toNat_natCast] at hcell
            go_wp2_with fail
            go_quiet ((go_at_call 13; exact Taken_quiet HSx.out k _ (b := f k) rfl))
            go_wp2
            go_roundw
            case rel => exact ⟨k + 1, by omega, by go_num, HSx.out.drewN _, Kd.C_drewN HCx.out _⟩
            case measure => simp [intOf]; omega
          · have hkN' : (N : Int) ≤ (k : Int) := by omega
            by_cases hpg : page < 0 ∨ (N : Int) ≤ page
            · have htk : tak f page = false := by
                unfold tak
                rcases hpg with h | h
                · rw [decide_eq_false (by omega)]; rfl
                · rw [HSx.out.po.out _ (by omega), Bool.and_false]
              have HTK := Lib.hid htk
              clear htk
              rcases hpg with hpg | hpg
              all_goals (
                go_wp2_with fail
                refine (PLen_calls HSx.out.po).mono ?_
                rintro e w6 ⟨rfl, rfl⟩
                go_wp2_with fail
                refine (Taken_calls HSx.out.po page).mono ?_
                rintro e w6 ⟨rfl, rfl⟩
                rw [HTK.out]
                go_wp2_with fail
                go_ret
                exact ⟨rfl, HSx.out.kept⟩)
            · have hp0 : 0 ≤ page := by omega
              have hp1 : page < N := by omega
              clear hpg
              go_wp2_with fail
              refine (PLen_calls HSx.out.po).mono ?_
              rintro e w6 ⟨rfl, rfl⟩
              go_wp2_with fail
              go_ret
              exact ⟨rfl, HSx.out.kept⟩

theorem PoolPlays_calls (n : Int) (A : Option Addr) (len cap : Nat) (fk fn : Nat → Int) (page : Int) (w : World) (T : Tb w) (hlen : len ≤ maxLen) (c0 : ColI w A len 2 0 .i64 fk) (c1 : ColI w A len 2 1 .i64 fn) :
    Calls Tryd.prog 4 #[.int .i64 n, .slice A len cap, .int .i64 page] w fun e w' => e = .returned (.bool true) ∧ Go.Proofs.YtiamohjonljdnaaDoor.Kept w w' := by
  by_cases h : n < 0 ∨ 128 < n
  · exact plays_bad n A len cap page w T h
  · obtain ⟨N, rfl⟩ := Int.eq_ofNat_of_zero_le (show 0 ≤ n by omega)
    exact plays_ok N A len cap fk fn page w T (by omega) (by unfold maxLen at hlen; omega) ⟨c0, c1⟩
end Go.Proofs.YtiamohjonljdnaaDoor.Ref
