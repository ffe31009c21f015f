/- Lemmas of the claim TreePlays. -/
import Derived.Test.YthkppnkhiimaeaaTr
/- The tree's links (layer 11): place, turn, check. -/
set_option linter.unusedVariables false
set_option linter.unusedSimpArgs false
namespace Go.Proofs.Ythkppnkhiimaeaa
open Go.RowKit
section
variable {w0 w w1 : World} {p d : Nat} {bs : List Int} {r : Int} {X : Nat}
theorem sideB_01 (bs : List Int) (q n : Int) : sideB bs q n = 0 ∨ sideB bs q n = 1 := by unfold sideB; split <;> simp
theorem one_sub {s : Int} (hs : s = 0 ∨ s = 1) : 1 - s = 0 ∨ 1 - s = 1 := by omega
theorem place_any (o n : Int) (w : World) (h : Ar w p d bs) (ho : pl o) (hn : pl n) :
    Calls Try.prog 45 #[.agg #[.pointer (some ⟨p, 0, none⟩), .int .i64 r], .int .i64 o, .int .i64 n] w fun e w' =>
      e = .returned (.tuple #[]) ∧ Ar w' p d (placeB bs r o n) ∧ w.grownBy w' (some d) := by
  have L0 := Lib.hid (Lk.new h r)
  obtain ⟨hc, hc'⟩ := L0.out.cell
  have HO := Lib.hid ho
  have HN := Lib.hid hn
  have hz0 : pl 0 := ⟨by omega, by omega⟩
  have HZ0 := Lib.hid hz0
  have hq : pl (upB bs o) := L0.out.rng _
  have h01 := sideB_01 bs (upB bs o) o
  obtain ⟨h0, h1⟩ := hn
  unfold placeB
  clear h hz0 ho
  obtain ⟨q, hqq⟩ : ∃ q, upB bs o = q := ⟨_, rfl⟩
  have HQQ := Lib.hid hqq
  rw [hqq] at hq h01 ⊢
  clear hqq
  by_cases hz : q = 0
  · rw [if_pos hz]
    subst hz
    by_cases hnz : n = 0
    · rw [if_pos hnz]
      subst hnz
      clear h01
      go_enter Try.func45, Try.ntmps45
      go_wp2_with fail
      refine (up_lk L0.out o HO.out).mono ?_
      rintro e w1 ⟨rfl, L1⟩
      rw [HQQ.out]
      obtain ⟨hc1, hc1'⟩ := L1.cell
      have HL1 := Lib.hid L1
      clear L1
      go_wp2_with fail
      refine (set_lk HL1.out r 0 HN.out).mono ?_
      rintro e w2 ⟨rfl, L2⟩
      have HL2 := Lib.hid L2
      clear L2
      go_wp2
      go_end0
      exact ⟨rfl, HL2.out.ar, HL2.out.gr⟩
    · have hnb : (n != 0) = true := by rw [bne_iff_ne]; exact hnz
      rw [if_neg hnz]
      clear hnz h01
      go_enter Try.func45, Try.ntmps45
      go_wp2_with fail
      refine (up_lk L0.out o HO.out).mono ?_
      rintro e w1 ⟨rfl, L1⟩
      rw [HQQ.out]
      obtain ⟨hc1, hc1'⟩ := L1.cell
      have HL1 := Lib.hid L1
      clear L1
      go_wp2_with fail
      refine (set_lk HL1.out r n HN.out).mono ?_
      rintro e w2 ⟨rfl, L2⟩
      obtain ⟨hc2, hc2'⟩ := L2.cell
      have HL2 := Lib.hid L2
      clear L2
      go_wp2_with fail
      refine (set_lk HL2.out (n + 8) 0 HZ0.out).mono ?_
      rintro e w3 ⟨rfl, L3⟩
      have HL3 := Lib.hid L3
      clear L3
      go_wp2
      go_end0
      exact ⟨rfl, HL3.out.ar, HL3.out.gr⟩
  · have hqb : (q != 0) = true := by rw [bne_iff_ne]; exact hz
    rw [if_neg hz]
    have HQ := Lib.hid hq
    have H01 := Lib.hid h01
    clear hz hq h01
    go_enter Try.func45, Try.ntmps45
    go_wp2_with fail
    refine (up_lk L0.out o HO.out).mono ?_
    rintro e w1 ⟨rfl, L1⟩
    rw [HQQ.out]
    obtain ⟨hc1, hc1'⟩ := L1.cell
    have HL1 := Lib.hid L1
    have HD1 := Lib.hid L1.drew
    clear L1 hc hc'
    go_wp2_with fail
    go_region_held3 (fun w' => w'.cell? ⟨w.heap.size, 0, none⟩ = some (.pointer (some ⟨p, 0, none⟩)) ∧ w'.cell? ⟨w.heap.size, 1, none⟩ = some (.int .i64 r)) (first | exact HD1.out.cell | exact HL2.out.cell | exact HL3.out.cell) (first | (go_simp; go_at_call 61; refine (side_lk HD1.out q o HQ.out).mono ?_; rintro e w2 ⟨rfl, L2⟩; have HL2 := Lib.hid L2; clear L2) | (go_simp; go_at_call 40; refine (join_lk HL2.out q (sideB bs q o) n HQ.out H01.out HN.out).mono ?_; rintro e w3 ⟨rfl, L3⟩; have HL3 := Lib.hid L3; clear L3))
    go_wp2
    refine bodyPost_ret (results_none rfl _ _ _) rfl ?_
    exact ⟨rfl, HL3.out.ar, HL3.out.gr⟩
theorem place_lk (S : Lk w0 w p d r bs X) (o n : Int) (ho : pl o) (hn : pl n) :
    Calls Try.prog 45 #[.agg #[.pointer (some ⟨p, 0, none⟩), .int .i64 r], .int .i64 o, .int .i64 n] w fun e w' => e = .returned (.tuple #[]) ∧ Lk w0 w' p d r (placeB bs r o n) X :=
  (place_any o n w S.ar ho hn).mono fun _ _ ⟨h, hA, hg⟩ => ⟨h, S.grown hA hg⟩
theorem turn_any (x s : Int) (w : World) (h : Ar w p d bs) (hx : pl x) (hs : s = 0 ∨ s = 1) :
    Calls Try.prog 62 #[.agg #[.pointer (some ⟨p, 0, none⟩), .int .i64 r], .int .i64 x, .int .i64 s] w fun e w' =>
      e = .returned (.tuple #[]) ∧ Ar w' p d (turnB bs r x s) ∧ w.grownBy w' (some d) := by
  have L0 := Lib.hid (Lk.new h r)
  obtain ⟨hc, hc'⟩ := L0.out.cell
  have HX := Lib.hid hx
  have H1 := Lib.hid (one_sub hs)
  have HS := Lib.hid hs
  have hy : pl (chB bs x (1 - s)) := L0.out.rng _
  have hw1 : IntKind.i64.wrap (1 - s) = 1 - s := by rw [IntKind.wrap_i64]; omega
  unfold turnB
  clear h hs hx
  obtain ⟨y, hyy⟩ : ∃ y, chB bs x (1 - s) = y := ⟨_, rfl⟩
  rw [hyy] at hy ⊢
  have HY := Lib.hid hy
  have HYY := Lib.hid hyy
  obtain ⟨z, hzz⟩ : ∃ z, chB (placeB bs r x y) y s = z := ⟨_, rfl⟩
  rw [hzz]
  have HZZ := Lib.hid hzz
  clear hy hyy hzz
  go_enter Try.func62, Try.ntmps62
  go_wp2_with fail
  refine (child_lk L0.out x (1 - s) HX.out H1.out).mono ?_
  rintro e w1 ⟨rfl, L1⟩
  rw [HYY.out]
  obtain ⟨hc1, hc1'⟩ := L1.cell
  have HL1 := Lib.hid L1
  clear L1
  go_wp2_with fail
  refine (place_lk HL1.out x y HX.out HY.out).mono ?_
  rintro e w2 ⟨rfl, L2⟩
  obtain ⟨hc2, hc2'⟩ := L2.cell
  have hz : pl (chB (placeB bs r x y) y s) := L2.rng _
  rw [HZZ.out] at hz
  have HZ := Lib.hid hz
  have HL2 := Lib.hid L2
  have HD2 := Lib.hid L2.drew
  clear L2 hz hc hc' hc1 hc1'
  go_wp2_with fail
  go_region_held3 (fun w' => w'.cell? ⟨w.heap.size, 0, none⟩ = some (.pointer (some ⟨p, 0, none⟩)) ∧ w'.cell? ⟨w.heap.size, 1, none⟩ = some (.int .i64 r)) (first | exact HD2.out.cell | exact HL3.out.cell | exact HL4.out.cell) (first | (go_simp; go_at_call 36; refine (child_lk HD2.out y s HY.out HS.out).mono ?_; rintro e w3 ⟨rfl, L3⟩; rw [HZZ.out]; have HL3 := Lib.hid L3; clear L3) | (go_simp; go_at_call 40; refine (join_lk HL3.out x (1 - s) z HX.out H1.out HZ.out).mono ?_; rintro e w4 ⟨rfl, L4⟩; have HL4 := Lib.hid L4; clear L4))
  obtain ⟨hc4, hc4'⟩ := HL4.out.cell
  clear hc2 hc2'
  go_wp2_with fail
  refine (join_lk HL4.out y s x HY.out HS.out HX.out).mono ?_
  rintro e w5 ⟨rfl, L5⟩
  have HL5 := Lib.hid L5
  clear L5
  go_wp2
  go_end0
  exact ⟨rfl, HL5.out.ar, HL5.out.gr⟩
theorem turn_lk (S : Lk w0 w p d r bs X) (x s : Int) (hx : pl x) (hs : s = 0 ∨ s = 1) :
    Calls Try.prog 62 #[.agg #[.pointer (some ⟨p, 0, none⟩), .int .i64 r], .int .i64 x, .int .i64 s] w fun e w' => e = .returned (.tuple #[]) ∧ Lk w0 w' p d r (turnB bs r x s) X :=
  (turn_any x s w S.ar hx hs).mono fun _ _ ⟨h, hA, hg⟩ => ⟨h, S.grown hA hg⟩
def inn (bs : List Int) (at_ n : Int) : Bool := decide (1 ≤ at_) && decide (at_ ≤ (bs.length : Int) - n)
def chk (bs : List Int) (root n : Int) : Int := if inn bs root 8 && inn bs n 24 then 0 else 4
theorem check_any (n : Int) (w : World) (h : Ar w p d bs) :
    Calls Try.prog 33 #[.agg #[.pointer (some ⟨p, 0, none⟩), .int .i64 r], .int .i64 n] w fun e w' =>
      e = .returned (.int .i64 (chk bs r n)) ∧ Below w.heap.size w w' := by
  have L0 := Lib.hid (Lk.new h r)
  have HB := Lib.hid ((Below.refl w.heap.size w).alloc (Nat.le_refl _) (bx p r))
  obtain ⟨hc, hc'⟩ := L0.out.cell
  have HA := Lib.hid (h.below HB.out)
  unfold chk
  clear h
  cases h1 : inn bs r 8
  · unfold inn at h1
    go_enter Try.func33, Try.ntmps33
    go_wp2_with fail
    refine (in_any r 8 _ HA.out (by omega) (by omega)).mono ?_
    rintro e w1 ⟨rfl, hB⟩
    have HB1 := Lib.hid (below_then HB.out (by simp) hB)
    clear hB
    rw [h1]
    go_wp2
    go_ret
    exact ⟨rfl, HB1.out⟩
  · cases h2 : inn bs n 24
    all_goals
      unfold inn at h1 h2
      go_enter Try.func33, Try.ntmps33
      go_wp2_with fail
      refine (in_any r 8 _ HA.out (by omega) (by omega)).mono ?_
      rintro e w1 ⟨rfl, hB⟩
      have HB1 := Lib.hid (below_then HB.out (by simp) hB)
      have HL1 := Lib.hid (L0.out.then_ hB)
      obtain ⟨hc1, hc1'⟩ := HL1.out.cell
      clear hB
      rw [h1]
      go_wp2_with fail
      refine (in_any n 24 _ HL1.out.ar (by omega) (by omega)).mono ?_
      rintro e w2 ⟨rfl, hB⟩
      have HB2 := Lib.hid (below_then HB1.out HB1.out.size hB)
      clear hB
      rw [h2]
      go_wp2
      go_ret
      exact ⟨rfl, HB2.out⟩
theorem check_lk (S : Lk w0 w p d r bs X) (n : Int) :
    Calls Try.prog 33 #[.agg #[.pointer (some ⟨p, 0, none⟩), .int .i64 r], .int .i64 n] w fun e w' => e = .returned (.int .i64 (chk bs r n)) ∧ Lk w0 w' p d r bs X :=
  (check_any n w S.ar).mono fun _ _ ⟨h, hB⟩ => ⟨h, S.then_ hB⟩
end
end Go.Proofs.Ythkppnkhiimaeaa
