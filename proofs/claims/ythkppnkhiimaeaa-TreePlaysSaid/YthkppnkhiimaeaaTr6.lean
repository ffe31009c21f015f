/- Lemmas of the claim TreePlays. -/
import Derived.Test.YthkppnkhiimaeaaTr5
/- The tree's functions (layer 11): Remove, and what is asked. -/
set_option linter.unusedVariables false
set_option linter.unusedSimpArgs false
namespace Go.Proofs.Ythkppnkhiimaeaa
open Go.RowKit
def remMid (bs : List Int) (r z y : Int) : List Int :=
 if upB bs y = z then bs else joinB (placeB bs r y (chB bs y 1)) y 1 (chB (placeB bs r y (chB bs y 1)) z 1)
def remEnd (bs : List Int) (r z y : Int) : List Int :=
 let b := joinB (placeB bs r z y) y 0 (chB (placeB bs r z y) z 0)
 paintB b y (redB b z)
def remP (bs : List Int) (z y : Int) : Int := if upB bs y = z then y else upB bs y
def remOut (bs : List Int) (r z : Int) : List Int × Int × Int × Bool :=
 if chB bs z 0 = 0 then (placeB bs r z (chB bs z 1), chB bs z 1, upB bs z, redB bs z)
 else if chB bs z 1 = 0 then (placeB bs r z (chB bs z 0), chB bs z 0, upB bs z, redB bs z)
 else (remEnd (remMid bs r z (lowB bs 60 (chB bs z 1))) r z (lowB bs 60 (chB bs z 1)), chB bs (lowB bs 60 (chB bs z 1)) 1, remP bs z (lowB bs 60 (chB bs z 1)), redB bs (lowB bs 60 (chB bs z 1)))
def remFin (r : Int) (F : Nat) (z : Int) (t : List Int × Int × Int × Bool) : Option (List Int) :=
 if t.2.2.2 = true then some (fillA t.1 z 20 0) else removedB r F (fillA t.1 z 20 0) t.2.1 t.2.2.1
section
variable {w0 w w1 : World} {p d : Nat} {bs : List Int} {r : Int} {X : Nat}
theorem enters_up (vs : Array Value) (w : World) : (callFunc 43 vs).run Try.prog w = .ok (.enter 43 vs) w := by go_simp
theorem lowest_lk (S : Lk w0 w p d r bs X) (n : Int) (hn : pl n) :
  Calls Try.prog 46 #[.agg #[.pointer (some ⟨p, 0, none⟩), .int .i64 r], .int .i64 n] w fun e w' => e = .returned (.int .i64 (lowB bs 60 n)) ∧ Lk w0 w' p d r bs X :=
 (lowest_any n w S.ar hn).mono fun _ _ ⟨h, hB⟩ => ⟨h, S.then_ hB⟩
theorem lowB_pl (hr : ∀ x ∈ bs, 0 ≤ x ∧ x ≤ 255) : ∀ (k : Nat) (n : Int), pl n → pl (lowB bs k n)
 | 0, n, h => h
 | k + 1, n, h => by
  unfold lowB
  split
  ·exact h
  ·split
   ·exact h
   ·exact lowB_pl hr k _ (gt_range bs hr _)
theorem removed_lk (S : Lk w0 w p d r bs X) (F : Nat) (bs' : List Int) (x q : Int) (hx : pl x) (hq : pl q) (hF : removedB r F bs x q = some bs') :
  Calls Try.prog 47 #[.agg #[.pointer (some ⟨p, 0, none⟩), .int .i64 r], .int .i64 x, .int .i64 q] w fun e w' => e = .returned (.tuple #[]) ∧ Lk w0 w' p d r bs' X :=
 (removed_any F bs' x q w S.ar hx hq hF).mono fun _ _ ⟨h, hA, hg⟩ => ⟨h, S.grown hA hg⟩
theorem Remove_ref (n : Int) (w : World) (h : Ar w p d bs) (h0 : chk bs r n = 0) (h8 : gt bs (n + 12) ≠ r) :
  Calls Try.prog 16 #[.pointer (some ⟨p, 0, none⟩), .int .i64 r, .int .i64 n] w fun e w' => e = .returned (.int .i64 8) ∧ Ar w' p d bs ∧ w.grownBy w' (some d) := by
 have HL0 := Lib.hid (Lk.new h r)
 have hl := h.len
 have hb8 : (gt bs (n + 12) != r) = true := by rw [bne_iff_ne]; exact h8
 obtain ⟨b1, b2, b3, b4⟩ := chk_zero h0 hl
 obtain ⟨hc0, hd0⟩ := HL0.out.cell
 clear h h8
 go_enter Try.func16, Try.ntmps16
 go_wp2_with fail
 refine (check_lk HL0.out n).mono ?_
 rintro e w1 ⟨rfl, L1⟩
 rw [h0]
 obtain ⟨hc1, hd1⟩ := L1.cell
 have HL1 := Lib.hid L1
 clear L1 hc0 hd0
 go_wp2_with fail
 refine (get_lk HL1.out (n + 12)).mono ?_
 rintro e w2 ⟨rfl, L2⟩
 obtain ⟨hc2, hd2⟩ := L2.cell
 have HL2 := Lib.hid L2
 clear L2 hc1 hd1
 go_wp2
 go_ret
 exact ⟨rfl, HL2.out.ar, HL2.out.gr⟩
set_option maxRecDepth 100000 in
set_option maxHeartbeats 8000000 in
theorem Remove_ok (n : Int) (F : Nat) (bs' : List Int) (w : World) (h : Ar w p d bs) (h0 : chk bs r n = 0) (h8 : gt bs (n + 12) = r) (hrec : remFin r F n (remOut bs r n) = some bs') :
  Calls Try.prog 16 #[.pointer (some ⟨p, 0, none⟩), .int .i64 r, .int .i64 n] w fun e w' => e = .returned (.int .i64 0) ∧ Ar w' p d bs' ∧ w.grownBy w' (some d) := by
 have HL0 := Lib.hid (Lk.new h r)
 have hl := h.len
 have HRNG := Lib.hid h.rng
 obtain ⟨e1, e2, e3, e4⟩ := chk_zero h0 hl
 have HN : Hid (pl n) := Lib.hid ⟨by omega, by omega⟩
 have HPP : Hid (pl (upB bs n)) := Lib.hid (HL0.out.rng _)
 obtain ⟨hc0, hd0⟩ := HL0.out.cell
 clear h
 unfold remOut at hrec
 by_cases hz0 : chB bs n 0 = 0
 ·rw [if_pos hz0] at hrec
  have HC0 := Lib.hid hz0
  obtain ⟨x, hx⟩ : ∃ x, chB bs n 1 = x := ⟨_, rfl⟩
  have HXX : Hid (pl x) := Lib.hid (by rw [← hx]; exact HL0.out.rng _)
  rw [hx] at hrec
  have HXV := Lib.hid hx
  clear hz0 hx
  cases hrd : redB bs n
  ·have HRN := Lib.hid hrd
   rw [hrd] at hrec
   simp only [remFin, if_false, Bool.false_eq_true] at hrec
   have HREC := Lib.hid hrec
   clear hrec
   go_enter Try.func16, Try.ntmps16
   go_wp2_with fail
   refine (check_lk HL0.out n).mono ?_
   rintro e w1 ⟨rfl, L1⟩
   rw [h0]
   obtain ⟨hc1, hd1⟩ := L1.cell
   have HL1 := Lib.hid L1
   clear L1 hc0 hd0
   go_wp2_with fail
   refine (get_lk HL1.out (n + 12)).mono ?_
   rintro e w2 ⟨rfl, L2⟩
   rw [h8]
   obtain ⟨hc2, hd2⟩ := L2.cell
   have HL2 := Lib.hid L2
   clear L2 hc1 hd1
   go_wp2_with fail
   refine region_settled (by kernel_rfl) [(32, .agg #[.pointer (some ⟨p, 0, none⟩), .int .i64 r]), (33, .int .i64 n), (34, .int .i64 (upB bs n)), (35, .agg #[.pointer (some ⟨p, 0, none⟩), .int .i64 r]), (36, .int .i64 n), (37, .bool (redB bs n)), (10, .int .i64 0), (11, .int .i64 (upB bs n)), (12, .bool (redB bs n))] (fun w' => Lk w w' p d r bs w.heap.size) rfl (by simp) rfl (edges_all (by kernel_rfl)) HL2.out.drew (settled_all (And.intro (st_box (t := 7) (p := p) (X := w.heap.size) (r := r) rfl rfl (.inl rfl) rfl rfl (fun _ h => Lk.cell h))
    (And.intro (st_move rfl rfl rfl (.inl rfl) (.inr ⟨9, rfl, .inl ⟨rfl, rfl⟩⟩))
    (And.intro (st_call (f := 43) (vs := #[.agg #[.pointer (some ⟨p, 0, none⟩), .int .i64 r], .int .i64 n]) rfl rfl rfl (.inl rfl) rfl (args2 (.inr ⟨32, rfl, .inr ⟨0, by kernel_rfl, rfl⟩⟩) (.inr ⟨33, rfl, .inr ⟨1, by kernel_rfl, rfl⟩⟩)) (enters_up _) (fun _ h => up_lk h n HN.out))
    (And.intro (st_box (t := 7) (p := p) (X := w.heap.size) (r := r) rfl rfl (.inl rfl) rfl rfl (fun _ h => Lk.cell h))
    (And.intro (st_move rfl rfl rfl (.inl rfl) (.inr ⟨9, rfl, .inl ⟨rfl, rfl⟩⟩))
    (And.intro (st_call (f := 44) (vs := #[.agg #[.pointer (some ⟨p, 0, none⟩), .int .i64 r], .int .i64 n]) rfl rfl rfl (.inl rfl) rfl (args2 (.inr ⟨35, rfl, .inr ⟨3, by kernel_rfl, rfl⟩⟩) (.inr ⟨36, rfl, .inr ⟨4, by kernel_rfl, rfl⟩⟩)) (enters_red _) (fun _ h => red_lk h n HN.out))
    (And.intro (st_assign rfl rfl rfl (.inl rfl) (.inl rfl))
    (And.intro (st_assign rfl rfl rfl (.inl rfl) (.inr ⟨34, rfl, .inr ⟨2, by kernel_rfl, rfl⟩⟩))
    (And.intro (st_assign rfl rfl rfl (.inl rfl) (.inr ⟨37, rfl, .inr ⟨5, by kernel_rfl, rfl⟩⟩))
    trivial)))))))))) ?_
   intro w3 L3
   simp only [puts, List.foldl_cons, List.foldl_nil, Act.put, List.setIfInBounds_toArray, List.set_cons_zero, List.set_cons_succ]
   obtain ⟨hc3, hd3⟩ := L3.cell
   have HL3 := Lib.hid L3
   clear L3 hc2 hd2
   go_wp2_with fail
   refine (child_lk HL3.out n 0 HN.out (.inl rfl)).mono ?_
   rintro e w4 ⟨rfl, L4⟩
   rw [HC0.out]
   obtain ⟨hc4, hd4⟩ := L4.cell
   have HL4 := Lib.hid L4
   clear L4 hc3 hd3
   go_wp2_with fail
   refine (child_lk HL4.out n 1 HN.out (.inr rfl)).mono ?_
   rintro e w5 ⟨rfl, L5⟩
   rw [HXV.out]
   obtain ⟨hc5, hd5⟩ := L5.cell
   have HL5 := Lib.hid L5
   clear L5 hc4 hd4
   go_wp2_with fail
   refine (place_lk HL5.out n x HN.out HXX.out).mono ?_
   rintro e w6 ⟨rfl, L6⟩
   obtain ⟨hc6, hd6⟩ := L6.cell
   have HL6 := Lib.hid L6
   clear L6 hc5 hd5
   go_wp2_with fail
   refine (fill_lk HL6.out n 20 0 (by omega) (by omega) (by omega)).mono ?_
   rintro e w7 ⟨rfl, L7⟩
   obtain ⟨hc7, hd7⟩ := L7.cell
   have HL7 := Lib.hid L7
   clear L7 hc6 hd6
   go_wp2_with fail
   refine (removed_lk HL7.out F bs' x (upB bs n) HXX.out HPP.out HREC.out).mono ?_
   rintro e w8 ⟨rfl, L8⟩
   obtain ⟨hc8, hd8⟩ := L8.cell
   have HL8 := Lib.hid L8
   clear L8 hc7 hd7
   go_wp2
   go_ret
   exact ⟨rfl, HL8.out.ar, HL8.out.gr⟩
  ·have HRN := Lib.hid hrd
   rw [hrd] at hrec
   simp only [remFin, if_true, Option.some.injEq] at hrec
   have HRES := Lib.hid hrec
   clear hrec
   go_enter Try.func16, Try.ntmps16
   go_wp2_with fail
   refine (check_lk HL0.out n).mono ?_
   rintro e w1 ⟨rfl, L1⟩
   rw [h0]
   obtain ⟨hc1, hd1⟩ := L1.cell
   have HL1 := Lib.hid L1
   clear L1 hc0 hd0
   go_wp2_with fail
   refine (get_lk HL1.out (n + 12)).mono ?_
   rintro e w2 ⟨rfl, L2⟩
   rw [h8]
   obtain ⟨hc2, hd2⟩ := L2.cell
   have HL2 := Lib.hid L2
   clear L2 hc1 hd1
   go_wp2_with fail
   refine region_settled (by kernel_rfl) [(32, .agg #[.pointer (some ⟨p, 0, none⟩), .int .i64 r]), (33, .int .i64 n), (34, .int .i64 (upB bs n)), (35, .agg #[.pointer (some ⟨p, 0, none⟩), .int .i64 r]), (36, .int .i64 n), (37, .bool (redB bs n)), (10, .int .i64 0), (11, .int .i64 (upB bs n)), (12, .bool (redB bs n))] (fun w' => Lk w w' p d r bs w.heap.size) rfl (by simp) rfl (edges_all (by kernel_rfl)) HL2.out.drew (settled_all (And.intro (st_box (t := 7) (p := p) (X := w.heap.size) (r := r) rfl rfl (.inl rfl) rfl rfl (fun _ h => Lk.cell h))
    (And.intro (st_move rfl rfl rfl (.inl rfl) (.inr ⟨9, rfl, .inl ⟨rfl, rfl⟩⟩))
    (And.intro (st_call (f := 43) (vs := #[.agg #[.pointer (some ⟨p, 0, none⟩), .int .i64 r], .int .i64 n]) rfl rfl rfl (.inl rfl) rfl (args2 (.inr ⟨32, rfl, .inr ⟨0, by kernel_rfl, rfl⟩⟩) (.inr ⟨33, rfl, .inr ⟨1, by kernel_rfl, rfl⟩⟩)) (enters_up _) (fun _ h => up_lk h n HN.out))
    (And.intro (st_box (t := 7) (p := p) (X := w.heap.size) (r := r) rfl rfl (.inl rfl) rfl rfl (fun _ h => Lk.cell h))
    (And.intro (st_move rfl rfl rfl (.inl rfl) (.inr ⟨9, rfl, .inl ⟨rfl, rfl⟩⟩))
    (And.intro (st_call (f := 44) (vs := #[.agg #[.pointer (some ⟨p, 0, none⟩), .int .i64 r], .int .i64 n]) rfl rfl rfl (.inl rfl) rfl (args2 (.inr ⟨35, rfl, .inr ⟨3, by kernel_rfl, rfl⟩⟩) (.inr ⟨36, rfl, .inr ⟨4, by kernel_rfl, rfl⟩⟩)) (enters_red _) (fun _ h => red_lk h n HN.out))
    (And.intro (st_assign rfl rfl rfl (.inl rfl) (.inl rfl))
    (And.intro (st_assign rfl rfl rfl (.inl rfl) (.inr ⟨34, rfl, .inr ⟨2, by kernel_rfl, rfl⟩⟩))
    (And.intro (st_assign rfl rfl rfl (.inl rfl) (.inr ⟨37, rfl, .inr ⟨5, by kernel_rfl, rfl⟩⟩))
    trivial)))))))))) ?_
   intro w3 L3
   simp only [puts, List.foldl_cons, List.foldl_nil, Act.put, List.setIfInBounds_toArray, List.set_cons_zero, List.set_cons_succ]
   obtain ⟨hc3, hd3⟩ := L3.cell
   have HL3 := Lib.hid L3
   clear L3 hc2 hd2
   go_wp2_with fail
   refine (child_lk HL3.out n 0 HN.out (.inl rfl)).mono ?_
   rintro e w4 ⟨rfl, L4⟩
   rw [HC0.out]
   obtain ⟨hc4, hd4⟩ := L4.cell
   have HL4 := Lib.hid L4
   clear L4 hc3 hd3
   go_wp2_with fail
   refine (child_lk HL4.out n 1 HN.out (.inr rfl)).mono ?_
   rintro e w5 ⟨rfl, L5⟩
   rw [HXV.out]
   obtain ⟨hc5, hd5⟩ := L5.cell
   have HL5 := Lib.hid L5
   clear L5 hc4 hd4
   go_wp2_with fail
   refine (place_lk HL5.out n x HN.out HXX.out).mono ?_
   rintro e w6 ⟨rfl, L6⟩
   obtain ⟨hc6, hd6⟩ := L6.cell
   have HL6 := Lib.hid L6
   clear L6 hc5 hd5
   go_wp2_with fail
   refine (fill_lk HL6.out n 20 0 (by omega) (by omega) (by omega)).mono ?_
   rintro e w7 ⟨rfl, L7⟩
   obtain ⟨hc7, hd7⟩ := L7.cell
   have HL7 := Lib.hid L7
   clear L7 hc6 hd6
   go_wp2
   go_ret
   exact ⟨rfl, HRES.out ▸ HL7.out.ar, HL7.out.gr⟩
 ·rw [if_neg hz0] at hrec
  have hb0 : (chB bs n 0 == 0) = false := beq_eq_false_iff_ne.2 hz0
  clear hz0
  by_cases hz1 : chB bs n 1 = 0
  ·rw [if_pos hz1] at hrec
   have HC1 := Lib.hid hz1
   obtain ⟨x, hx⟩ : ∃ x, chB bs n 0 = x := ⟨_, rfl⟩
   have HXX : Hid (pl x) := Lib.hid (by rw [← hx]; exact HL0.out.rng _)
   rw [hx] at hrec hb0
   have HXV := Lib.hid hx
   have HC0 := Lib.hid hx
   clear hz1 hx
   cases hrd : redB bs n
   ·have HRN := Lib.hid hrd
    rw [hrd] at hrec
    simp only [remFin, if_false, Bool.false_eq_true] at hrec
    have HREC := Lib.hid hrec
    clear hrec
    go_enter Try.func16, Try.ntmps16
    go_wp2_with fail
    refine (check_lk HL0.out n).mono ?_
    rintro e w1 ⟨rfl, L1⟩
    rw [h0]
    obtain ⟨hc1, hd1⟩ := L1.cell
    have HL1 := Lib.hid L1
    clear L1 hc0 hd0
    go_wp2_with fail
    refine (get_lk HL1.out (n + 12)).mono ?_
    rintro e w2 ⟨rfl, L2⟩
    rw [h8]
    obtain ⟨hc2, hd2⟩ := L2.cell
    have HL2 := Lib.hid L2
    clear L2 hc1 hd1
    go_wp2_with fail
    refine region_settled (by kernel_rfl) [(32, .agg #[.pointer (some ⟨p, 0, none⟩), .int .i64 r]), (33, .int .i64 n), (34, .int .i64 (upB bs n)), (35, .agg #[.pointer (some ⟨p, 0, none⟩), .int .i64 r]), (36, .int .i64 n), (37, .bool (redB bs n)), (10, .int .i64 0), (11, .int .i64 (upB bs n)), (12, .bool (redB bs n))] (fun w' => Lk w w' p d r bs w.heap.size) rfl (by simp) rfl (edges_all (by kernel_rfl)) HL2.out.drew (settled_all (And.intro (st_box (t := 7) (p := p) (X := w.heap.size) (r := r) rfl rfl (.inl rfl) rfl rfl (fun _ h => Lk.cell h))
     (And.intro (st_move rfl rfl rfl (.inl rfl) (.inr ⟨9, rfl, .inl ⟨rfl, rfl⟩⟩))
     (And.intro (st_call (f := 43) (vs := #[.agg #[.pointer (some ⟨p, 0, none⟩), .int .i64 r], .int .i64 n]) rfl rfl rfl (.inl rfl) rfl (args2 (.inr ⟨32, rfl, .inr ⟨0, by kernel_rfl, rfl⟩⟩) (.inr ⟨33, rfl, .inr ⟨1, by kernel_rfl, rfl⟩⟩)) (enters_up _) (fun _ h => up_lk h n HN.out))
     (And.intro (st_box (t := 7) (p := p) (X := w.heap.size) (r := r) rfl rfl (.inl rfl) rfl rfl (fun _ h => Lk.cell h))
     (And.intro (st_move rfl rfl rfl (.inl rfl) (.inr ⟨9, rfl, .inl ⟨rfl, rfl⟩⟩))
     (And.intro (st_call (f := 44) (vs := #[.agg #[.pointer (some ⟨p, 0, none⟩), .int .i64 r], .int .i64 n]) rfl rfl rfl (.inl rfl) rfl (args2 (.inr ⟨35, rfl, .inr ⟨3, by kernel_rfl, rfl⟩⟩) (.inr ⟨36, rfl, .inr ⟨4, by kernel_rfl, rfl⟩⟩)) (enters_red _) (fun _ h => red_lk h n HN.out))
     (And.intro (st_assign rfl rfl rfl (.inl rfl) (.inl rfl))
     (And.intro (st_assign rfl rfl rfl (.inl rfl) (.inr ⟨34, rfl, .inr ⟨2, by kernel_rfl, rfl⟩⟩))
     (And.intro (st_assign rfl rfl rfl (.inl rfl) (.inr ⟨37, rfl, .inr ⟨5, by kernel_rfl, rfl⟩⟩))
     trivial)))))))))) ?_
    intro w3 L3
    simp only [puts, List.foldl_cons, List.foldl_nil, Act.put, List.setIfInBounds_toArray, List.set_cons_zero, List.set_cons_succ]
    obtain ⟨hc3, hd3⟩ := L3.cell
    have HL3 := Lib.hid L3
    clear L3 hc2 hd2
    go_wp2_with fail
    refine (child_lk HL3.out n 0 HN.out (.inl rfl)).mono ?_
    rintro e w4 ⟨rfl, L4⟩
    rw [HC0.out]
    obtain ⟨hc4, hd4⟩ := L4.cell
    have HL4 := Lib.hid L4
    clear L4 hc3 hd3
    go_wp2_with fail
    refine (child_lk HL4.out n 1 HN.out (.inr rfl)).mono ?_
    rintro e w5 ⟨rfl, L5⟩
    rw [HC1.out]
    obtain ⟨hc5, hd5⟩ := L5.cell
    have HL5 := Lib.hid L5
    clear L5 hc4 hd4
    go_wp2_with fail
    refine (child_lk HL5.out n 0 HN.out (.inl rfl)).mono ?_
    rintro e w6 ⟨rfl, L6⟩
    rw [HXV.out]
    obtain ⟨hc6, hd6⟩ := L6.cell
    have HL6 := Lib.hid L6
    clear L6 hc5 hd5
    go_wp2_with fail
    refine (place_lk HL6.out n x HN.out HXX.out).mono ?_
    rintro e w7 ⟨rfl, L7⟩
    obtain ⟨hc7, hd7⟩ := L7.cell
    have HL7 := Lib.hid L7
    clear L7 hc6 hd6
    go_wp2_with fail
    refine (fill_lk HL7.out n 20 0 (by omega) (by omega) (by omega)).mono ?_
    rintro e w8 ⟨rfl, L8⟩
    obtain ⟨hc8, hd8⟩ := L8.cell
    have HL8 := Lib.hid L8
    clear L8 hc7 hd7
    go_wp2_with fail
    refine (removed_lk HL8.out F bs' x (upB bs n) HXX.out HPP.out HREC.out).mono ?_
    rintro e w9 ⟨rfl, L9⟩
    obtain ⟨hc9, hd9⟩ := L9.cell
    have HL9 := Lib.hid L9
    clear L9 hc8 hd8
    go_wp2
    go_ret
    exact ⟨rfl, HL9.out.ar, HL9.out.gr⟩
   ·have HRN := Lib.hid hrd
    rw [hrd] at hrec
    simp only [remFin, if_true, Option.some.injEq] at hrec
    have HRES := Lib.hid hrec
    clear hrec
    go_enter Try.func16, Try.ntmps16
    go_wp2_with fail
    refine (check_lk HL0.out n).mono ?_
    rintro e w1 ⟨rfl, L1⟩
    rw [h0]
    obtain ⟨hc1, hd1⟩ := L1.cell
    have HL1 := Lib.hid L1
    clear L1 hc0 hd0
    go_wp2_with fail
    refine (get_lk HL1.out (n + 12)).mono ?_
    rintro e w2 ⟨rfl, L2⟩
    rw [h8]
    obtain ⟨hc2, hd2⟩ := L2.cell
    have HL2 := Lib.hid L2
    clear L2 hc1 hd1
    go_wp2_with fail
    refine region_settled (by kernel_rfl) [(32, .agg #[.pointer (some ⟨p, 0, none⟩), .int .i64 r]), (33, .int .i64 n), (34, .int .i64 (upB bs n)), (35, .agg #[.pointer (some ⟨p, 0, none⟩), .int .i64 r]), (36, .int .i64 n), (37, .bool (redB bs n)), (10, .int .i64 0), (11, .int .i64 (upB bs n)), (12, .bool (redB bs n))] (fun w' => Lk w w' p d r bs w.heap.size) rfl (by simp) rfl (edges_all (by kernel_rfl)) HL2.out.drew (settled_all (And.intro (st_box (t := 7) (p := p) (X := w.heap.size) (r := r) rfl rfl (.inl rfl) rfl rfl (fun _ h => Lk.cell h))
     (And.intro (st_move rfl rfl rfl (.inl rfl) (.inr ⟨9, rfl, .inl ⟨rfl, rfl⟩⟩))
     (And.intro (st_call (f := 43) (vs := #[.agg #[.pointer (some ⟨p, 0, none⟩), .int .i64 r], .int .i64 n]) rfl rfl rfl (.inl rfl) rfl (args2 (.inr ⟨32, rfl, .inr ⟨0, by kernel_rfl, rfl⟩⟩) (.inr ⟨33, rfl, .inr ⟨1, by kernel_rfl, rfl⟩⟩)) (enters_up _) (fun _ h => up_lk h n HN.out))
     (And.intro (st_box (t := 7) (p := p) (X := w.heap.size) (r := r) rfl rfl (.inl rfl) rfl rfl (fun _ h => Lk.cell h))
     (And.intro (st_move rfl rfl rfl (.inl rfl) (.inr ⟨9, rfl, .inl ⟨rfl, rfl⟩⟩))
     (And.intro (st_call (f := 44) (vs := #[.agg #[.pointer (some ⟨p, 0, none⟩), .int .i64 r], .int .i64 n]) rfl rfl rfl (.inl rfl) rfl (args2 (.inr ⟨35, rfl, .inr ⟨3, by kernel_rfl, rfl⟩⟩) (.inr ⟨36, rfl, .inr ⟨4, by kernel_rfl, rfl⟩⟩)) (enters_red _) (fun _ h => red_lk h n HN.out))
     (And.intro (st_assign rfl rfl rfl (.inl rfl) (.inl rfl))
     (And.intro (st_assign rfl rfl rfl (.inl rfl) (.inr ⟨34, rfl, .inr ⟨2, by kernel_rfl, rfl⟩⟩))
     (And.intro (st_assign rfl rfl rfl (.inl rfl) (.inr ⟨37, rfl, .inr ⟨5, by kernel_rfl, rfl⟩⟩))
     trivial)))))))))) ?_
    intro w3 L3
    simp only [puts, List.foldl_cons, List.foldl_nil, Act.put, List.setIfInBounds_toArray, List.set_cons_zero, List.set_cons_succ]
    obtain ⟨hc3, hd3⟩ := L3.cell
    have HL3 := Lib.hid L3
    clear L3 hc2 hd2
    go_wp2_with fail
    refine (child_lk HL3.out n 0 HN.out (.inl rfl)).mono ?_
    rintro e w4 ⟨rfl, L4⟩
    rw [HC0.out]
    obtain ⟨hc4, hd4⟩ := L4.cell
    have HL4 := Lib.hid L4
    clear L4 hc3 hd3
    go_wp2_with fail
    refine (child_lk HL4.out n 1 HN.out (.inr rfl)).mono ?_
    rintro e w5 ⟨rfl, L5⟩
    rw [HC1.out]
    obtain ⟨hc5, hd5⟩ := L5.cell
    have HL5 := Lib.hid L5
    clear L5 hc4 hd4
    go_wp2_with fail
    refine (child_lk HL5.out n 0 HN.out (.inl rfl)).mono ?_
    rintro e w6 ⟨rfl, L6⟩
    rw [HXV.out]
    obtain ⟨hc6, hd6⟩ := L6.cell
    have HL6 := Lib.hid L6
    clear L6 hc5 hd5
    go_wp2_with fail
    refine (place_lk HL6.out n x HN.out HXX.out).mono ?_
    rintro e w7 ⟨rfl, L7⟩
    obtain ⟨hc7, hd7⟩ := L7.cell
    have HL7 := Lib.hid L7
    clear L7 hc6 hd6
    go_wp2_with fail
    refine (fill_lk HL7.out n 20 0 (by omega) (by omega) (by omega)).mono ?_
    rintro e w8 ⟨rfl, L8⟩
    obtain ⟨hc8, hd8⟩ := L8.cell
    have HL8 := Lib.hid L8
    clear L8 hc7 hd7
    go_wp2
    go_ret
    exact ⟨rfl, HRES.out ▸ HL8.out.ar, HL8.out.gr⟩
  ·rw [if_neg hz1] at hrec
   obtain ⟨c1, hc1⟩ : ∃ x, chB bs n 1 = x := ⟨_, rfl⟩
   rw [hc1] at hrec hz1
   have HC1 := Lib.hid hc1
   have HCC1 : Hid (pl c1) := Lib.hid (by rw [← hc1]; exact HL0.out.rng _)
   have hb1 : (c1 == 0) = false := beq_eq_false_iff_ne.2 hz1
   obtain ⟨y, hy⟩ : ∃ x, lowB bs 60 c1 = x := ⟨_, rfl⟩
   rw [hy] at hrec
   have HYV := Lib.hid hy
   have HY : Hid (pl y) := Lib.hid (by rw [← hy]; exact lowB_pl HRNG.out 60 _ HCC1.out)
   obtain ⟨x, hx⟩ : ∃ x, chB bs y 1 = x := ⟨_, rfl⟩
   have HXX : Hid (pl x) := Lib.hid (by rw [← hx]; exact HL0.out.rng _)
   rw [hx] at hrec
   have HXV := Lib.hid hx
   obtain ⟨u, hu⟩ : ∃ x, upB bs y = x := ⟨_, rfl⟩
   have HUP : Hid (pl u) := Lib.hid (by rw [← hu]; exact HL0.out.rng _)
   unfold remMid remP at hrec
   rw [hu, hx] at hrec
   have HU := Lib.hid hu
   clear hz1 hc1 hy hx hu
   by_cases hun : u = n
   ·rw [if_pos hun, if_pos hun] at hrec
    have hub : (u != n) = false := by rw [bne_eq_false_iff_eq]; exact hun
    clear HPP
    have HPP := HY
    clear hun
    cases hrd : redB bs y
    ·have HRY := Lib.hid hrd
     rw [hrd] at hrec
     simp only [remFin, if_false, Bool.false_eq_true] at hrec
     have HREC := Lib.hid hrec
     clear hrec
     go_enter Try.func16, Try.ntmps16
     go_wp2_with fail
     refine (check_lk HL0.out n).mono ?_
     rintro e w1 ⟨rfl, L1⟩
     rw [h0]
     obtain ⟨hc1, hd1⟩ := L1.cell
     have HL1 := Lib.hid L1
     clear L1 hc0 hd0
     go_wp2_with fail
     refine (get_lk HL1.out (n + 12)).mono ?_
     rintro e w2 ⟨rfl, L2⟩
     rw [h8]
     obtain ⟨hc2, hd2⟩ := L2.cell
     have HL2 := Lib.hid L2
     clear L2 hc1 hd1
     go_wp2_with fail
     refine region_settled (by kernel_rfl) [(32, .agg #[.pointer (some ⟨p, 0, none⟩), .int .i64 r]), (33, .int .i64 n), (34, .int .i64 (upB bs n)), (35, .agg #[.pointer (some ⟨p, 0, none⟩), .int .i64 r]), (36, .int .i64 n), (37, .bool (redB bs n)), (10, .int .i64 0), (11, .int .i64 (upB bs n)), (12, .bool (redB bs n))] (fun w' => Lk w w' p d r bs w.heap.size) rfl (by simp) rfl (edges_all (by kernel_rfl)) HL2.out.drew (settled_all (And.intro (st_box (t := 7) (p := p) (X := w.heap.size) (r := r) rfl rfl (.inl rfl) rfl rfl (fun _ h => Lk.cell h))
      (And.intro (st_move rfl rfl rfl (.inl rfl) (.inr ⟨9, rfl, .inl ⟨rfl, rfl⟩⟩))
      (And.intro (st_call (f := 43) (vs := #[.agg #[.pointer (some ⟨p, 0, none⟩), .int .i64 r], .int .i64 n]) rfl rfl rfl (.inl rfl) rfl (args2 (.inr ⟨32, rfl, .inr ⟨0, by kernel_rfl, rfl⟩⟩) (.inr ⟨33, rfl, .inr ⟨1, by kernel_rfl, rfl⟩⟩)) (enters_up _) (fun _ h => up_lk h n HN.out))
      (And.intro (st_box (t := 7) (p := p) (X := w.heap.size) (r := r) rfl rfl (.inl rfl) rfl rfl (fun _ h => Lk.cell h))
      (And.intro (st_move rfl rfl rfl (.inl rfl) (.inr ⟨9, rfl, .inl ⟨rfl, rfl⟩⟩))
      (And.intro (st_call (f := 44) (vs := #[.agg #[.pointer (some ⟨p, 0, none⟩), .int .i64 r], .int .i64 n]) rfl rfl rfl (.inl rfl) rfl (args2 (.inr ⟨35, rfl, .inr ⟨3, by kernel_rfl, rfl⟩⟩) (.inr ⟨36, rfl, .inr ⟨4, by kernel_rfl, rfl⟩⟩)) (enters_red _) (fun _ h => red_lk h n HN.out))
      (And.intro (st_assign rfl rfl rfl (.inl rfl) (.inl rfl))
      (And.intro (st_assign rfl rfl rfl (.inl rfl) (.inr ⟨34, rfl, .inr ⟨2, by kernel_rfl, rfl⟩⟩))
      (And.intro (st_assign rfl rfl rfl (.inl rfl) (.inr ⟨37, rfl, .inr ⟨5, by kernel_rfl, rfl⟩⟩))
      trivial)))))))))) ?_
     intro w3 L3
     simp only [puts, List.foldl_cons, List.foldl_nil, Act.put, List.setIfInBounds_toArray, List.set_cons_zero, List.set_cons_succ]
     obtain ⟨hc3, hd3⟩ := L3.cell
     have HL3 := Lib.hid L3
     clear L3 hc2 hd2
     go_wp2_with fail
     refine (child_lk HL3.out n 0 HN.out (.inl rfl)).mono ?_
     rintro e w4 ⟨rfl, L4⟩
     obtain ⟨hc4, hd4⟩ := L4.cell
     have HL4 := Lib.hid L4
     clear L4 hc3 hd3
     go_wp2_with fail
     refine (child_lk HL4.out n 1 HN.out (.inr rfl)).mono ?_
     rintro e w5 ⟨rfl, L5⟩
     rw [HC1.out]
     obtain ⟨hc5, hd5⟩ := L5.cell
     have HL5 := Lib.hid L5
     clear L5 hc4 hd4
     have HD5 := Lib.hid HL5.out.drew
     go_wp2_with fail
     go_region_held3 (fun w' => w'.cell? ⟨w.heap.size, 0, none⟩ = some (.pointer (some ⟨p, 0, none⟩)) ∧ w'.cell? ⟨w.heap.size, 1, none⟩ = some (.int .i64 r)) (first | exact HD5.out.cell | exact HL6.out.cell | exact HL7.out.cell) (first | (go_simp; go_at_call 36; refine (child_lk HD5.out n 1 HN.out (.inr rfl)).mono ?_; rintro e w6 ⟨rfl, L6⟩; rw [HC1.out]; have HL6 := Lib.hid L6; clear L6) | (go_simp; go_at_call 46; refine (lowest_lk HL6.out c1 HCC1.out).mono ?_; rintro e w7 ⟨rfl, L7⟩; rw [HYV.out]; have HL7 := Lib.hid L7; clear L7))
     obtain ⟨hc7, hd7⟩ := HL7.out.cell
     clear HD5 hc5 hd5
     go_wp2_with fail
     refine region_settled (by kernel_rfl) [(43, .agg #[.pointer (some ⟨p, 0, none⟩), .int .i64 r]), (44, .int .i64 y), (45, .int .i64 x), (46, .int .i64 y), (47, .agg #[.pointer (some ⟨p, 0, none⟩), .int .i64 r]), (48, .int .i64 y), (49, .bool false), (10, .int .i64 x), (11, .int .i64 y), (12, .bool false)] (fun w' => Lk w w' p d r bs w.heap.size) rfl (by simp) rfl (edges_all (by kernel_rfl)) HL7.out.drew (settled_all (And.intro (st_box (t := 7) (p := p) (X := w.heap.size) (r := r) rfl rfl (.inl rfl) rfl rfl (fun _ h => Lk.cell h))
      (And.intro (st_move rfl rfl rfl (.inl rfl) (.inr ⟨13, rfl, .inl ⟨rfl, rfl⟩⟩))
      (And.intro (st_call (f := 36) (vs := #[.agg #[.pointer (some ⟨p, 0, none⟩), .int .i64 r], .int .i64 y, .int .i64 1]) rfl rfl rfl (.inl rfl) rfl (args3 (.inr ⟨43, rfl, .inr ⟨0, by kernel_rfl, rfl⟩⟩) (.inr ⟨44, rfl, .inr ⟨1, by kernel_rfl, rfl⟩⟩) (.inl rfl)) (enters_child _) (fun w h => by have := child_lk h y 1 HY.out (.inr rfl); rw [HXV.out] at this; exact this))
      (And.intro (st_move rfl rfl rfl (.inl rfl) (.inr ⟨13, rfl, .inl ⟨rfl, rfl⟩⟩))
      (And.intro (st_box (t := 7) (p := p) (X := w.heap.size) (r := r) rfl rfl (.inl rfl) rfl rfl (fun _ h => Lk.cell h))
      (And.intro (st_move rfl rfl rfl (.inl rfl) (.inr ⟨13, rfl, .inl ⟨rfl, rfl⟩⟩))
      (And.intro (st_call (f := 44) (vs := #[.agg #[.pointer (some ⟨p, 0, none⟩), .int .i64 r], .int .i64 y]) rfl rfl rfl (.inl rfl) rfl (args2 (.inr ⟨47, rfl, .inr ⟨4, by kernel_rfl, rfl⟩⟩) (.inr ⟨48, rfl, .inr ⟨5, by kernel_rfl, rfl⟩⟩)) (enters_red _) (fun w h => by have := red_lk h y HY.out; rw [HRY.out] at this; exact this))
      (And.intro (st_assign rfl rfl rfl (.inl rfl) (.inr ⟨45, rfl, .inr ⟨2, by kernel_rfl, rfl⟩⟩))
      (And.intro (st_assign rfl rfl rfl (.inl rfl) (.inr ⟨46, rfl, .inr ⟨3, by kernel_rfl, rfl⟩⟩))
      (And.intro (st_assign rfl rfl rfl (.inl rfl) (.inr ⟨49, rfl, .inr ⟨6, by kernel_rfl, rfl⟩⟩))
      trivial))))))))))) ?_
     intro w8 L8
     simp only [puts, List.foldl_cons, List.foldl_nil, Act.put, List.setIfInBounds_toArray, List.set_cons_zero, List.set_cons_succ]
     obtain ⟨hc8, hd8⟩ := L8.cell
     have HL8 := Lib.hid L8
     clear L8 hc7 hd7
     go_wp2_with fail
     refine (up_lk HL8.out y HY.out).mono ?_
     rintro e w9 ⟨rfl, L9⟩
     rw [HU.out]
     obtain ⟨hc9, hd9⟩ := L9.cell
     have HL9 := Lib.hid L9
     clear L9 hc8 hd8
     go_wp2_with fail
     refine (place_lk HL9.out n y HN.out HY.out).mono ?_
     rintro e w10 ⟨rfl, L10⟩
     obtain ⟨hc10, hd10⟩ := L10.cell
     have HL10 := Lib.hid L10
     clear L10 hc9 hd9
     have HZ0 : Hid (pl (chB (placeB bs r n y) n 0)) := Lib.hid (HL10.out.rng _)
     have HD10 := Lib.hid HL10.out.drew
     go_wp2_with fail
     go_region_held3 (fun w' => w'.cell? ⟨w.heap.size, 0, none⟩ = some (.pointer (some ⟨p, 0, none⟩)) ∧ w'.cell? ⟨w.heap.size, 1, none⟩ = some (.int .i64 r)) (first | exact HD10.out.cell | exact HL11.out.cell | exact HL12.out.cell) (first | (go_simp; go_at_call 36; refine (child_lk HD10.out n 0 HN.out (.inl rfl)).mono ?_; rintro e w11 ⟨rfl, L11⟩; have HL11 := Lib.hid L11; clear L11) | (go_simp; go_at_call 40; refine (join_lk HL11.out y 0 (chB (placeB bs r n y) n 0) HY.out (.inl rfl) HZ0.out).mono ?_; rintro e w12 ⟨rfl, L12⟩; have HL12 := Lib.hid L12; clear L12))
     obtain ⟨hc12, hd12⟩ := HL12.out.cell
     clear HD10 hc10 hd10
     have HD12 := Lib.hid HL12.out.drew
     go_wp2_with fail
     go_region_held3 (fun w' => w'.cell? ⟨w.heap.size, 0, none⟩ = some (.pointer (some ⟨p, 0, none⟩)) ∧ w'.cell? ⟨w.heap.size, 1, none⟩ = some (.int .i64 r)) (first | exact HD12.out.cell | exact HL13.out.cell | exact HL14.out.cell) (first | (go_simp; go_at_call 44; refine (red_lk HD12.out n HN.out).mono ?_; rintro e w13 ⟨rfl, L13⟩; have HL13 := Lib.hid L13; clear L13) | (go_simp; go_at_call 39; refine (paint_lk HL13.out y (redB (joinB (placeB bs r n y) y 0 (chB (placeB bs r n y) n 0)) n) HY.out).mono ?_; rintro e w14 ⟨rfl, L14⟩; have HL14 := Lib.hid L14; clear L14))
     obtain ⟨hc14, hd14⟩ := HL14.out.cell
     clear HD12 hc12 hd12
     have HL14b : Hid (Lk w w14 p d r (remEnd bs r n y) w.heap.size) := HL14
     clear HL14
     have HL14 := HL14b
     clear HL14b
     go_wp2_with fail
     refine (fill_lk HL14.out n 20 0 (by omega) (by omega) (by omega)).mono ?_
     rintro e w15 ⟨rfl, L15⟩
     obtain ⟨hc15, hd15⟩ := L15.cell
     have HL15 := Lib.hid L15
     clear L15 hc14 hd14
     go_wp2_with fail
     refine (removed_lk HL15.out F bs' x y HXX.out HPP.out HREC.out).mono ?_
     rintro e w16 ⟨rfl, L16⟩
     obtain ⟨hc16, hd16⟩ := L16.cell
     have HL16 := Lib.hid L16
     clear L16 hc15 hd15
     go_wp2
     go_ret
     exact ⟨rfl, HL16.out.ar, HL16.out.gr⟩
    ·have HRY := Lib.hid hrd
     rw [hrd] at hrec
     simp only [remFin, if_true, Option.some.injEq] at hrec
     have HRES := Lib.hid hrec
     clear hrec
     go_enter Try.func16, Try.ntmps16
     go_wp2_with fail
     refine (check_lk HL0.out n).mono ?_
     rintro e w1 ⟨rfl, L1⟩
     rw [h0]
     obtain ⟨hc1, hd1⟩ := L1.cell
     have HL1 := Lib.hid L1
     clear L1 hc0 hd0
     go_wp2_with fail
     refine (get_lk HL1.out (n + 12)).mono ?_
     rintro e w2 ⟨rfl, L2⟩
     rw [h8]
     obtain ⟨hc2, hd2⟩ := L2.cell
     have HL2 := Lib.hid L2
     clear L2 hc1 hd1
     go_wp2_with fail
     refine region_settled (by kernel_rfl) [(32, .agg #[.pointer (some ⟨p, 0, none⟩), .int .i64 r]), (33, .int .i64 n), (34, .int .i64 (upB bs n)), (35, .agg #[.pointer (some ⟨p, 0, none⟩), .int .i64 r]), (36, .int .i64 n), (37, .bool (redB bs n)), (10, .int .i64 0), (11, .int .i64 (upB bs n)), (12, .bool (redB bs n))] (fun w' => Lk w w' p d r bs w.heap.size) rfl (by simp) rfl (edges_all (by kernel_rfl)) HL2.out.drew (settled_all (And.intro (st_box (t := 7) (p := p) (X := w.heap.size) (r := r) rfl rfl (.inl rfl) rfl rfl (fun _ h => Lk.cell h))
      (And.intro (st_move rfl rfl rfl (.inl rfl) (.inr ⟨9, rfl, .inl ⟨rfl, rfl⟩⟩))
      (And.intro (st_call (f := 43) (vs := #[.agg #[.pointer (some ⟨p, 0, none⟩), .int .i64 r], .int .i64 n]) rfl rfl rfl (.inl rfl) rfl (args2 (.inr ⟨32, rfl, .inr ⟨0, by kernel_rfl, rfl⟩⟩) (.inr ⟨33, rfl, .inr ⟨1, by kernel_rfl, rfl⟩⟩)) (enters_up _) (fun _ h => up_lk h n HN.out))
      (And.intro (st_box (t := 7) (p := p) (X := w.heap.size) (r := r) rfl rfl (.inl rfl) rfl rfl (fun _ h => Lk.cell h))
      (And.intro (st_move rfl rfl rfl (.inl rfl) (.inr ⟨9, rfl, .inl ⟨rfl, rfl⟩⟩))
      (And.intro (st_call (f := 44) (vs := #[.agg #[.pointer (some ⟨p, 0, none⟩), .int .i64 r], .int .i64 n]) rfl rfl rfl (.inl rfl) rfl (args2 (.inr ⟨35, rfl, .inr ⟨3, by kernel_rfl, rfl⟩⟩) (.inr ⟨36, rfl, .inr ⟨4, by kernel_rfl, rfl⟩⟩)) (enters_red _) (fun _ h => red_lk h n HN.out))
      (And.intro (st_assign rfl rfl rfl (.inl rfl) (.inl rfl))
      (And.intro (st_assign rfl rfl rfl (.inl rfl) (.inr ⟨34, rfl, .inr ⟨2, by kernel_rfl, rfl⟩⟩))
      (And.intro (st_assign rfl rfl rfl (.inl rfl) (.inr ⟨37, rfl, .inr ⟨5, by kernel_rfl, rfl⟩⟩))
      trivial)))))))))) ?_
     intro w3 L3
     simp only [puts, List.foldl_cons, List.foldl_nil, Act.put, List.setIfInBounds_toArray, List.set_cons_zero, List.set_cons_succ]
     obtain ⟨hc3, hd3⟩ := L3.cell
     have HL3 := Lib.hid L3
     clear L3 hc2 hd2
     go_wp2_with fail
     refine (child_lk HL3.out n 0 HN.out (.inl rfl)).mono ?_
     rintro e w4 ⟨rfl, L4⟩
     obtain ⟨hc4, hd4⟩ := L4.cell
     have HL4 := Lib.hid L4
     clear L4 hc3 hd3
     go_wp2_with fail
     refine (child_lk HL4.out n 1 HN.out (.inr rfl)).mono ?_
     rintro e w5 ⟨rfl, L5⟩
     rw [HC1.out]
     obtain ⟨hc5, hd5⟩ := L5.cell
     have HL5 := Lib.hid L5
     clear L5 hc4 hd4
     have HD5 := Lib.hid HL5.out.drew
     go_wp2_with fail
     go_region_held3 (fun w' => w'.cell? ⟨w.heap.size, 0, none⟩ = some (.pointer (some ⟨p, 0, none⟩)) ∧ w'.cell? ⟨w.heap.size, 1, none⟩ = some (.int .i64 r)) (first | exact HD5.out.cell | exact HL6.out.cell | exact HL7.out.cell) (first | (go_simp; go_at_call 36; refine (child_lk HD5.out n 1 HN.out (.inr rfl)).mono ?_; rintro e w6 ⟨rfl, L6⟩; rw [HC1.out]; have HL6 := Lib.hid L6; clear L6) | (go_simp; go_at_call 46; refine (lowest_lk HL6.out c1 HCC1.out).mono ?_; rintro e w7 ⟨rfl, L7⟩; rw [HYV.out]; have HL7 := Lib.hid L7; clear L7))
     obtain ⟨hc7, hd7⟩ := HL7.out.cell
     clear HD5 hc5 hd5
     go_wp2_with fail
     refine region_settled (by kernel_rfl) [(43, .agg #[.pointer (some ⟨p, 0, none⟩), .int .i64 r]), (44, .int .i64 y), (45, .int .i64 x), (46, .int .i64 y), (47, .agg #[.pointer (some ⟨p, 0, none⟩), .int .i64 r]), (48, .int .i64 y), (49, .bool true), (10, .int .i64 x), (11, .int .i64 y), (12, .bool true)] (fun w' => Lk w w' p d r bs w.heap.size) rfl (by simp) rfl (edges_all (by kernel_rfl)) HL7.out.drew (settled_all (And.intro (st_box (t := 7) (p := p) (X := w.heap.size) (r := r) rfl rfl (.inl rfl) rfl rfl (fun _ h => Lk.cell h))
      (And.intro (st_move rfl rfl rfl (.inl rfl) (.inr ⟨13, rfl, .inl ⟨rfl, rfl⟩⟩))
      (And.intro (st_call (f := 36) (vs := #[.agg #[.pointer (some ⟨p, 0, none⟩), .int .i64 r], .int .i64 y, .int .i64 1]) rfl rfl rfl (.inl rfl) rfl (args3 (.inr ⟨43, rfl, .inr ⟨0, by kernel_rfl, rfl⟩⟩) (.inr ⟨44, rfl, .inr ⟨1, by kernel_rfl, rfl⟩⟩) (.inl rfl)) (enters_child _) (fun w h => by have := child_lk h y 1 HY.out (.inr rfl); rw [HXV.out] at this; exact this))
      (And.intro (st_move rfl rfl rfl (.inl rfl) (.inr ⟨13, rfl, .inl ⟨rfl, rfl⟩⟩))
      (And.intro (st_box (t := 7) (p := p) (X := w.heap.size) (r := r) rfl rfl (.inl rfl) rfl rfl (fun _ h => Lk.cell h))
      (And.intro (st_move rfl rfl rfl (.inl rfl) (.inr ⟨13, rfl, .inl ⟨rfl, rfl⟩⟩))
      (And.intro (st_call (f := 44) (vs := #[.agg #[.pointer (some ⟨p, 0, none⟩), .int .i64 r], .int .i64 y]) rfl rfl rfl (.inl rfl) rfl (args2 (.inr ⟨47, rfl, .inr ⟨4, by kernel_rfl, rfl⟩⟩) (.inr ⟨48, rfl, .inr ⟨5, by kernel_rfl, rfl⟩⟩)) (enters_red _) (fun w h => by have := red_lk h y HY.out; rw [HRY.out] at this; exact this))
      (And.intro (st_assign rfl rfl rfl (.inl rfl) (.inr ⟨45, rfl, .inr ⟨2, by kernel_rfl, rfl⟩⟩))
      (And.intro (st_assign rfl rfl rfl (.inl rfl) (.inr ⟨46, rfl, .inr ⟨3, by kernel_rfl, rfl⟩⟩))
      (And.intro (st_assign rfl rfl rfl (.inl rfl) (.inr ⟨49, rfl, .inr ⟨6, by kernel_rfl, rfl⟩⟩))
      trivial))))))))))) ?_
     intro w8 L8
     simp only [puts, List.foldl_cons, List.foldl_nil, Act.put, List.setIfInBounds_toArray, List.set_cons_zero, List.set_cons_succ]
     obtain ⟨hc8, hd8⟩ := L8.cell
     have HL8 := Lib.hid L8
     clear L8 hc7 hd7
     go_wp2_with fail
     refine (up_lk HL8.out y HY.out).mono ?_
     rintro e w9 ⟨rfl, L9⟩
     rw [HU.out]
     obtain ⟨hc9, hd9⟩ := L9.cell
     have HL9 := Lib.hid L9
     clear L9 hc8 hd8
     go_wp2_with fail
     refine (place_lk HL9.out n y HN.out HY.out).mono ?_
     rintro e w10 ⟨rfl, L10⟩
     obtain ⟨hc10, hd10⟩ := L10.cell
     have HL10 := Lib.hid L10
     clear L10 hc9 hd9
     have HZ0 : Hid (pl (chB (placeB bs r n y) n 0)) := Lib.hid (HL10.out.rng _)
     have HD10 := Lib.hid HL10.out.drew
     go_wp2_with fail
     go_region_held3 (fun w' => w'.cell? ⟨w.heap.size, 0, none⟩ = some (.pointer (some ⟨p, 0, none⟩)) ∧ w'.cell? ⟨w.heap.size, 1, none⟩ = some (.int .i64 r)) (first | exact HD10.out.cell | exact HL11.out.cell | exact HL12.out.cell) (first | (go_simp; go_at_call 36; refine (child_lk HD10.out n 0 HN.out (.inl rfl)).mono ?_; rintro e w11 ⟨rfl, L11⟩; have HL11 := Lib.hid L11; clear L11) | (go_simp; go_at_call 40; refine (join_lk HL11.out y 0 (chB (placeB bs r n y) n 0) HY.out (.inl rfl) HZ0.out).mono ?_; rintro e w12 ⟨rfl, L12⟩; have HL12 := Lib.hid L12; clear L12))
     obtain ⟨hc12, hd12⟩ := HL12.out.cell
     clear HD10 hc10 hd10
     have HD12 := Lib.hid HL12.out.drew
     go_wp2_with fail
     go_region_held3 (fun w' => w'.cell? ⟨w.heap.size, 0, none⟩ = some (.pointer (some ⟨p, 0, none⟩)) ∧ w'.cell? ⟨w.heap.size, 1, none⟩ = some (.int .i64 r)) (first | exact HD12.out.cell | exact HL13.out.cell | exact HL14.out.cell) (first | (go_simp; go_at_call 44; refine (red_lk HD12.out n HN.out).mono ?_; rintro e w13 ⟨rfl, L13⟩; have HL13 := Lib.hid L13; clear L13) | (go_simp; go_at_call 39; refine (paint_lk HL13.out y (redB (joinB (placeB bs r n y) y 0 (chB (placeB bs r n y) n 0)) n) HY.out).mono ?_; rintro e w14 ⟨rfl, L14⟩; have HL14 := Lib.hid L14; clear L14))
     obtain ⟨hc14, hd14⟩ := HL14.out.cell
     clear HD12 hc12 hd12
     have HL14b : Hid (Lk w w14 p d r (remEnd bs r n y) w.heap.size) := HL14
     clear HL14
     have HL14 := HL14b
     clear HL14b
     go_wp2_with fail
     refine (fill_lk HL14.out n 20 0 (by omega) (by omega) (by omega)).mono ?_
     rintro e w15 ⟨rfl, L15⟩
     obtain ⟨hc15, hd15⟩ := L15.cell
     have HL15 := Lib.hid L15
     clear L15 hc14 hd14
     go_wp2
     go_ret
     exact ⟨rfl, HRES.out ▸ HL15.out.ar, HL15.out.gr⟩
   ·rw [if_neg hun, if_neg hun] at hrec
    have hub : (u != n) = true := by rw [bne_iff_ne]; exact hun
    clear HPP
    have HPP := HUP
    obtain ⟨b1, hbb⟩ : ∃ b, joinB (placeB bs r y x) y 1 (chB (placeB bs r y x) n 1) = b := ⟨_, rfl⟩
    rw [hbb] at hrec
    have HB1 := Lib.hid hbb
    clear hun hbb
    cases hrd : redB bs y
    ·have HRY := Lib.hid hrd
     rw [hrd] at hrec
     simp only [remFin, if_false, Bool.false_eq_true] at hrec
     have HREC := Lib.hid hrec
     clear hrec
     go_enter Try.func16, Try.ntmps16
     go_wp2_with fail
     refine (check_lk HL0.out n).mono ?_
     rintro e w1 ⟨rfl, L1⟩
     rw [h0]
     obtain ⟨hc1, hd1⟩ := L1.cell
     have HL1 := Lib.hid L1
     clear L1 hc0 hd0
     go_wp2_with fail
     refine (get_lk HL1.out (n + 12)).mono ?_
     rintro e w2 ⟨rfl, L2⟩
     rw [h8]
     obtain ⟨hc2, hd2⟩ := L2.cell
     have HL2 := Lib.hid L2
     clear L2 hc1 hd1
     go_wp2_with fail
     refine region_settled (by kernel_rfl) [(32, .agg #[.pointer (some ⟨p, 0, none⟩), .int .i64 r]), (33, .int .i64 n), (34, .int .i64 (upB bs n)), (35, .agg #[.pointer (some ⟨p, 0, none⟩), .int .i64 r]), (36, .int .i64 n), (37, .bool (redB bs n)), (10, .int .i64 0), (11, .int .i64 (upB bs n)), (12, .bool (redB bs n))] (fun w' => Lk w w' p d r bs w.heap.size) rfl (by simp) rfl (edges_all (by kernel_rfl)) HL2.out.drew (settled_all (And.intro (st_box (t := 7) (p := p) (X := w.heap.size) (r := r) rfl rfl (.inl rfl) rfl rfl (fun _ h => Lk.cell h))
      (And.intro (st_move rfl rfl rfl (.inl rfl) (.inr ⟨9, rfl, .inl ⟨rfl, rfl⟩⟩))
      (And.intro (st_call (f := 43) (vs := #[.agg #[.pointer (some ⟨p, 0, none⟩), .int .i64 r], .int .i64 n]) rfl rfl rfl (.inl rfl) rfl (args2 (.inr ⟨32, rfl, .inr ⟨0, by kernel_rfl, rfl⟩⟩) (.inr ⟨33, rfl, .inr ⟨1, by kernel_rfl, rfl⟩⟩)) (enters_up _) (fun _ h => up_lk h n HN.out))
      (And.intro (st_box (t := 7) (p := p) (X := w.heap.size) (r := r) rfl rfl (.inl rfl) rfl rfl (fun _ h => Lk.cell h))
      (And.intro (st_move rfl rfl rfl (.inl rfl) (.inr ⟨9, rfl, .inl ⟨rfl, rfl⟩⟩))
      (And.intro (st_call (f := 44) (vs := #[.agg #[.pointer (some ⟨p, 0, none⟩), .int .i64 r], .int .i64 n]) rfl rfl rfl (.inl rfl) rfl (args2 (.inr ⟨35, rfl, .inr ⟨3, by kernel_rfl, rfl⟩⟩) (.inr ⟨36, rfl, .inr ⟨4, by kernel_rfl, rfl⟩⟩)) (enters_red _) (fun _ h => red_lk h n HN.out))
      (And.intro (st_assign rfl rfl rfl (.inl rfl) (.inl rfl))
      (And.intro (st_assign rfl rfl rfl (.inl rfl) (.inr ⟨34, rfl, .inr ⟨2, by kernel_rfl, rfl⟩⟩))
      (And.intro (st_assign rfl rfl rfl (.inl rfl) (.inr ⟨37, rfl, .inr ⟨5, by kernel_rfl, rfl⟩⟩))
      trivial)))))))))) ?_
     intro w3 L3
     simp only [puts, List.foldl_cons, List.foldl_nil, Act.put, List.setIfInBounds_toArray, List.set_cons_zero, List.set_cons_succ]
     obtain ⟨hc3, hd3⟩ := L3.cell
     have HL3 := Lib.hid L3
     clear L3 hc2 hd2
     go_wp2_with fail
     refine (child_lk HL3.out n 0 HN.out (.inl rfl)).mono ?_
     rintro e w4 ⟨rfl, L4⟩
     obtain ⟨hc4, hd4⟩ := L4.cell
     have HL4 := Lib.hid L4
     clear L4 hc3 hd3
     go_wp2_with fail
     refine (child_lk HL4.out n 1 HN.out (.inr rfl)).mono ?_
     rintro e w5 ⟨rfl, L5⟩
     rw [HC1.out]
     obtain ⟨hc5, hd5⟩ := L5.cell
     have HL5 := Lib.hid L5
     clear L5 hc4 hd4
     have HD5 := Lib.hid HL5.out.drew
     go_wp2_with fail
     go_region_held3 (fun w' => w'.cell? ⟨w.heap.size, 0, none⟩ = some (.pointer (some ⟨p, 0, none⟩)) ∧ w'.cell? ⟨w.heap.size, 1, none⟩ = some (.int .i64 r)) (first | exact HD5.out.cell | exact HL6.out.cell | exact HL7.out.cell) (first | (go_simp; go_at_call 36; refine (child_lk HD5.out n 1 HN.out (.inr rfl)).mono ?_; rintro e w6 ⟨rfl, L6⟩; rw [HC1.out]; have HL6 := Lib.hid L6; clear L6) | (go_simp; go_at_call 46; refine (lowest_lk HL6.out c1 HCC1.out).mono ?_; rintro e w7 ⟨rfl, L7⟩; rw [HYV.out]; have HL7 := Lib.hid L7; clear L7))
     obtain ⟨hc7, hd7⟩ := HL7.out.cell
     clear HD5 hc5 hd5
     go_wp2_with fail
     refine region_settled (by kernel_rfl) [(43, .agg #[.pointer (some ⟨p, 0, none⟩), .int .i64 r]), (44, .int .i64 y), (45, .int .i64 x), (46, .int .i64 y), (47, .agg #[.pointer (some ⟨p, 0, none⟩), .int .i64 r]), (48, .int .i64 y), (49, .bool false), (10, .int .i64 x), (11, .int .i64 y), (12, .bool false)] (fun w' => Lk w w' p d r bs w.heap.size) rfl (by simp) rfl (edges_all (by kernel_rfl)) HL7.out.drew (settled_all (And.intro (st_box (t := 7) (p := p) (X := w.heap.size) (r := r) rfl rfl (.inl rfl) rfl rfl (fun _ h => Lk.cell h))
      (And.intro (st_move rfl rfl rfl (.inl rfl) (.inr ⟨13, rfl, .inl ⟨rfl, rfl⟩⟩))
      (And.intro (st_call (f := 36) (vs := #[.agg #[.pointer (some ⟨p, 0, none⟩), .int .i64 r], .int .i64 y, .int .i64 1]) rfl rfl rfl (.inl rfl) rfl (args3 (.inr ⟨43, rfl, .inr ⟨0, by kernel_rfl, rfl⟩⟩) (.inr ⟨44, rfl, .inr ⟨1, by kernel_rfl, rfl⟩⟩) (.inl rfl)) (enters_child _) (fun w h => by have := child_lk h y 1 HY.out (.inr rfl); rw [HXV.out] at this; exact this))
      (And.intro (st_move rfl rfl rfl (.inl rfl) (.inr ⟨13, rfl, .inl ⟨rfl, rfl⟩⟩))
      (And.intro (st_box (t := 7) (p := p) (X := w.heap.size) (r := r) rfl rfl (.inl rfl) rfl rfl (fun _ h => Lk.cell h))
      (And.intro (st_move rfl rfl rfl (.inl rfl) (.inr ⟨13, rfl, .inl ⟨rfl, rfl⟩⟩))
      (And.intro (st_call (f := 44) (vs := #[.agg #[.pointer (some ⟨p, 0, none⟩), .int .i64 r], .int .i64 y]) rfl rfl rfl (.inl rfl) rfl (args2 (.inr ⟨47, rfl, .inr ⟨4, by kernel_rfl, rfl⟩⟩) (.inr ⟨48, rfl, .inr ⟨5, by kernel_rfl, rfl⟩⟩)) (enters_red _) (fun w h => by have := red_lk h y HY.out; rw [HRY.out] at this; exact this))
      (And.intro (st_assign rfl rfl rfl (.inl rfl) (.inr ⟨45, rfl, .inr ⟨2, by kernel_rfl, rfl⟩⟩))
      (And.intro (st_assign rfl rfl rfl (.inl rfl) (.inr ⟨46, rfl, .inr ⟨3, by kernel_rfl, rfl⟩⟩))
      (And.intro (st_assign rfl rfl rfl (.inl rfl) (.inr ⟨49, rfl, .inr ⟨6, by kernel_rfl, rfl⟩⟩))
      trivial))))))))))) ?_
     intro w8 L8
     simp only [puts, List.foldl_cons, List.foldl_nil, Act.put, List.setIfInBounds_toArray, List.set_cons_zero, List.set_cons_succ]
     obtain ⟨hc8, hd8⟩ := L8.cell
     have HL8 := Lib.hid L8
     clear L8 hc7 hd7
     go_wp2_with fail
     refine (up_lk HL8.out y HY.out).mono ?_
     rintro e w9 ⟨rfl, L9⟩
     rw [HU.out]
     obtain ⟨hc9, hd9⟩ := L9.cell
     have HL9 := Lib.hid L9
     clear L9 hc8 hd8
     go_wp2_with fail
     refine (up_lk HL9.out y HY.out).mono ?_
     rintro e w10 ⟨rfl, L10⟩
     rw [HU.out]
     obtain ⟨hc10, hd10⟩ := L10.cell
     have HL10 := Lib.hid L10
     clear L10 hc9 hd9
     go_wp2_with fail
     refine (place_lk HL10.out y x HY.out HXX.out).mono ?_
     rintro e w11 ⟨rfl, L11⟩
     obtain ⟨hc11, hd11⟩ := L11.cell
     have HL11 := Lib.hid L11
     clear L11 hc10 hd10
     have HZ1 : Hid (pl (chB (placeB bs r y x) n 1)) := Lib.hid (HL11.out.rng _)
     have HD11 := Lib.hid HL11.out.drew
     go_wp2_with fail
     go_region_held3 (fun w' => w'.cell? ⟨w.heap.size, 0, none⟩ = some (.pointer (some ⟨p, 0, none⟩)) ∧ w'.cell? ⟨w.heap.size, 1, none⟩ = some (.int .i64 r)) (first | exact HD11.out.cell | exact HL12.out.cell | exact HL13.out.cell) (first | (go_simp; go_at_call 36; refine (child_lk HD11.out n 1 HN.out (.inr rfl)).mono ?_; rintro e w12 ⟨rfl, L12⟩; have HL12 := Lib.hid L12; clear L12) | (go_simp; go_at_call 40; refine (join_lk HL12.out y 1 (chB (placeB bs r y x) n 1) HY.out (.inr rfl) HZ1.out).mono ?_; rintro e w13 ⟨rfl, L13⟩; have HL13 := Lib.hid L13; clear L13))
     obtain ⟨hc13, hd13⟩ := HL13.out.cell
     clear HD11 hc11 hd11
     have HL13b : Hid (Lk w w13 p d r b1 w.heap.size) := Lib.hid (by rw [← HB1.out]; exact HL13.out)
     clear HL13
     have HL13 := HL13b
     clear HL13b
     go_wp2_with fail
     refine (place_lk HL13.out n y HN.out HY.out).mono ?_
     rintro e w14 ⟨rfl, L14⟩
     obtain ⟨hc14, hd14⟩ := L14.cell
     have HL14 := Lib.hid L14
     clear L14 hc13 hd13
     have HZ0 : Hid (pl (chB (placeB b1 r n y) n 0)) := Lib.hid (HL14.out.rng _)
     have HD14 := Lib.hid HL14.out.drew
     go_wp2_with fail
     go_region_held3 (fun w' => w'.cell? ⟨w.heap.size, 0, none⟩ = some (.pointer (some ⟨p, 0, none⟩)) ∧ w'.cell? ⟨w.heap.size, 1, none⟩ = some (.int .i64 r)) (first | exact HD14.out.cell | exact HL15.out.cell | exact HL16.out.cell) (first | (go_simp; go_at_call 36; refine (child_lk HD14.out n 0 HN.out (.inl rfl)).mono ?_; rintro e w15 ⟨rfl, L15⟩; have HL15 := Lib.hid L15; clear L15) | (go_simp; go_at_call 40; refine (join_lk HL15.out y 0 (chB (placeB b1 r n y) n 0) HY.out (.inl rfl) HZ0.out).mono ?_; rintro e w16 ⟨rfl, L16⟩; have HL16 := Lib.hid L16; clear L16))
     obtain ⟨hc16, hd16⟩ := HL16.out.cell
     clear HD14 hc14 hd14
     have HD16 := Lib.hid HL16.out.drew
     go_wp2_with fail
     go_region_held3 (fun w' => w'.cell? ⟨w.heap.size, 0, none⟩ = some (.pointer (some ⟨p, 0, none⟩)) ∧ w'.cell? ⟨w.heap.size, 1, none⟩ = some (.int .i64 r)) (first | exact HD16.out.cell | exact HL17.out.cell | exact HL18.out.cell) (first | (go_simp; go_at_call 44; refine (red_lk HD16.out n HN.out).mono ?_; rintro e w17 ⟨rfl, L17⟩; have HL17 := Lib.hid L17; clear L17) | (go_simp; go_at_call 39; refine (paint_lk HL17.out y (redB (joinB (placeB b1 r n y) y 0 (chB (placeB b1 r n y) n 0)) n) HY.out).mono ?_; rintro e w18 ⟨rfl, L18⟩; have HL18 := Lib.hid L18; clear L18))
     obtain ⟨hc18, hd18⟩ := HL18.out.cell
     clear HD16 hc16 hd16
     have HL18b : Hid (Lk w w18 p d r (remEnd b1 r n y) w.heap.size) := HL18
     clear HL18
     have HL18 := HL18b
     clear HL18b
     go_wp2_with fail
     refine (fill_lk HL18.out n 20 0 (by omega) (by omega) (by omega)).mono ?_
     rintro e w19 ⟨rfl, L19⟩
     obtain ⟨hc19, hd19⟩ := L19.cell
     have HL19 := Lib.hid L19
     clear L19 hc18 hd18
     go_wp2_with fail
     refine (removed_lk HL19.out F bs' x u HXX.out HPP.out HREC.out).mono ?_
     rintro e w20 ⟨rfl, L20⟩
     obtain ⟨hc20, hd20⟩ := L20.cell
     have HL20 := Lib.hid L20
     clear L20 hc19 hd19
     go_wp2
     go_ret
     exact ⟨rfl, HL20.out.ar, HL20.out.gr⟩
    ·have HRY := Lib.hid hrd
     rw [hrd] at hrec
     simp only [remFin, if_true, Option.some.injEq] at hrec
     have HRES := Lib.hid hrec
     clear hrec
     go_enter Try.func16, Try.ntmps16
     go_wp2_with fail
     refine (check_lk HL0.out n).mono ?_
     rintro e w1 ⟨rfl, L1⟩
     rw [h0]
     obtain ⟨hc1, hd1⟩ := L1.cell
     have HL1 := Lib.hid L1
     clear L1 hc0 hd0
     go_wp2_with fail
     refine (get_lk HL1.out (n + 12)).mono ?_
     rintro e w2 ⟨rfl, L2⟩
     rw [h8]
     obtain ⟨hc2, hd2⟩ := L2.cell
     have HL2 := Lib.hid L2
     clear L2 hc1 hd1
     go_wp2_with fail
     refine region_settled (by kernel_rfl) [(32, .agg #[.pointer (some ⟨p, 0, none⟩), .int .i64 r]), (33, .int .i64 n), (34, .int .i64 (upB bs n)), (35, .agg #[.pointer (some ⟨p, 0, none⟩), .int .i64 r]), (36, .int .i64 n), (37, .bool (redB bs n)), (10, .int .i64 0), (11, .int .i64 (upB bs n)), (12, .bool (redB bs n))] (fun w' => Lk w w' p d r bs w.heap.size) rfl (by simp) rfl (edges_all (by kernel_rfl)) HL2.out.drew (settled_all (And.intro (st_box (t := 7) (p := p) (X := w.heap.size) (r := r) rfl rfl (.inl rfl) rfl rfl (fun _ h => Lk.cell h))
      (And.intro (st_move rfl rfl rfl (.inl rfl) (.inr ⟨9, rfl, .inl ⟨rfl, rfl⟩⟩))
      (And.intro (st_call (f := 43) (vs := #[.agg #[.pointer (some ⟨p, 0, none⟩), .int .i64 r], .int .i64 n]) rfl rfl rfl (.inl rfl) rfl (args2 (.inr ⟨32, rfl, .inr ⟨0, by kernel_rfl, rfl⟩⟩) (.inr ⟨33, rfl, .inr ⟨1, by kernel_rfl, rfl⟩⟩)) (enters_up _) (fun _ h => up_lk h n HN.out))
      (And.intro (st_box (t := 7) (p := p) (X := w.heap.size) (r := r) rfl rfl (.inl rfl) rfl rfl (fun _ h => Lk.cell h))
      (And.intro (st_move rfl rfl rfl (.inl rfl) (.inr ⟨9, rfl, .inl ⟨rfl, rfl⟩⟩))
      (And.intro (st_call (f := 44) (vs := #[.agg #[.pointer (some ⟨p, 0, none⟩), .int .i64 r], .int .i64 n]) rfl rfl rfl (.inl rfl) rfl (args2 (.inr ⟨35, rfl, .inr ⟨3, by kernel_rfl, rfl⟩⟩) (.inr ⟨36, rfl, .inr ⟨4, by kernel_rfl, rfl⟩⟩)) (enters_red _) (fun _ h => red_lk h n HN.out))
      (And.intro (st_assign rfl rfl rfl (.inl rfl) (.inl rfl))
      (And.intro (st_assign rfl rfl rfl (.inl rfl) (.inr ⟨34, rfl, .inr ⟨2, by kernel_rfl, rfl⟩⟩))
      (And.intro (st_assign rfl rfl rfl (.inl rfl) (.inr ⟨37, rfl, .inr ⟨5, by kernel_rfl, rfl⟩⟩))
      trivial)))))))))) ?_
     intro w3 L3
     simp only [puts, List.foldl_cons, List.foldl_nil, Act.put, List.setIfInBounds_toArray, List.set_cons_zero, List.set_cons_succ]
     obtain ⟨hc3, hd3⟩ := L3.cell
     have HL3 := Lib.hid L3
     clear L3 hc2 hd2
     go_wp2_with fail
     refine (child_lk HL3.out n 0 HN.out (.inl rfl)).mono ?_
     rintro e w4 ⟨rfl, L4⟩
     obtain ⟨hc4, hd4⟩ := L4.cell
     have HL4 := Lib.hid L4
     clear L4 hc3 hd3
     go_wp2_with fail
     refine (child_lk HL4.out n 1 HN.out (.inr rfl)).mono ?_
     rintro e w5 ⟨rfl, L5⟩
     rw [HC1.out]
     obtain ⟨hc5, hd5⟩ := L5.cell
     have HL5 := Lib.hid L5
     clear L5 hc4 hd4
     have HD5 := Lib.hid HL5.out.drew
     go_wp2_with fail
     go_region_held3 (fun w' => w'.cell? ⟨w.heap.size, 0, none⟩ = some (.pointer (some ⟨p, 0, none⟩)) ∧ w'.cell? ⟨w.heap.size, 1, none⟩ = some (.int .i64 r)) (first | exact HD5.out.cell | exact HL6.out.cell | exact HL7.out.cell) (first | (go_simp; go_at_call 36; refine (child_lk HD5.out n 1 HN.out (.inr rfl)).mono ?_; rintro e w6 ⟨rfl, L6⟩; rw [HC1.out]; have HL6 := Lib.hid L6; clear L6) | (go_simp; go_at_call 46; refine (lowest_lk HL6.out c1 HCC1.out).mono ?_; rintro e w7 ⟨rfl, L7⟩; rw [HYV.out]; have HL7 := Lib.hid L7; clear L7))
     obtain ⟨hc7, hd7⟩ := HL7.out.cell
     clear HD5 hc5 hd5
     go_wp2_with fail
     refine region_settled (by kernel_rfl) [(43, .agg #[.pointer (some ⟨p, 0, none⟩), .int .i64 r]), (44, .int .i64 y), (45, .int .i64 x), (46, .int .i64 y), (47, .agg #[.pointer (some ⟨p, 0, none⟩), .int .i64 r]), (48, .int .i64 y), (49, .bool true), (10, .int .i64 x), (11, .int .i64 y), (12, .bool true)] (fun w' => Lk w w' p d r bs w.heap.size) rfl (by simp) rfl (edges_all (by kernel_rfl)) HL7.out.drew (settled_all (And.intro (st_box (t := 7) (p := p) (X := w.heap.size) (r := r) rfl rfl (.inl rfl) rfl rfl (fun _ h => Lk.cell h))
      (And.intro (st_move rfl rfl rfl (.inl rfl) (.inr ⟨13, rfl, .inl ⟨rfl, rfl⟩⟩))
      (And.intro (st_call (f := 36) (vs := #[.agg #[.pointer (some ⟨p, 0, none⟩), .int .i64 r], .int .i64 y, .int .i64 1]) rfl rfl rfl (.inl rfl) rfl (args3 (.inr ⟨43, rfl, .inr ⟨0, by kernel_rfl, rfl⟩⟩) (.inr ⟨44, rfl, .inr ⟨1, by kernel_rfl, rfl⟩⟩) (.inl rfl)) (enters_child _) (fun w h => by have := child_lk h y 1 HY.out (.inr rfl); rw [HXV.out] at this; exact this))
      (And.intro (st_move rfl rfl rfl (.inl rfl) (.inr ⟨13, rfl, .inl ⟨rfl, rfl⟩⟩))
      (And.intro (st_box (t := 7) (p := p) (X := w.heap.size) (r := r) rfl rfl (.inl rfl) rfl rfl (fun _ h => Lk.cell h))
      (And.intro (st_move rfl rfl rfl (.inl rfl) (.inr ⟨13, rfl, .inl ⟨rfl, rfl⟩⟩))
      (And.intro (st_call (f := 44) (vs := #[.agg #[.pointer (some ⟨p, 0, none⟩), .int .i64 r], .int .i64 y]) rfl rfl rfl (.inl rfl) rfl (args2 (.inr ⟨47, rfl, .inr ⟨4, by kernel_rfl, rfl⟩⟩) (.inr ⟨48, rfl, .inr ⟨5, by kernel_rfl, rfl⟩⟩)) (enters_red _) (fun w h => by have := red_lk h y HY.out; rw [HRY.out] at this; exact this))
      (And.intro (st_assign rfl rfl rfl (.inl rfl) (.inr ⟨45, rfl, .inr ⟨2, by kernel_rfl, rfl⟩⟩))
      (And.intro (st_assign rfl rfl rfl (.inl rfl) (.inr ⟨46, rfl, .inr ⟨3, by kernel_rfl, rfl⟩⟩))
      (And.intro (st_assign rfl rfl rfl (.inl rfl) (.inr ⟨49, rfl, .inr ⟨6, by kernel_rfl, rfl⟩⟩))
      trivial))))))))))) ?_
     intro w8 L8
     simp only [puts, List.foldl_cons, List.foldl_nil, Act.put, List.setIfInBounds_toArray, List.set_cons_zero, List.set_cons_succ]
     obtain ⟨hc8, hd8⟩ := L8.cell
     have HL8 := Lib.hid L8
     clear L8 hc7 hd7
     go_wp2_with fail
     refine (up_lk HL8.out y HY.out).mono ?_
     rintro e w9 ⟨rfl, L9⟩
     rw [HU.out]
     obtain ⟨hc9, hd9⟩ := L9.cell
     have HL9 := Lib.hid L9
     clear L9 hc8 hd8
     go_wp2_with fail
     refine (up_lk HL9.out y HY.out).mono ?_
     rintro e w10 ⟨rfl, L10⟩
     rw [HU.out]
     obtain ⟨hc10, hd10⟩ := L10.cell
     have HL10 := Lib.hid L10
     clear L10 hc9 hd9
     go_wp2_with fail
     refine (place_lk HL10.out y x HY.out HXX.out).mono ?_
     rintro e w11 ⟨rfl, L11⟩
     obtain ⟨hc11, hd11⟩ := L11.cell
     have HL11 := Lib.hid L11
     clear L11 hc10 hd10
     have HZ1 : Hid (pl (chB (placeB bs r y x) n 1)) := Lib.hid (HL11.out.rng _)
     have HD11 := Lib.hid HL11.out.drew
     go_wp2_with fail
     go_region_held3 (fun w' => w'.cell? ⟨w.heap.size, 0, none⟩ = some (.pointer (some ⟨p, 0, none⟩)) ∧ w'.cell? ⟨w.heap.size, 1, none⟩ = some (.int .i64 r)) (first | exact HD11.out.cell | exact HL12.out.cell | exact HL13.out.cell) (first | (go_simp; go_at_call 36; refine (child_lk HD11.out n 1 HN.out (.inr rfl)).mono ?_; rintro e w12 ⟨rfl, L12⟩; have HL12 := Lib.hid L12; clear L12) | (go_simp; go_at_call 40; refine (join_lk HL12.out y 1 (chB (placeB bs r y x) n 1) HY.out (.inr rfl) HZ1.out).mono ?_; rintro e w13 ⟨rfl, L13⟩; have HL13 := Lib.hid L13; clear L13))
     obtain ⟨hc13, hd13⟩ := HL13.out.cell
     clear HD11 hc11 hd11
     have HL13b : Hid (Lk w w13 p d r b1 w.heap.size) := Lib.hid (by rw [← HB1.out]; exact HL13.out)
     clear HL13
     have HL13 := HL13b
     clear HL13b
     go_wp2_with fail
     refine (place_lk HL13.out n y HN.out HY.out).mono ?_
     rintro e w14 ⟨rfl, L14⟩
     obtain ⟨hc14, hd14⟩ := L14.cell
     have HL14 := Lib.hid L14
     clear L14 hc13 hd13
     have HZ0 : Hid (pl (chB (placeB b1 r n y) n 0)) := Lib.hid (HL14.out.rng _)
     have HD14 := Lib.hid HL14.out.drew
     go_wp2_with fail
     go_region_held3 (fun w' => w'.cell? ⟨w.heap.size, 0, none⟩ = some (.pointer (some ⟨p, 0, none⟩)) ∧ w'.cell? ⟨w.heap.size, 1, none⟩ = some (.int .i64 r)) (first | exact HD14.out.cell | exact HL15.out.cell | exact HL16.out.cell) (first | (go_simp; go_at_call 36; refine (child_lk HD14.out n 0 HN.out (.inl rfl)).mono ?_; rintro e w15 ⟨rfl, L15⟩; have HL15 := Lib.hid L15; clear L15) | (go_simp; go_at_call 40; refine (join_lk HL15.out y 0 (chB (placeB b1 r n y) n 0) HY.out (.inl rfl) HZ0.out).mono ?_; rintro e w16 ⟨rfl, L16⟩; have HL16 := Lib.hid L16; clear L16))
     obtain ⟨hc16, hd16⟩ := HL16.out.cell
     clear HD14 hc14 hd14
     have HD16 := Lib.hid HL16.out.drew
     go_wp2_with fail
     go_region_held3 (fun w' => w'.cell? ⟨w.heap.size, 0, none⟩ = some (.pointer (some ⟨p, 0, none⟩)) ∧ w'.cell? ⟨w.heap.size, 1, none⟩ = some (.int .i64 r)) (first | exact HD16.out.cell | exact HL17.out.cell | exact HL18.out.cell) (first | (go_simp; go_at_call 44; refine (red_lk HD16.out n HN.out).mono ?_; rintro e w17 ⟨rfl, L17⟩; have HL17 := Lib.hid L17; clear L17) | (go_simp; go_at_call 39; refine (paint_lk HL17.out y (redB (joinB (placeB b1 r n y) y 0 (chB (placeB b1 r n y) n 0)) n) HY.out).mono ?_; rintro e w18 ⟨rfl, L18⟩; have HL18 := Lib.hid L18; clear L18))
     obtain ⟨hc18, hd18⟩ := HL18.out.cell
     clear HD16 hc16 hd16
     have HL18b : Hid (Lk w w18 p d r (remEnd b1 r n y) w.heap.size) := HL18
     clear HL18
     have HL18 := HL18b
     clear HL18b
     go_wp2_with fail
     refine (fill_lk HL18.out n 20 0 (by omega) (by omega) (by omega)).mono ?_
     rintro e w19 ⟨rfl, L19⟩
     obtain ⟨hc19, hd19⟩ := L19.cell
     have HL19 := Lib.hid L19
     clear L19 hc18 hd18
     go_wp2
     go_ret
     exact ⟨rfl, HRES.out ▸ HL19.out.ar, HL19.out.gr⟩
end
end Go.Proofs.Ythkppnkhiimaeaa
