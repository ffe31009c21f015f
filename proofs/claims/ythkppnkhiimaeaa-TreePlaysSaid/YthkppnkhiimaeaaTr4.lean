/- Lemmas of the claim TreePlays. -/
import Derived.Test.YthkppnkhiimaeaaTr3
import Derived.Test.YthkppnkhiimaeaaRg
/- The tree's links (layer 11): the leftmost leaf; colors right behind a removal. -/
set_option linter.unusedVariables false
set_option linter.unusedSimpArgs false
namespace Go.Proofs.Ythkppnkhiimaeaa
open Go.RowKit
def lowB (bs : List Int) : Nat → Int → Int
 | 0, n => n
 | k + 1, n => if n = 0 then n else if chB bs n 0 = 0 then n else lowB bs k (chB bs n 0)
def remA (r : Int) (bs : List Int) (q s v : Int) : List Int := turnB (paintB (paintB bs v false) q true) r q s
def remB (r : Int) (bs : List Int) (s v : Int) : List Int := turnB (paintB (paintB bs (chB bs v s) false) v true) r v (1 - s)
def remC1 (bs : List Int) (q v : Int) : List Int := paintB (paintB bs v (redB bs q)) q false
def remC (r : Int) (bs : List Int) (q s v : Int) : List Int := turnB (paintB (remC1 bs q v) (chB (remC1 bs q v) v (1 - s)) false) r q s
def remS2 (r s q : Int) (bs : List Int) (v : Int) : List Int × Int × Int :=
 if redB bs (chB bs v 0) = false ∧ redB bs (chB bs v 1) = false then (paintB bs v true, q, upB (paintB bs v true) q)
 else if redB bs (chB bs v (1 - s)) = true then (remC r bs q s v, gt (remC r bs q s v) r, q)
 else (remC r (remB r bs s v) q s (chB (remB r bs s v) q (1 - s)), gt (remC r (remB r bs s v) q s (chB (remB r bs s v) q (1 - s))) r, q)
def remS (r : Int) (bs : List Int) (x q : Int) : List Int × Int × Int :=
 if redB bs (chB bs q (1 - sideB bs q x)) = true then
  remS2 r (sideB bs q x) q (remA r bs q (sideB bs q x) (chB bs q (1 - sideB bs q x))) (chB (remA r bs q (sideB bs q x) (chB bs q (1 - sideB bs q x))) q (1 - sideB bs q x))
 else remS2 r (sideB bs q x) q bs (chB bs q (1 - sideB bs q x))
def removedB (r : Int) : Nat → List Int → Int → Int → Option (List Int)
 | 0, _, _, _ => none
 | F + 1, bs, x, q =>
  if x = gt bs r then some (paintB bs x false) else if redB bs x = true then some (paintB bs x false)
  else removedB r F (remS r bs x q).1 (remS r bs x q).2.1 (remS r bs x q).2.2
section
variable {w0 w w1 : World} {p d : Nat} {bs : List Int} {r : Int} {X : Nat}
theorem st_box {Q : Exit → Act → World → Prop} {I : World → Prop} {l : List (Nat × Value)} {a0 : Act} {ops : Array Oper} {i d t : Nat} {o : Oper} {pos : String} {after : Array Edge} {guard : Option (Nat × Bool)} (ho : o = { dst := some d, op := .load 67 (.tmp t), type := 67, pos, after, guard })
  (hx : l[i]? = some (d, .agg #[.pointer (some ⟨p, 0, none⟩), .int .i64 r])) (hg : Yes ops l o)
  (hn : offL l t = true) (h3 : a0.tmps.getD t undef = .pointer (some ⟨X, 0, none⟩)) (hS : ∀ w, I w → w.cell? ⟨X, 0, none⟩ = some (.pointer (some ⟨p, 0, none⟩)) ∧ w.cell? ⟨X, 1, none⟩ = some (.int .i64 r)) :
  Settled Try.prog ops Q I l a0 i o := by
 subst ho
 refine settled_do _ hx hg ?_
 intro a w K hdep hb hI hk
 obtain ⟨c0, c1⟩ := hS w hI
 have e3 : a.tmps.getD t undef = .pointer (some ⟨X, 0, none⟩) := (hb t (offL_of hn)).trans h3
 have hk2 := hk w hI
 clear hk hdep hb hx hg
 go_simp
 exact hk2
theorem enters_child (vs : Array Value) (w : World) : (callFunc 36 vs).run Try.prog w = .ok (.enter 36 vs) w := by go_simp
theorem enters_red (vs : Array Value) (w : World) : (callFunc 44 vs).run Try.prog w = .ok (.enter 44 vs) w := by go_simp
theorem args3 {l : List (Nat × Value)} {a0 : Act} {o : Oper} {x y z : Operand} {a b c : Value} (h1 : OpV l a0 o x a) (h2 : OpV l a0 o y b) (h3 : OpV l a0 o z c) : ∀ (k : Nat) u v, #[x, y, z][k]? = some u → #[a, b, c][k]? = some v → OpV l a0 o u v := by
 intro k u v hu hv
 match k with
 | 0 => simp at hu hv; subst hu; subst hv; exact h1
 | 1 => simp at hu hv; subst hu; subst hv; exact h2
 | 2 => simp at hu hv; subst hu; subst hv; exact h3
 | k + 3 => simp at hu
theorem args2 {l : List (Nat × Value)} {a0 : Act} {o : Oper} {x y : Operand} {a b : Value} (h1 : OpV l a0 o x a) (h2 : OpV l a0 o y b) : ∀ (k : Nat) u v, #[x, y][k]? = some u → #[a, b][k]? = some v → OpV l a0 o u v := by
 intro k u v hu hv
 match k with
 | 0 => simp at hu hv; subst hu; subst hv; exact h1
 | 1 => simp at hu hv; subst hu; subst hv; exact h2
 | k + 2 => simp at hu
theorem lowest_any (n0 : Int) (w : World) (h : Ar w p d bs) (hn : pl n0) :
  Calls Try.prog 46 #[.agg #[.pointer (some ⟨p, 0, none⟩), .int .i64 r], .int .i64 n0] w fun e w' =>
   e = .returned (.int .i64 (lowB bs 60 n0)) ∧ Below w.heap.size w w' := by
 have HB := Lib.hid ((Below.refl w.heap.size w).alloc (Nat.le_refl _) (bx p r))
 have LS := Lib.hid (Lk.new h r)
 have HA := Lib.hid h
 have HN0 := Lib.hid hn
 obtain ⟨res, hres⟩ : ∃ x, lowB bs 60 n0 = x := ⟨_, rfl⟩
 rw [hres]
 have HRES := Lib.hid hres
 clear h hn hres
 go_enter Try.func46, Try.ntmps46
 go_wp2
 go_loopw [1, 5] (fun v dp wr => ∃ (n : Int) (k : Nat), v = .int .i64 n ∧ dp = .int .i64 (k : Int) ∧ k ≤ 60 ∧ lowB bs (60 - k) n = res ∧ pl n ∧ Lk w wr p d r bs w.heap.size ∧ Below w.heap.size w wr) (fun v dp wr => 60 - (intOf dp).toNat)
 case atStart => exact ⟨n0, 0, rfl, rfl, by omega, HRES.out, HN0.out, LS.out, HB.out⟩
 case round =>
  clear HRES HN0 LS HB HA
  obtain ⟨n, k, rfl, rfl, hk, hrec, hn, hL, hB⟩ := hrel
  obtain ⟨hc0, hd0⟩ := hL.cell
  have HL0 := Lib.hid hL
  have HB0 := Lib.hid hB
  have HN := Lib.hid hn
  have HK := Lib.hid hk
  have HREC0 := Lib.hid hrec
  clear hL hB hn hrec hk
  by_cases hz : n = 0
  ·have hres : n = res := by
    rw [← HREC0.out]
    cases 60 - k with
    | zero => rfl
    | succ m => unfold lowB; rw [if_pos hz]
   subst hz
   have HRES := Lib.hid hres
   clear hres
   go_wp2
   go_ret
   exact ⟨ret_int HRES.out, HB0.out⟩
  ·have hzb : (n != 0) = true := by rw [bne_iff_ne]; exact hz
   have hc : pl (chB bs n 0) := HL0.out.rng _
   obtain ⟨c, hcc⟩ : ∃ c, chB bs n 0 = c := ⟨_, rfl⟩
   rw [hcc] at hc
   have HC := Lib.hid hc
   have HCC := Lib.hid hcc
   by_cases hz2 : c = 0
   ·have hres : n = res := by
     rw [← HREC0.out]
     cases 60 - k with
     | zero => rfl
     | succ m => unfold lowB; rw [if_neg hz, hcc, if_pos hz2]
    have HRES := Lib.hid hres
    subst hz2
    clear hres hz hc hcc
    go_wp2_with fail
    refine (child_any n 0 _ HL0.out.ar HN.out (.inl rfl)).mono ?_
    rintro e w1 ⟨rfl, hB⟩
    rw [HCC.out]
    have HB1 := Lib.hid (below_then HB0.out HB0.out.size hB)
    clear hB hc0 hd0
    go_wp2
    go_ret
    exact ⟨ret_int HRES.out, HB1.out⟩
   ·have hcb : (c != 0) = true := by rw [bne_iff_ne]; exact hz2
    by_cases hk60 : k = 60
    ·have hres : n = res := by
      rw [← HREC0.out, hk60]
      rfl
     have HRES := Lib.hid hres
     subst hk60
     clear hres hz hc hcc hz2
     go_wp2_with fail
     refine (child_any n 0 _ HL0.out.ar HN.out (.inl rfl)).mono ?_
     rintro e w1 ⟨rfl, hB⟩
     rw [HCC.out]
     have HB1 := Lib.hid (below_then HB0.out HB0.out.size hB)
     clear hB hc0 hd0
     go_wp2
     go_ret
     exact ⟨ret_int HRES.out, HB1.out⟩
    ·have hlt : k < 60 := by have := HK.out; omega
     have hrec : lowB bs (60 - (k + 1)) c = res := by
      rw [← HREC0.out, show 60 - k = (60 - (k + 1)) + 1 from by omega]
      conv => rhs; unfold lowB
      rw [if_neg hz, hcc, if_neg hz2]
     have HREC := Lib.hid hrec
     clear hrec hz hc hcc hz2 hk60
     go_wp2_with fail
     refine (child_any n 0 _ HL0.out.ar HN.out (.inl rfl)).mono ?_
     rintro e w1 ⟨rfl, hB⟩
     rw [HCC.out]
     have HB1 := Lib.hid (below_then HB0.out HB0.out.size hB)
     have HL1 := Lib.hid (HL0.out.then_ hB)
     obtain ⟨hc1, hd1⟩ := HL1.out.cell
     clear hB hc0 hd0
     go_wp2_with fail
     refine (child_any n 0 _ HL1.out.ar HN.out (.inl rfl)).mono ?_
     rintro e w2 ⟨rfl, hB⟩
     rw [HCC.out]
     have HB2 := Lib.hid (below_then HB1.out HB1.out.size hB)
     have HL2 := Lib.hid (HL1.out.then_ hB)
     clear hB hc1 hd1
     go_wp2
     go_roundw
     case rel => exact ⟨c, k + 1, rfl, by go_num, by omega, HREC.out, HC.out, HL2.out, HB2.out⟩
     case measure => simp [intOf]; omega
set_option maxRecDepth 100000 in
set_option maxHeartbeats 8000000 in
theorem removed_any (F0 : Nat) (bs' : List Int) (x0 q0 : Int) (w : World) (h : Ar w p d bs) (hx : pl x0) (hq : pl q0) (hF : removedB r F0 bs x0 q0 = some bs') :
  Calls Try.prog 47 #[.agg #[.pointer (some ⟨p, 0, none⟩), .int .i64 r], .int .i64 x0, .int .i64 q0] w fun e w' =>
   e = .returned (.tuple #[]) ∧ Ar w' p d bs' ∧ w.grownBy w' (some d) := by
 have LS := Lib.hid (Lk.new h r)
 have HF := Lib.hid hF
 have HX0 := Lib.hid hx
 have HQ0 := Lib.hid hq
 clear h hx hq hF
 go_enter Try.func47, Try.ntmps47
 go_wp2
 go_loopg [1, 2] F0 (fun gq vx vq wr => ∃ (bsr : List Int) (x q : Int), vx = .int .i64 x ∧ vq = .int .i64 q ∧ removedB r gq bsr x q = some bs' ∧ Lk w wr p d r bsr w.heap.size ∧ pl x ∧ pl q)
 case atStart => exact ⟨bs, x0, q0, rfl, rfl, HF.out, LS.out, HX0.out, HQ0.out⟩
 case round =>
  clear HF HX0 HQ0 LS
  obtain ⟨bsr, x, q, rfl, rfl, hrec, hL, hx, hq⟩ := hrel
  obtain ⟨hc0, hd0⟩ := hL.cell
  have HL0 := Lib.hid hL
  have HX := Lib.hid hx
  have HQ := Lib.hid hq
  obtain ⟨F, rfl⟩ : ∃ F, gk = F + 1 := by
   cases gk with
   | zero => unfold removedB at hrec; cases hrec
   | succ F => exact ⟨F, rfl⟩
  unfold removedB at hrec
  obtain ⟨tp, htp⟩ : ∃ t, gt bsr r = t := ⟨_, rfl⟩
  rw [htp] at hrec
  have HTT := Lib.hid htp
  clear htp hL hx hq
  by_cases hxt : x = tp
  ·rw [if_pos hxt] at hrec
   have hb : (x != tp) = false := by rw [bne_eq_false_iff_eq]; exact hxt
   have HRES := Lib.hid (Option.some.inj hrec)
   clear hrec hxt
   go_wp2_with fail
   refine (top_lk HL0.out).mono ?_
   rintro e w1 ⟨rfl, L1⟩
   rw [HTT.out]
   obtain ⟨hc1, hd1⟩ := L1.cell
   have HL1 := Lib.hid L1
   clear L1 hc0 hd0
   go_wp2_with fail
   refine (paint_lk HL1.out x false HX.out).mono ?_
   rintro e w2 ⟨rfl, L2⟩
   obtain ⟨hc2, hd2⟩ := L2.cell
   have HL2 := Lib.hid L2
   clear L2 hc1 hd1
   go_wp2
   go_end0
   exact ⟨rfl, HRES.out ▸ HL2.out.ar, HL2.out.gr⟩
  ·rw [if_neg hxt] at hrec
   have hb : (x != tp) = true := by rw [bne_iff_ne]; exact hxt
   clear hxt
   cases hrx : redB bsr x
   ·have HRX := Lib.hid hrx
    rw [hrx, if_neg (by decide)] at hrec
    have HREC0 := Lib.hid hrec
    clear hrec hrx
    obtain ⟨s, hs⟩ : ∃ s, sideB bsr q x = s := ⟨_, rfl⟩
    have hs01 : s = 0 ∨ s = 1 := hs ▸ sideB_01 bsr q x
    have HSS := Lib.hid hs
    have HS01 := Lib.hid hs01
    have HS1 := Lib.hid (one_sub hs01)
    have hv : pl (chB bsr q (1 - s)) := HL0.out.rng _
    obtain ⟨v, hvv⟩ : ∃ u, chB bsr q (1 - s) = u := ⟨_, rfl⟩
    rw [hvv] at hv
    have HV := Lib.hid hv
    have HVV := Lib.hid hvv
    have hsa : 0 ≤ s := by omega
    have hsb : s ≤ 1 := by omega
    have hw1 : IntKind.i64.wrap (1 - s) = 1 - s := by rw [IntKind.wrap_i64]; omega
    clear hs hv hvv hs01
    cases hrv : redB bsr v
    ·have HRV := Lib.hid hrv
     clear hrv
     have hb1 : bsr = bsr := rfl
     have hv1 : chB bsr q (1 - s) = v := HVV.out
     have hrec2 : removedB r F (remS2 r s q bsr v).1 (remS2 r s q bsr v).2.1 (remS2 r s q bsr v).2.2 = some bs' := by
      have e1 : remS r bsr x q = remS2 r s q bsr v := by
       unfold remS
       rw [HSS.out, HVV.out, HRV.out]
       rw [if_neg (by decide)]
      rw [← e1]; exact HREC0.out
     clear HREC0
     have HB1 := Lib.hid hb1
     have HWW := Lib.hid hv1
     clear hb1 hv1
     cases hr0 : redB bsr (chB bsr v 0)
     ·have HR0 := Lib.hid hr0
      cases hr1 : redB bsr (chB bsr v 1)
      ·have HR1 := Lib.hid hr1
       have e2 : remS2 r s q bsr v = (paintB bsr v true, q, upB (paintB bsr v true) q) := by unfold remS2; rw [if_pos ⟨hr0, hr1⟩]
       rw [e2] at hrec2
       have HREC := Lib.hid hrec2
       clear hrec2 e2 hr0 hr1
       go_wp2_with fail
       refine (top_lk HL0.out).mono ?_
       rintro e w1 ⟨rfl, L1⟩
       rw [HTT.out]
       obtain ⟨hc1, hd1⟩ := L1.cell
       have HL1 := Lib.hid L1
       clear L1 hc0 hd0
       go_wp2_with fail
       refine (red_lk HL1.out x HX.out).mono ?_
       rintro e w2 ⟨rfl, L2⟩
       rw [HRX.out]
       obtain ⟨hc2, hd2⟩ := L2.cell
       have HL2 := Lib.hid L2
       clear L2 hc1 hd1
       go_wp2_with fail
       refine (side_lk HL2.out q x HQ.out).mono ?_
       rintro e w3 ⟨rfl, L3⟩
       rw [HSS.out]
       obtain ⟨hc3, hd3⟩ := L3.cell
       have HL3 := Lib.hid L3
       clear L3 hc2 hd2
       go_wp2_with fail
       refine (child_lk HL3.out q (1 - s) HQ.out HS1.out).mono ?_
       rintro e w4 ⟨rfl, L4⟩
       rw [HVV.out]
       obtain ⟨hc4, hd4⟩ := L4.cell
       have HL4 := Lib.hid L4
       clear L4 hc3 hd3
       go_wp2_with fail
       refine (red_lk HL4.out v HV.out).mono ?_
       rintro e w5 ⟨rfl, L5⟩
       rw [HRV.out]
       obtain ⟨hc5, hd5⟩ := L5.cell
       have HL5 := Lib.hid L5
       clear L5 hc4 hd4
       have HW := HV
       have HC0 : Hid (pl (chB bsr v 0)) := Lib.hid (HL5.out.rng _)
       have HC1 : Hid (pl (chB bsr v 1)) := Lib.hid (HL5.out.rng _)
       have HN1 : Hid (pl (chB bsr v s)) := Lib.hid (HL5.out.rng _)
       have HF1 : Hid (pl (chB bsr v (1 - s))) := Lib.hid (HL5.out.rng _)
       go_wp2_with fail
       refine region_settled (by kernel_rfl) [(45, .agg #[.pointer (some ⟨p, 0, none⟩), .int .i64 r]), (46, .agg #[.pointer (some ⟨p, 0, none⟩), .int .i64 r]), (47, .int .i64 v), (48, .int .i64 (chB bsr v 0)), (49, .bool false), (50, .bool true), (51, .bool true), (52, .agg #[.pointer (some ⟨p, 0, none⟩), .int .i64 r]), (53, .agg #[.pointer (some ⟨p, 0, none⟩), .int .i64 r]), (54, .int .i64 v), (55, .int .i64 (chB bsr v 1)), (56, .bool false), (57, .bool true), (58, .bool true)] (fun w' => Lk w w' p d r bsr w.heap.size) rfl (by simp) rfl (edges_all (by kernel_rfl)) HL5.out.drew (settled_all (And.intro (st_box (p := p) (X := w.heap.size) (r := r) rfl rfl (.inl rfl) rfl rfl (fun _ h => Lk.cell h))
        (And.intro (st_box (p := p) (X := w.heap.size) (r := r) rfl rfl (.inl rfl) rfl rfl (fun _ h => Lk.cell h))
        (And.intro (st_move rfl rfl rfl (.inl rfl) (.inr ⟨7, rfl, .inl ⟨rfl, rfl⟩⟩))
        (And.intro (st_call (f := 36) (vs := #[.agg #[.pointer (some ⟨p, 0, none⟩), .int .i64 r], .int .i64 v, .int .i64 0]) rfl rfl rfl (.inl rfl) rfl (args3 (.inr ⟨46, rfl, .inr ⟨1, by kernel_rfl, rfl⟩⟩) (.inr ⟨47, rfl, .inr ⟨2, by kernel_rfl, rfl⟩⟩) (.inl rfl)) (enters_child _) (fun _ h => child_lk h v 0 HW.out (.inl rfl)))
        (And.intro (st_call (f := 44) (vs := #[.agg #[.pointer (some ⟨p, 0, none⟩), .int .i64 r], .int .i64 (chB bsr v 0)]) rfl rfl rfl (.inl rfl) rfl (args2 (.inr ⟨45, rfl, .inr ⟨0, by kernel_rfl, rfl⟩⟩) (.inr ⟨48, rfl, .inr ⟨3, by kernel_rfl, rfl⟩⟩)) (enters_red _) (fun w h => by have := red_lk h (chB bsr v 0) HC0.out; rw [HR0.out] at this; exact this))
        (And.intro (st_not (b := false) rfl rfl rfl (.inl rfl) (.inr ⟨49, rfl, .inr ⟨4, by kernel_rfl, rfl⟩⟩))
        (And.intro (st_move rfl rfl rfl (.inl rfl) (.inr ⟨50, rfl, .inr ⟨5, by kernel_rfl, rfl⟩⟩))
        (And.intro (st_box (p := p) (X := w.heap.size) (r := r) rfl rfl (.inr ⟨6, true, _, 51, rfl, rfl, rfl, rfl, by kernel_rfl⟩) rfl rfl (fun _ h => Lk.cell h))
        (And.intro (st_box (p := p) (X := w.heap.size) (r := r) rfl rfl (.inr ⟨6, true, _, 51, rfl, rfl, rfl, rfl, by kernel_rfl⟩) rfl rfl (fun _ h => Lk.cell h))
        (And.intro (st_move rfl rfl rfl (.inr ⟨6, true, _, 51, rfl, rfl, rfl, rfl, by kernel_rfl⟩) (.inr ⟨7, rfl, .inl ⟨rfl, rfl⟩⟩))
        (And.intro (st_call (f := 36) (vs := #[.agg #[.pointer (some ⟨p, 0, none⟩), .int .i64 r], .int .i64 v, .int .i64 1]) rfl rfl rfl (.inr ⟨6, true, _, 51, rfl, rfl, rfl, rfl, by kernel_rfl⟩) rfl (args3 (.inr ⟨53, rfl, .inr ⟨8, by kernel_rfl, rfl⟩⟩) (.inr ⟨54, rfl, .inr ⟨9, by kernel_rfl, rfl⟩⟩) (.inl rfl)) (enters_child _) (fun _ h => child_lk h v 1 HW.out (.inr rfl)))
        (And.intro (st_call (f := 44) (vs := #[.agg #[.pointer (some ⟨p, 0, none⟩), .int .i64 r], .int .i64 (chB bsr v 1)]) rfl rfl rfl (.inr ⟨6, true, _, 51, rfl, rfl, rfl, rfl, by kernel_rfl⟩) rfl (args2 (.inr ⟨52, rfl, .inr ⟨7, by kernel_rfl, rfl⟩⟩) (.inr ⟨55, rfl, .inr ⟨10, by kernel_rfl, rfl⟩⟩)) (enters_red _) (fun w h => by have := red_lk h (chB bsr v 1) HC1.out; rw [HR1.out] at this; exact this))
        (And.intro (st_not (b := false) rfl rfl rfl (.inr ⟨6, true, _, 51, rfl, rfl, rfl, rfl, by kernel_rfl⟩) (.inr ⟨56, rfl, .inr ⟨11, by kernel_rfl, rfl⟩⟩))
        (And.intro (st_pick (b := true) rfl rfl rfl (.inl rfl) (.inr ⟨51, rfl, .inr ⟨6, by kernel_rfl, rfl⟩⟩) (.inr ⟨57, rfl, .inr ⟨12, by kernel_rfl, rfl⟩⟩))
        trivial))))))))))))))) ?_
       intro w6 L6
       simp only [puts, List.foldl_cons, List.foldl_nil, Act.put, List.setIfInBounds_toArray, List.set_cons_zero, List.set_cons_succ]
       obtain ⟨hc6, hd6⟩ := L6.cell
       have HL6 := Lib.hid L6
       clear L6 hc5 hd5
       go_wp2_with fail
       refine (paint_lk HL6.out v true HW.out).mono ?_
       rintro e w7 ⟨rfl, L7⟩
       obtain ⟨hc7, hd7⟩ := L7.cell
       have HL7 := Lib.hid L7
       clear L7 hc6 hd6
       go_wp2_with fail
       refine (up_lk HL7.out q HQ.out).mono ?_
       rintro e w8 ⟨rfl, L8⟩
       obtain ⟨hc8, hd8⟩ := L8.cell
       have HL8 := Lib.hid L8
       clear L8 hc7 hd7
       have HP : Hid (pl (upB (paintB bsr v true) q)) := Lib.hid (HL8.out.rng _)
       go_wp2
       go_roundg F
       case measure => omega
       case rel => exact ⟨_, q, _, rfl, rfl, HREC.out, HL8.out, HQ.out, HP.out⟩
      ·have HR1 := Lib.hid hr1
       have hnn : ¬ (redB bsr (chB bsr v 0) = false ∧ redB bsr (chB bsr v 1) = false) := by rw [hr1]; simp
       clear hr0 hr1
       cases hrf : redB bsr (chB bsr v (1 - s))
       ·have HRF := Lib.hid hrf
        obtain ⟨b2, hb2⟩ : ∃ b, remB r bsr s v = b := ⟨_, rfl⟩
        obtain ⟨v2, hv2⟩ : ∃ a, chB b2 q (1 - s) = a := ⟨_, rfl⟩
        have e2 : remS2 r s q bsr v = (remC r b2 q s v2, gt (remC r b2 q s v2) r, q) := by unfold remS2; rw [if_neg hnn, if_neg (by rw [hrf]; decide), hb2, hv2]
        rw [e2] at hrec2
        have HREC := Lib.hid hrec2
        have HB2 := Lib.hid hb2
        have HVV2 := Lib.hid hv2
        clear hrec2 e2 hrf hnn hb2 hv2
        go_wp2_with fail
        refine (top_lk HL0.out).mono ?_
        rintro e w1 ⟨rfl, L1⟩
        rw [HTT.out]
        obtain ⟨hc1, hd1⟩ := L1.cell
        have HL1 := Lib.hid L1
        clear L1 hc0 hd0
        go_wp2_with fail
        refine (red_lk HL1.out x HX.out).mono ?_
        rintro e w2 ⟨rfl, L2⟩
        rw [HRX.out]
        obtain ⟨hc2, hd2⟩ := L2.cell
        have HL2 := Lib.hid L2
        clear L2 hc1 hd1
        go_wp2_with fail
        refine (side_lk HL2.out q x HQ.out).mono ?_
        rintro e w3 ⟨rfl, L3⟩
        rw [HSS.out]
        obtain ⟨hc3, hd3⟩ := L3.cell
        have HL3 := Lib.hid L3
        clear L3 hc2 hd2
        go_wp2_with fail
        refine (child_lk HL3.out q (1 - s) HQ.out HS1.out).mono ?_
        rintro e w4 ⟨rfl, L4⟩
        rw [HVV.out]
        obtain ⟨hc4, hd4⟩ := L4.cell
        have HL4 := Lib.hid L4
        clear L4 hc3 hd3
        go_wp2_with fail
        refine (red_lk HL4.out v HV.out).mono ?_
        rintro e w5 ⟨rfl, L5⟩
        rw [HRV.out]
        obtain ⟨hc5, hd5⟩ := L5.cell
        have HL5 := Lib.hid L5
        clear L5 hc4 hd4
        have HW := HV
        have HC0 : Hid (pl (chB bsr v 0)) := Lib.hid (HL5.out.rng _)
        have HC1 : Hid (pl (chB bsr v 1)) := Lib.hid (HL5.out.rng _)
        have HN1 : Hid (pl (chB bsr v s)) := Lib.hid (HL5.out.rng _)
        have HF1 : Hid (pl (chB bsr v (1 - s))) := Lib.hid (HL5.out.rng _)
        go_wp2_with fail
        refine region_settled (by kernel_rfl) [(45, .agg #[.pointer (some ⟨p, 0, none⟩), .int .i64 r]), (46, .agg #[.pointer (some ⟨p, 0, none⟩), .int .i64 r]), (47, .int .i64 v), (48, .int .i64 (chB bsr v 0)), (49, .bool false), (50, .bool true), (51, .bool true), (52, .agg #[.pointer (some ⟨p, 0, none⟩), .int .i64 r]), (53, .agg #[.pointer (some ⟨p, 0, none⟩), .int .i64 r]), (54, .int .i64 v), (55, .int .i64 (chB bsr v 1)), (56, .bool true), (57, .bool false), (58, .bool false)] (fun w' => Lk w w' p d r bsr w.heap.size) rfl (by simp) rfl (edges_all (by kernel_rfl)) HL5.out.drew (settled_all (And.intro (st_box (p := p) (X := w.heap.size) (r := r) rfl rfl (.inl rfl) rfl rfl (fun _ h => Lk.cell h))
         (And.intro (st_box (p := p) (X := w.heap.size) (r := r) rfl rfl (.inl rfl) rfl rfl (fun _ h => Lk.cell h))
         (And.intro (st_move rfl rfl rfl (.inl rfl) (.inr ⟨7, rfl, .inl ⟨rfl, rfl⟩⟩))
         (And.intro (st_call (f := 36) (vs := #[.agg #[.pointer (some ⟨p, 0, none⟩), .int .i64 r], .int .i64 v, .int .i64 0]) rfl rfl rfl (.inl rfl) rfl (args3 (.inr ⟨46, rfl, .inr ⟨1, by kernel_rfl, rfl⟩⟩) (.inr ⟨47, rfl, .inr ⟨2, by kernel_rfl, rfl⟩⟩) (.inl rfl)) (enters_child _) (fun _ h => child_lk h v 0 HW.out (.inl rfl)))
         (And.intro (st_call (f := 44) (vs := #[.agg #[.pointer (some ⟨p, 0, none⟩), .int .i64 r], .int .i64 (chB bsr v 0)]) rfl rfl rfl (.inl rfl) rfl (args2 (.inr ⟨45, rfl, .inr ⟨0, by kernel_rfl, rfl⟩⟩) (.inr ⟨48, rfl, .inr ⟨3, by kernel_rfl, rfl⟩⟩)) (enters_red _) (fun w h => by have := red_lk h (chB bsr v 0) HC0.out; rw [HR0.out] at this; exact this))
         (And.intro (st_not (b := false) rfl rfl rfl (.inl rfl) (.inr ⟨49, rfl, .inr ⟨4, by kernel_rfl, rfl⟩⟩))
         (And.intro (st_move rfl rfl rfl (.inl rfl) (.inr ⟨50, rfl, .inr ⟨5, by kernel_rfl, rfl⟩⟩))
         (And.intro (st_box (p := p) (X := w.heap.size) (r := r) rfl rfl (.inr ⟨6, true, _, 51, rfl, rfl, rfl, rfl, by kernel_rfl⟩) rfl rfl (fun _ h => Lk.cell h))
         (And.intro (st_box (p := p) (X := w.heap.size) (r := r) rfl rfl (.inr ⟨6, true, _, 51, rfl, rfl, rfl, rfl, by kernel_rfl⟩) rfl rfl (fun _ h => Lk.cell h))
         (And.intro (st_move rfl rfl rfl (.inr ⟨6, true, _, 51, rfl, rfl, rfl, rfl, by kernel_rfl⟩) (.inr ⟨7, rfl, .inl ⟨rfl, rfl⟩⟩))
         (And.intro (st_call (f := 36) (vs := #[.agg #[.pointer (some ⟨p, 0, none⟩), .int .i64 r], .int .i64 v, .int .i64 1]) rfl rfl rfl (.inr ⟨6, true, _, 51, rfl, rfl, rfl, rfl, by kernel_rfl⟩) rfl (args3 (.inr ⟨53, rfl, .inr ⟨8, by kernel_rfl, rfl⟩⟩) (.inr ⟨54, rfl, .inr ⟨9, by kernel_rfl, rfl⟩⟩) (.inl rfl)) (enters_child _) (fun _ h => child_lk h v 1 HW.out (.inr rfl)))
         (And.intro (st_call (f := 44) (vs := #[.agg #[.pointer (some ⟨p, 0, none⟩), .int .i64 r], .int .i64 (chB bsr v 1)]) rfl rfl rfl (.inr ⟨6, true, _, 51, rfl, rfl, rfl, rfl, by kernel_rfl⟩) rfl (args2 (.inr ⟨52, rfl, .inr ⟨7, by kernel_rfl, rfl⟩⟩) (.inr ⟨55, rfl, .inr ⟨10, by kernel_rfl, rfl⟩⟩)) (enters_red _) (fun w h => by have := red_lk h (chB bsr v 1) HC1.out; rw [HR1.out] at this; exact this))
         (And.intro (st_not (b := true) rfl rfl rfl (.inr ⟨6, true, _, 51, rfl, rfl, rfl, rfl, by kernel_rfl⟩) (.inr ⟨56, rfl, .inr ⟨11, by kernel_rfl, rfl⟩⟩))
         (And.intro (st_pick (b := true) rfl rfl rfl (.inl rfl) (.inr ⟨51, rfl, .inr ⟨6, by kernel_rfl, rfl⟩⟩) (.inr ⟨57, rfl, .inr ⟨12, by kernel_rfl, rfl⟩⟩))
         trivial))))))))))))))) ?_
        intro w6 L6
        simp only [puts, List.foldl_cons, List.foldl_nil, Act.put, List.setIfInBounds_toArray, List.set_cons_zero, List.set_cons_succ]
        obtain ⟨hc6, hd6⟩ := L6.cell
        have HL6 := Lib.hid L6
        clear L6 hc5 hd5
        have HD6 := Lib.hid HL6.out.drew
        go_wp2_with fail
        go_region_held3 (fun w' => w'.cell? ⟨w.heap.size, 0, none⟩ = some (.pointer (some ⟨p, 0, none⟩)) ∧ w'.cell? ⟨w.heap.size, 1, none⟩ = some (.int .i64 r)) (first | exact HD6.out.cell | exact HL7.out.cell | exact HL8.out.cell) (first | (go_simp; go_at_call 36; refine (child_lk HD6.out v (1 - s) HW.out HS1.out).mono ?_; rintro e w7 ⟨rfl, L7⟩; have HL7 := Lib.hid L7; clear L7) | (go_simp; go_at_call 44; refine (red_lk HL7.out (chB bsr v (1 - s)) HF1.out).mono ?_; rintro e w8 ⟨rfl, L8⟩; rw [HRF.out]; have HL8 := Lib.hid L8; clear L8))
        obtain ⟨hc8, hd8⟩ := HL8.out.cell
        clear HD6 hc6 hd6
        have HD8 := Lib.hid HL8.out.drew
        go_wp2_with fail
        go_region_held3 (fun w' => w'.cell? ⟨w.heap.size, 0, none⟩ = some (.pointer (some ⟨p, 0, none⟩)) ∧ w'.cell? ⟨w.heap.size, 1, none⟩ = some (.int .i64 r)) (first | exact HD8.out.cell | exact HL9.out.cell | exact HL10.out.cell) (first | (go_simp; go_at_call 36; refine (child_lk HD8.out v s HW.out HS01.out).mono ?_; rintro e w9 ⟨rfl, L9⟩; have HL9 := Lib.hid L9; clear L9) | (go_simp; go_at_call 39; refine (paint_lk HL9.out (chB bsr v s) false HN1.out).mono ?_; rintro e w10 ⟨rfl, L10⟩; have HL10 := Lib.hid L10; clear L10))
        obtain ⟨hc10, hd10⟩ := HL10.out.cell
        clear HD8 hc8 hd8
        go_wp2_with fail
        refine (paint_lk HL10.out v true HW.out).mono ?_
        rintro e w11 ⟨rfl, L11⟩
        obtain ⟨hc11, hd11⟩ := L11.cell
        have HL11 := Lib.hid L11
        clear L11 hc10 hd10
        go_wp2_with fail
        refine (turn_lk HL11.out v (1 - s) HW.out HS1.out).mono ?_
        rintro e w12 ⟨rfl, L12⟩
        obtain ⟨hc12, hd12⟩ := L12.cell
        have HL12 := Lib.hid L12
        clear L12 hc11 hd11
        have HL12b : Hid (Lk w w12 p d r b2 w.heap.size) := Lib.hid (by rw [← HB2.out]; exact HL12.out)
        clear HL12
        have HL12 := HL12b
        have HV2 : Hid (pl v2) := Lib.hid (by rw [← HVV2.out]; exact HL12.out.rng _)
        clear HL12b
        go_wp2_with fail
        refine (child_lk HL12.out q (1 - s) HQ.out HS1.out).mono ?_
        rintro e w13 ⟨rfl, L13⟩
        rw [HVV2.out]
        obtain ⟨hc13, hd13⟩ := L13.cell
        have HL13 := Lib.hid L13
        clear L13 hc12 hd12
        have HD13 := Lib.hid HL13.out.drew
        go_wp2_with fail
        go_region_held3 (fun w' => w'.cell? ⟨w.heap.size, 0, none⟩ = some (.pointer (some ⟨p, 0, none⟩)) ∧ w'.cell? ⟨w.heap.size, 1, none⟩ = some (.int .i64 r)) (first | exact HD13.out.cell | exact HL14.out.cell | exact HL15.out.cell) (first | (go_simp; go_at_call 44; refine (red_lk HD13.out q HQ.out).mono ?_; rintro e w14 ⟨rfl, L14⟩; have HL14 := Lib.hid L14; clear L14) | (go_simp; go_at_call 39; refine (paint_lk HL14.out v2 (redB b2 q) HV2.out).mono ?_; rintro e w15 ⟨rfl, L15⟩; have HL15 := Lib.hid L15; clear L15))
        obtain ⟨hc15, hd15⟩ := HL15.out.cell
        clear HD13 hc13 hd13
        go_wp2_with fail
        refine (paint_lk HL15.out q false HQ.out).mono ?_
        rintro e w16 ⟨rfl, L16⟩
        obtain ⟨hc16, hd16⟩ := L16.cell
        have HL16 := Lib.hid L16
        clear L16 hc15 hd15
        have HL16b : Hid (Lk w w16 p d r (remC1 b2 q v2) w.heap.size) := HL16
        clear HL16
        have HL16 := HL16b
        have HZ : Hid (pl (chB (remC1 b2 q v2) v2 (1 - s))) := Lib.hid (HL16.out.rng _)
        clear HL16b
        have HD16 := Lib.hid HL16.out.drew
        go_wp2_with fail
        go_region_held3 (fun w' => w'.cell? ⟨w.heap.size, 0, none⟩ = some (.pointer (some ⟨p, 0, none⟩)) ∧ w'.cell? ⟨w.heap.size, 1, none⟩ = some (.int .i64 r)) (first | exact HD16.out.cell | exact HL17.out.cell | exact HL18.out.cell) (first | (go_simp; go_at_call 36; refine (child_lk HD16.out v2 (1 - s) HV2.out HS1.out).mono ?_; rintro e w17 ⟨rfl, L17⟩; have HL17 := Lib.hid L17; clear L17) | (go_simp; go_at_call 39; refine (paint_lk HL17.out (chB (remC1 b2 q v2) v2 (1 - s)) false HZ.out).mono ?_; rintro e w18 ⟨rfl, L18⟩; have HL18 := Lib.hid L18; clear L18))
        obtain ⟨hc18, hd18⟩ := HL18.out.cell
        clear HD16 hc16 hd16
        go_wp2_with fail
        refine (turn_lk HL18.out q s HQ.out HS01.out).mono ?_
        rintro e w19 ⟨rfl, L19⟩
        obtain ⟨hc19, hd19⟩ := L19.cell
        have HL19 := Lib.hid L19
        clear L19 hc18 hd18
        have HL19b : Hid (Lk w w19 p d r (remC r b2 q s v2) w.heap.size) := HL19
        clear HL19
        have HL19 := HL19b
        have HP : Hid (pl (gt (remC r b2 q s v2) r)) := Lib.hid (HL19.out.rng _)
        clear HL19b
        go_wp2_with fail
        refine (top_lk HL19.out).mono ?_
        rintro e w20 ⟨rfl, L20⟩
        obtain ⟨hc20, hd20⟩ := L20.cell
        have HL20 := Lib.hid L20
        clear L20 hc19 hd19
        go_wp2
        go_roundg F
        case measure => omega
        case rel => exact ⟨_, _, q, rfl, rfl, HREC.out, HL20.out, HP.out, HQ.out⟩
       ·have HRF := Lib.hid hrf
        have e2 : remS2 r s q bsr v = (remC r bsr q s v, gt (remC r bsr q s v) r, q) := by unfold remS2; rw [if_neg hnn, if_pos hrf]
        rw [e2] at hrec2
        have HREC := Lib.hid hrec2
        clear hrec2 e2 hrf hnn
        go_wp2_with fail
        refine (top_lk HL0.out).mono ?_
        rintro e w1 ⟨rfl, L1⟩
        rw [HTT.out]
        obtain ⟨hc1, hd1⟩ := L1.cell
        have HL1 := Lib.hid L1
        clear L1 hc0 hd0
        go_wp2_with fail
        refine (red_lk HL1.out x HX.out).mono ?_
        rintro e w2 ⟨rfl, L2⟩
        rw [HRX.out]
        obtain ⟨hc2, hd2⟩ := L2.cell
        have HL2 := Lib.hid L2
        clear L2 hc1 hd1
        go_wp2_with fail
        refine (side_lk HL2.out q x HQ.out).mono ?_
        rintro e w3 ⟨rfl, L3⟩
        rw [HSS.out]
        obtain ⟨hc3, hd3⟩ := L3.cell
        have HL3 := Lib.hid L3
        clear L3 hc2 hd2
        go_wp2_with fail
        refine (child_lk HL3.out q (1 - s) HQ.out HS1.out).mono ?_
        rintro e w4 ⟨rfl, L4⟩
        rw [HVV.out]
        obtain ⟨hc4, hd4⟩ := L4.cell
        have HL4 := Lib.hid L4
        clear L4 hc3 hd3
        go_wp2_with fail
        refine (red_lk HL4.out v HV.out).mono ?_
        rintro e w5 ⟨rfl, L5⟩
        rw [HRV.out]
        obtain ⟨hc5, hd5⟩ := L5.cell
        have HL5 := Lib.hid L5
        clear L5 hc4 hd4
        have HW := HV
        have HC0 : Hid (pl (chB bsr v 0)) := Lib.hid (HL5.out.rng _)
        have HC1 : Hid (pl (chB bsr v 1)) := Lib.hid (HL5.out.rng _)
        have HN1 : Hid (pl (chB bsr v s)) := Lib.hid (HL5.out.rng _)
        have HF1 : Hid (pl (chB bsr v (1 - s))) := Lib.hid (HL5.out.rng _)
        go_wp2_with fail
        refine region_settled (by kernel_rfl) [(45, .agg #[.pointer (some ⟨p, 0, none⟩), .int .i64 r]), (46, .agg #[.pointer (some ⟨p, 0, none⟩), .int .i64 r]), (47, .int .i64 v), (48, .int .i64 (chB bsr v 0)), (49, .bool false), (50, .bool true), (51, .bool true), (52, .agg #[.pointer (some ⟨p, 0, none⟩), .int .i64 r]), (53, .agg #[.pointer (some ⟨p, 0, none⟩), .int .i64 r]), (54, .int .i64 v), (55, .int .i64 (chB bsr v 1)), (56, .bool true), (57, .bool false), (58, .bool false)] (fun w' => Lk w w' p d r bsr w.heap.size) rfl (by simp) rfl (edges_all (by kernel_rfl)) HL5.out.drew (settled_all (And.intro (st_box (p := p) (X := w.heap.size) (r := r) rfl rfl (.inl rfl) rfl rfl (fun _ h => Lk.cell h))
         (And.intro (st_box (p := p) (X := w.heap.size) (r := r) rfl rfl (.inl rfl) rfl rfl (fun _ h => Lk.cell h))
         (And.intro (st_move rfl rfl rfl (.inl rfl) (.inr ⟨7, rfl, .inl ⟨rfl, rfl⟩⟩))
         (And.intro (st_call (f := 36) (vs := #[.agg #[.pointer (some ⟨p, 0, none⟩), .int .i64 r], .int .i64 v, .int .i64 0]) rfl rfl rfl (.inl rfl) rfl (args3 (.inr ⟨46, rfl, .inr ⟨1, by kernel_rfl, rfl⟩⟩) (.inr ⟨47, rfl, .inr ⟨2, by kernel_rfl, rfl⟩⟩) (.inl rfl)) (enters_child _) (fun _ h => child_lk h v 0 HW.out (.inl rfl)))
         (And.intro (st_call (f := 44) (vs := #[.agg #[.pointer (some ⟨p, 0, none⟩), .int .i64 r], .int .i64 (chB bsr v 0)]) rfl rfl rfl (.inl rfl) rfl (args2 (.inr ⟨45, rfl, .inr ⟨0, by kernel_rfl, rfl⟩⟩) (.inr ⟨48, rfl, .inr ⟨3, by kernel_rfl, rfl⟩⟩)) (enters_red _) (fun w h => by have := red_lk h (chB bsr v 0) HC0.out; rw [HR0.out] at this; exact this))
         (And.intro (st_not (b := false) rfl rfl rfl (.inl rfl) (.inr ⟨49, rfl, .inr ⟨4, by kernel_rfl, rfl⟩⟩))
         (And.intro (st_move rfl rfl rfl (.inl rfl) (.inr ⟨50, rfl, .inr ⟨5, by kernel_rfl, rfl⟩⟩))
         (And.intro (st_box (p := p) (X := w.heap.size) (r := r) rfl rfl (.inr ⟨6, true, _, 51, rfl, rfl, rfl, rfl, by kernel_rfl⟩) rfl rfl (fun _ h => Lk.cell h))
         (And.intro (st_box (p := p) (X := w.heap.size) (r := r) rfl rfl (.inr ⟨6, true, _, 51, rfl, rfl, rfl, rfl, by kernel_rfl⟩) rfl rfl (fun _ h => Lk.cell h))
         (And.intro (st_move rfl rfl rfl (.inr ⟨6, true, _, 51, rfl, rfl, rfl, rfl, by kernel_rfl⟩) (.inr ⟨7, rfl, .inl ⟨rfl, rfl⟩⟩))
         (And.intro (st_call (f := 36) (vs := #[.agg #[.pointer (some ⟨p, 0, none⟩), .int .i64 r], .int .i64 v, .int .i64 1]) rfl rfl rfl (.inr ⟨6, true, _, 51, rfl, rfl, rfl, rfl, by kernel_rfl⟩) rfl (args3 (.inr ⟨53, rfl, .inr ⟨8, by kernel_rfl, rfl⟩⟩) (.inr ⟨54, rfl, .inr ⟨9, by kernel_rfl, rfl⟩⟩) (.inl rfl)) (enters_child _) (fun _ h => child_lk h v 1 HW.out (.inr rfl)))
         (And.intro (st_call (f := 44) (vs := #[.agg #[.pointer (some ⟨p, 0, none⟩), .int .i64 r], .int .i64 (chB bsr v 1)]) rfl rfl rfl (.inr ⟨6, true, _, 51, rfl, rfl, rfl, rfl, by kernel_rfl⟩) rfl (args2 (.inr ⟨52, rfl, .inr ⟨7, by kernel_rfl, rfl⟩⟩) (.inr ⟨55, rfl, .inr ⟨10, by kernel_rfl, rfl⟩⟩)) (enters_red _) (fun w h => by have := red_lk h (chB bsr v 1) HC1.out; rw [HR1.out] at this; exact this))
         (And.intro (st_not (b := true) rfl rfl rfl (.inr ⟨6, true, _, 51, rfl, rfl, rfl, rfl, by kernel_rfl⟩) (.inr ⟨56, rfl, .inr ⟨11, by kernel_rfl, rfl⟩⟩))
         (And.intro (st_pick (b := true) rfl rfl rfl (.inl rfl) (.inr ⟨51, rfl, .inr ⟨6, by kernel_rfl, rfl⟩⟩) (.inr ⟨57, rfl, .inr ⟨12, by kernel_rfl, rfl⟩⟩))
         trivial))))))))))))))) ?_
        intro w6 L6
        simp only [puts, List.foldl_cons, List.foldl_nil, Act.put, List.setIfInBounds_toArray, List.set_cons_zero, List.set_cons_succ]
        obtain ⟨hc6, hd6⟩ := L6.cell
        have HL6 := Lib.hid L6
        clear L6 hc5 hd5
        have HD6 := Lib.hid HL6.out.drew
        go_wp2_with fail
        go_region_held3 (fun w' => w'.cell? ⟨w.heap.size, 0, none⟩ = some (.pointer (some ⟨p, 0, none⟩)) ∧ w'.cell? ⟨w.heap.size, 1, none⟩ = some (.int .i64 r)) (first | exact HD6.out.cell | exact HL7.out.cell | exact HL8.out.cell) (first | (go_simp; go_at_call 36; refine (child_lk HD6.out v (1 - s) HW.out HS1.out).mono ?_; rintro e w7 ⟨rfl, L7⟩; have HL7 := Lib.hid L7; clear L7) | (go_simp; go_at_call 44; refine (red_lk HL7.out (chB bsr v (1 - s)) HF1.out).mono ?_; rintro e w8 ⟨rfl, L8⟩; rw [HRF.out]; have HL8 := Lib.hid L8; clear L8))
        obtain ⟨hc8, hd8⟩ := HL8.out.cell
        clear HD6 hc6 hd6
        have HD8 := Lib.hid HL8.out.drew
        go_wp2_with fail
        go_region_held3 (fun w' => w'.cell? ⟨w.heap.size, 0, none⟩ = some (.pointer (some ⟨p, 0, none⟩)) ∧ w'.cell? ⟨w.heap.size, 1, none⟩ = some (.int .i64 r)) (first | exact HD8.out.cell | exact HL9.out.cell | exact HL10.out.cell) (first | (go_simp; go_at_call 44; refine (red_lk HD8.out q HQ.out).mono ?_; rintro e w9 ⟨rfl, L9⟩; have HL9 := Lib.hid L9; clear L9) | (go_simp; go_at_call 39; refine (paint_lk HL9.out v (redB bsr q) HW.out).mono ?_; rintro e w10 ⟨rfl, L10⟩; have HL10 := Lib.hid L10; clear L10))
        obtain ⟨hc10, hd10⟩ := HL10.out.cell
        clear HD8 hc8 hd8
        go_wp2_with fail
        refine (paint_lk HL10.out q false HQ.out).mono ?_
        rintro e w11 ⟨rfl, L11⟩
        obtain ⟨hc11, hd11⟩ := L11.cell
        have HL11 := Lib.hid L11
        clear L11 hc10 hd10
        have HL11b : Hid (Lk w w11 p d r (remC1 bsr q v) w.heap.size) := HL11
        clear HL11
        have HL11 := HL11b
        have HZ : Hid (pl (chB (remC1 bsr q v) v (1 - s))) := Lib.hid (HL11.out.rng _)
        clear HL11b
        have HD11 := Lib.hid HL11.out.drew
        go_wp2_with fail
        go_region_held3 (fun w' => w'.cell? ⟨w.heap.size, 0, none⟩ = some (.pointer (some ⟨p, 0, none⟩)) ∧ w'.cell? ⟨w.heap.size, 1, none⟩ = some (.int .i64 r)) (first | exact HD11.out.cell | exact HL12.out.cell | exact HL13.out.cell) (first | (go_simp; go_at_call 36; refine (child_lk HD11.out v (1 - s) HW.out HS1.out).mono ?_; rintro e w12 ⟨rfl, L12⟩; have HL12 := Lib.hid L12; clear L12) | (go_simp; go_at_call 39; refine (paint_lk HL12.out (chB (remC1 bsr q v) v (1 - s)) false HZ.out).mono ?_; rintro e w13 ⟨rfl, L13⟩; have HL13 := Lib.hid L13; clear L13))
        obtain ⟨hc13, hd13⟩ := HL13.out.cell
        clear HD11 hc11 hd11
        go_wp2_with fail
        refine (turn_lk HL13.out q s HQ.out HS01.out).mono ?_
        rintro e w14 ⟨rfl, L14⟩
        obtain ⟨hc14, hd14⟩ := L14.cell
        have HL14 := Lib.hid L14
        clear L14 hc13 hd13
        have HL14b : Hid (Lk w w14 p d r (remC r bsr q s v) w.heap.size) := HL14
        clear HL14
        have HL14 := HL14b
        have HP : Hid (pl (gt (remC r bsr q s v) r)) := Lib.hid (HL14.out.rng _)
        clear HL14b
        go_wp2_with fail
        refine (top_lk HL14.out).mono ?_
        rintro e w15 ⟨rfl, L15⟩
        obtain ⟨hc15, hd15⟩ := L15.cell
        have HL15 := Lib.hid L15
        clear L15 hc14 hd14
        go_wp2
        go_roundg F
        case measure => omega
        case rel => exact ⟨_, _, q, rfl, rfl, HREC.out, HL15.out, HP.out, HQ.out⟩
     ·have HR0 := Lib.hid hr0
      have hnn : ¬ (redB bsr (chB bsr v 0) = false ∧ redB bsr (chB bsr v 1) = false) := by rw [hr0]; simp
      clear hr0
      cases hrf : redB bsr (chB bsr v (1 - s))
      ·have HRF := Lib.hid hrf
       obtain ⟨b2, hb2⟩ : ∃ b, remB r bsr s v = b := ⟨_, rfl⟩
       obtain ⟨v2, hv2⟩ : ∃ a, chB b2 q (1 - s) = a := ⟨_, rfl⟩
       have e2 : remS2 r s q bsr v = (remC r b2 q s v2, gt (remC r b2 q s v2) r, q) := by unfold remS2; rw [if_neg hnn, if_neg (by rw [hrf]; decide), hb2, hv2]
       rw [e2] at hrec2
       have HREC := Lib.hid hrec2
       have HB2 := Lib.hid hb2
       have HVV2 := Lib.hid hv2
       clear hrec2 e2 hrf hnn hb2 hv2
       go_wp2_with fail
       refine (top_lk HL0.out).mono ?_
       rintro e w1 ⟨rfl, L1⟩
       rw [HTT.out]
       obtain ⟨hc1, hd1⟩ := L1.cell
       have HL1 := Lib.hid L1
       clear L1 hc0 hd0
       go_wp2_with fail
       refine (red_lk HL1.out x HX.out).mono ?_
       rintro e w2 ⟨rfl, L2⟩
       rw [HRX.out]
       obtain ⟨hc2, hd2⟩ := L2.cell
       have HL2 := Lib.hid L2
       clear L2 hc1 hd1
       go_wp2_with fail
       refine (side_lk HL2.out q x HQ.out).mono ?_
       rintro e w3 ⟨rfl, L3⟩
       rw [HSS.out]
       obtain ⟨hc3, hd3⟩ := L3.cell
       have HL3 := Lib.hid L3
       clear L3 hc2 hd2
       go_wp2_with fail
       refine (child_lk HL3.out q (1 - s) HQ.out HS1.out).mono ?_
       rintro e w4 ⟨rfl, L4⟩
       rw [HVV.out]
       obtain ⟨hc4, hd4⟩ := L4.cell
       have HL4 := Lib.hid L4
       clear L4 hc3 hd3
       go_wp2_with fail
       refine (red_lk HL4.out v HV.out).mono ?_
       rintro e w5 ⟨rfl, L5⟩
       rw [HRV.out]
       obtain ⟨hc5, hd5⟩ := L5.cell
       have HL5 := Lib.hid L5
       clear L5 hc4 hd4
       have HW := HV
       have HC0 : Hid (pl (chB bsr v 0)) := Lib.hid (HL5.out.rng _)
       have HC1 : Hid (pl (chB bsr v 1)) := Lib.hid (HL5.out.rng _)
       have HN1 : Hid (pl (chB bsr v s)) := Lib.hid (HL5.out.rng _)
       have HF1 : Hid (pl (chB bsr v (1 - s))) := Lib.hid (HL5.out.rng _)
       go_wp2_with fail
       refine region_settled (by kernel_rfl) [(45, .agg #[.pointer (some ⟨p, 0, none⟩), .int .i64 r]), (46, .agg #[.pointer (some ⟨p, 0, none⟩), .int .i64 r]), (47, .int .i64 v), (48, .int .i64 (chB bsr v 0)), (49, .bool true), (50, .bool false), (51, .bool false), (52, undef), (53, undef), (54, undef), (55, undef), (56, undef), (57, undef), (58, .bool false)] (fun w' => Lk w w' p d r bsr w.heap.size) rfl (by simp) rfl (edges_all (by kernel_rfl)) HL5.out.drew (settled_all (And.intro (st_box (p := p) (X := w.heap.size) (r := r) rfl rfl (.inl rfl) rfl rfl (fun _ h => Lk.cell h))
        (And.intro (st_box (p := p) (X := w.heap.size) (r := r) rfl rfl (.inl rfl) rfl rfl (fun _ h => Lk.cell h))
        (And.intro (st_move rfl rfl rfl (.inl rfl) (.inr ⟨7, rfl, .inl ⟨rfl, rfl⟩⟩))
        (And.intro (st_call (f := 36) (vs := #[.agg #[.pointer (some ⟨p, 0, none⟩), .int .i64 r], .int .i64 v, .int .i64 0]) rfl rfl rfl (.inl rfl) rfl (args3 (.inr ⟨46, rfl, .inr ⟨1, by kernel_rfl, rfl⟩⟩) (.inr ⟨47, rfl, .inr ⟨2, by kernel_rfl, rfl⟩⟩) (.inl rfl)) (enters_child _) (fun _ h => child_lk h v 0 HW.out (.inl rfl)))
        (And.intro (st_call (f := 44) (vs := #[.agg #[.pointer (some ⟨p, 0, none⟩), .int .i64 r], .int .i64 (chB bsr v 0)]) rfl rfl rfl (.inl rfl) rfl (args2 (.inr ⟨45, rfl, .inr ⟨0, by kernel_rfl, rfl⟩⟩) (.inr ⟨48, rfl, .inr ⟨3, by kernel_rfl, rfl⟩⟩)) (enters_red _) (fun w h => by have := red_lk h (chB bsr v 0) HC0.out; rw [HR0.out] at this; exact this))
        (And.intro (st_not (b := true) rfl rfl rfl (.inl rfl) (.inr ⟨49, rfl, .inr ⟨4, by kernel_rfl, rfl⟩⟩))
        (And.intro (st_move rfl rfl rfl (.inl rfl) (.inr ⟨50, rfl, .inr ⟨5, by kernel_rfl, rfl⟩⟩))
        (And.intro (settled_skip _ rfl rfl (⟨6, true, _, 51, rfl, rfl, rfl, rfl, by kernel_rfl⟩))
        (And.intro (settled_skip _ rfl rfl (⟨6, true, _, 51, rfl, rfl, rfl, rfl, by kernel_rfl⟩))
        (And.intro (settled_skip _ rfl rfl (⟨6, true, _, 51, rfl, rfl, rfl, rfl, by kernel_rfl⟩))
        (And.intro (settled_skip _ rfl rfl (⟨6, true, _, 51, rfl, rfl, rfl, rfl, by kernel_rfl⟩))
        (And.intro (settled_skip _ rfl rfl (⟨6, true, _, 51, rfl, rfl, rfl, rfl, by kernel_rfl⟩))
        (And.intro (settled_skip _ rfl rfl (⟨6, true, _, 51, rfl, rfl, rfl, rfl, by kernel_rfl⟩))
        (And.intro (st_pick (b := false) rfl rfl rfl (.inl rfl) (.inr ⟨51, rfl, .inr ⟨6, by kernel_rfl, rfl⟩⟩) (.inl rfl))
        trivial))))))))))))))) ?_
       intro w6 L6
       simp only [puts, List.foldl_cons, List.foldl_nil, Act.put, List.setIfInBounds_toArray, List.set_cons_zero, List.set_cons_succ]
       obtain ⟨hc6, hd6⟩ := L6.cell
       have HL6 := Lib.hid L6
       clear L6 hc5 hd5
       have HD6 := Lib.hid HL6.out.drew
       go_wp2_with fail
       go_region_held3 (fun w' => w'.cell? ⟨w.heap.size, 0, none⟩ = some (.pointer (some ⟨p, 0, none⟩)) ∧ w'.cell? ⟨w.heap.size, 1, none⟩ = some (.int .i64 r)) (first | exact HD6.out.cell | exact HL7.out.cell | exact HL8.out.cell) (first | (go_simp; go_at_call 36; refine (child_lk HD6.out v (1 - s) HW.out HS1.out).mono ?_; rintro e w7 ⟨rfl, L7⟩; have HL7 := Lib.hid L7; clear L7) | (go_simp; go_at_call 44; refine (red_lk HL7.out (chB bsr v (1 - s)) HF1.out).mono ?_; rintro e w8 ⟨rfl, L8⟩; rw [HRF.out]; have HL8 := Lib.hid L8; clear L8))
       obtain ⟨hc8, hd8⟩ := HL8.out.cell
       clear HD6 hc6 hd6
       have HD8 := Lib.hid HL8.out.drew
       go_wp2_with fail
       go_region_held3 (fun w' => w'.cell? ⟨w.heap.size, 0, none⟩ = some (.pointer (some ⟨p, 0, none⟩)) ∧ w'.cell? ⟨w.heap.size, 1, none⟩ = some (.int .i64 r)) (first | exact HD8.out.cell | exact HL9.out.cell | exact HL10.out.cell) (first | (go_simp; go_at_call 36; refine (child_lk HD8.out v s HW.out HS01.out).mono ?_; rintro e w9 ⟨rfl, L9⟩; have HL9 := Lib.hid L9; clear L9) | (go_simp; go_at_call 39; refine (paint_lk HL9.out (chB bsr v s) false HN1.out).mono ?_; rintro e w10 ⟨rfl, L10⟩; have HL10 := Lib.hid L10; clear L10))
       obtain ⟨hc10, hd10⟩ := HL10.out.cell
       clear HD8 hc8 hd8
       go_wp2_with fail
       refine (paint_lk HL10.out v true HW.out).mono ?_
       rintro e w11 ⟨rfl, L11⟩
       obtain ⟨hc11, hd11⟩ := L11.cell
       have HL11 := Lib.hid L11
       clear L11 hc10 hd10
       go_wp2_with fail
       refine (turn_lk HL11.out v (1 - s) HW.out HS1.out).mono ?_
       rintro e w12 ⟨rfl, L12⟩
       obtain ⟨hc12, hd12⟩ := L12.cell
       have HL12 := Lib.hid L12
       clear L12 hc11 hd11
       have HL12b : Hid (Lk w w12 p d r b2 w.heap.size) := Lib.hid (by rw [← HB2.out]; exact HL12.out)
       clear HL12
       have HL12 := HL12b
       have HV2 : Hid (pl v2) := Lib.hid (by rw [← HVV2.out]; exact HL12.out.rng _)
       clear HL12b
       go_wp2_with fail
       refine (child_lk HL12.out q (1 - s) HQ.out HS1.out).mono ?_
       rintro e w13 ⟨rfl, L13⟩
       rw [HVV2.out]
       obtain ⟨hc13, hd13⟩ := L13.cell
       have HL13 := Lib.hid L13
       clear L13 hc12 hd12
       have HD13 := Lib.hid HL13.out.drew
       go_wp2_with fail
       go_region_held3 (fun w' => w'.cell? ⟨w.heap.size, 0, none⟩ = some (.pointer (some ⟨p, 0, none⟩)) ∧ w'.cell? ⟨w.heap.size, 1, none⟩ = some (.int .i64 r)) (first | exact HD13.out.cell | exact HL14.out.cell | exact HL15.out.cell) (first | (go_simp; go_at_call 44; refine (red_lk HD13.out q HQ.out).mono ?_; rintro e w14 ⟨rfl, L14⟩; have HL14 := Lib.hid L14; clear L14) | (go_simp; go_at_call 39; refine (paint_lk HL14.out v2 (redB b2 q) HV2.out).mono ?_; rintro e w15 ⟨rfl, L15⟩; have HL15 := Lib.hid L15; clear L15))
       obtain ⟨hc15, hd15⟩ := HL15.out.cell
       clear HD13 hc13 hd13
       go_wp2_with fail
       refine (paint_lk HL15.out q false HQ.out).mono ?_
       rintro e w16 ⟨rfl, L16⟩
       obtain ⟨hc16, hd16⟩ := L16.cell
       have HL16 := Lib.hid L16
       clear L16 hc15 hd15
       have HL16b : Hid (Lk w w16 p d r (remC1 b2 q v2) w.heap.size) := HL16
       clear HL16
       have HL16 := HL16b
       have HZ : Hid (pl (chB (remC1 b2 q v2) v2 (1 - s))) := Lib.hid (HL16.out.rng _)
       clear HL16b
       have HD16 := Lib.hid HL16.out.drew
       go_wp2_with fail
       go_region_held3 (fun w' => w'.cell? ⟨w.heap.size, 0, none⟩ = some (.pointer (some ⟨p, 0, none⟩)) ∧ w'.cell? ⟨w.heap.size, 1, none⟩ = some (.int .i64 r)) (first | exact HD16.out.cell | exact HL17.out.cell | exact HL18.out.cell) (first | (go_simp; go_at_call 36; refine (child_lk HD16.out v2 (1 - s) HV2.out HS1.out).mono ?_; rintro e w17 ⟨rfl, L17⟩; have HL17 := Lib.hid L17; clear L17) | (go_simp; go_at_call 39; refine (paint_lk HL17.out (chB (remC1 b2 q v2) v2 (1 - s)) false HZ.out).mono ?_; rintro e w18 ⟨rfl, L18⟩; have HL18 := Lib.hid L18; clear L18))
       obtain ⟨hc18, hd18⟩ := HL18.out.cell
       clear HD16 hc16 hd16
       go_wp2_with fail
       refine (turn_lk HL18.out q s HQ.out HS01.out).mono ?_
       rintro e w19 ⟨rfl, L19⟩
       obtain ⟨hc19, hd19⟩ := L19.cell
       have HL19 := Lib.hid L19
       clear L19 hc18 hd18
       have HL19b : Hid (Lk w w19 p d r (remC r b2 q s v2) w.heap.size) := HL19
       clear HL19
       have HL19 := HL19b
       have HP : Hid (pl (gt (remC r b2 q s v2) r)) := Lib.hid (HL19.out.rng _)
       clear HL19b
       go_wp2_with fail
       refine (top_lk HL19.out).mono ?_
       rintro e w20 ⟨rfl, L20⟩
       obtain ⟨hc20, hd20⟩ := L20.cell
       have HL20 := Lib.hid L20
       clear L20 hc19 hd19
       go_wp2
       go_roundg F
       case measure => omega
       case rel => exact ⟨_, _, q, rfl, rfl, HREC.out, HL20.out, HP.out, HQ.out⟩
      ·have HRF := Lib.hid hrf
       have e2 : remS2 r s q bsr v = (remC r bsr q s v, gt (remC r bsr q s v) r, q) := by unfold remS2; rw [if_neg hnn, if_pos hrf]
       rw [e2] at hrec2
       have HREC := Lib.hid hrec2
       clear hrec2 e2 hrf hnn
       go_wp2_with fail
       refine (top_lk HL0.out).mono ?_
       rintro e w1 ⟨rfl, L1⟩
       rw [HTT.out]
       obtain ⟨hc1, hd1⟩ := L1.cell
       have HL1 := Lib.hid L1
       clear L1 hc0 hd0
       go_wp2_with fail
       refine (red_lk HL1.out x HX.out).mono ?_
       rintro e w2 ⟨rfl, L2⟩
       rw [HRX.out]
       obtain ⟨hc2, hd2⟩ := L2.cell
       have HL2 := Lib.hid L2
       clear L2 hc1 hd1
       go_wp2_with fail
       refine (side_lk HL2.out q x HQ.out).mono ?_
       rintro e w3 ⟨rfl, L3⟩
       rw [HSS.out]
       obtain ⟨hc3, hd3⟩ := L3.cell
       have HL3 := Lib.hid L3
       clear L3 hc2 hd2
       go_wp2_with fail
       refine (child_lk HL3.out q (1 - s) HQ.out HS1.out).mono ?_
       rintro e w4 ⟨rfl, L4⟩
       rw [HVV.out]
       obtain ⟨hc4, hd4⟩ := L4.cell
       have HL4 := Lib.hid L4
       clear L4 hc3 hd3
       go_wp2_with fail
       refine (red_lk HL4.out v HV.out).mono ?_
       rintro e w5 ⟨rfl, L5⟩
       rw [HRV.out]
       obtain ⟨hc5, hd5⟩ := L5.cell
       have HL5 := Lib.hid L5
       clear L5 hc4 hd4
       have HW := HV
       have HC0 : Hid (pl (chB bsr v 0)) := Lib.hid (HL5.out.rng _)
       have HC1 : Hid (pl (chB bsr v 1)) := Lib.hid (HL5.out.rng _)
       have HN1 : Hid (pl (chB bsr v s)) := Lib.hid (HL5.out.rng _)
       have HF1 : Hid (pl (chB bsr v (1 - s))) := Lib.hid (HL5.out.rng _)
       go_wp2_with fail
       refine region_settled (by kernel_rfl) [(45, .agg #[.pointer (some ⟨p, 0, none⟩), .int .i64 r]), (46, .agg #[.pointer (some ⟨p, 0, none⟩), .int .i64 r]), (47, .int .i64 v), (48, .int .i64 (chB bsr v 0)), (49, .bool true), (50, .bool false), (51, .bool false), (52, undef), (53, undef), (54, undef), (55, undef), (56, undef), (57, undef), (58, .bool false)] (fun w' => Lk w w' p d r bsr w.heap.size) rfl (by simp) rfl (edges_all (by kernel_rfl)) HL5.out.drew (settled_all (And.intro (st_box (p := p) (X := w.heap.size) (r := r) rfl rfl (.inl rfl) rfl rfl (fun _ h => Lk.cell h))
        (And.intro (st_box (p := p) (X := w.heap.size) (r := r) rfl rfl (.inl rfl) rfl rfl (fun _ h => Lk.cell h))
        (And.intro (st_move rfl rfl rfl (.inl rfl) (.inr ⟨7, rfl, .inl ⟨rfl, rfl⟩⟩))
        (And.intro (st_call (f := 36) (vs := #[.agg #[.pointer (some ⟨p, 0, none⟩), .int .i64 r], .int .i64 v, .int .i64 0]) rfl rfl rfl (.inl rfl) rfl (args3 (.inr ⟨46, rfl, .inr ⟨1, by kernel_rfl, rfl⟩⟩) (.inr ⟨47, rfl, .inr ⟨2, by kernel_rfl, rfl⟩⟩) (.inl rfl)) (enters_child _) (fun _ h => child_lk h v 0 HW.out (.inl rfl)))
        (And.intro (st_call (f := 44) (vs := #[.agg #[.pointer (some ⟨p, 0, none⟩), .int .i64 r], .int .i64 (chB bsr v 0)]) rfl rfl rfl (.inl rfl) rfl (args2 (.inr ⟨45, rfl, .inr ⟨0, by kernel_rfl, rfl⟩⟩) (.inr ⟨48, rfl, .inr ⟨3, by kernel_rfl, rfl⟩⟩)) (enters_red _) (fun w h => by have := red_lk h (chB bsr v 0) HC0.out; rw [HR0.out] at this; exact this))
        (And.intro (st_not (b := true) rfl rfl rfl (.inl rfl) (.inr ⟨49, rfl, .inr ⟨4, by kernel_rfl, rfl⟩⟩))
        (And.intro (st_move rfl rfl rfl (.inl rfl) (.inr ⟨50, rfl, .inr ⟨5, by kernel_rfl, rfl⟩⟩))
        (And.intro (settled_skip _ rfl rfl (⟨6, true, _, 51, rfl, rfl, rfl, rfl, by kernel_rfl⟩))
        (And.intro (settled_skip _ rfl rfl (⟨6, true, _, 51, rfl, rfl, rfl, rfl, by kernel_rfl⟩))
        (And.intro (settled_skip _ rfl rfl (⟨6, true, _, 51, rfl, rfl, rfl, rfl, by kernel_rfl⟩))
        (And.intro (settled_skip _ rfl rfl (⟨6, true, _, 51, rfl, rfl, rfl, rfl, by kernel_rfl⟩))
        (And.intro (settled_skip _ rfl rfl (⟨6, true, _, 51, rfl, rfl, rfl, rfl, by kernel_rfl⟩))
        (And.intro (settled_skip _ rfl rfl (⟨6, true, _, 51, rfl, rfl, rfl, rfl, by kernel_rfl⟩))
        (And.intro (st_pick (b := false) rfl rfl rfl (.inl rfl) (.inr ⟨51, rfl, .inr ⟨6, by kernel_rfl, rfl⟩⟩) (.inl rfl))
        trivial))))))))))))))) ?_
       intro w6 L6
       simp only [puts, List.foldl_cons, List.foldl_nil, Act.put, List.setIfInBounds_toArray, List.set_cons_zero, List.set_cons_succ]
       obtain ⟨hc6, hd6⟩ := L6.cell
       have HL6 := Lib.hid L6
       clear L6 hc5 hd5
       have HD6 := Lib.hid HL6.out.drew
       go_wp2_with fail
       go_region_held3 (fun w' => w'.cell? ⟨w.heap.size, 0, none⟩ = some (.pointer (some ⟨p, 0, none⟩)) ∧ w'.cell? ⟨w.heap.size, 1, none⟩ = some (.int .i64 r)) (first | exact HD6.out.cell | exact HL7.out.cell | exact HL8.out.cell) (first | (go_simp; go_at_call 36; refine (child_lk HD6.out v (1 - s) HW.out HS1.out).mono ?_; rintro e w7 ⟨rfl, L7⟩; have HL7 := Lib.hid L7; clear L7) | (go_simp; go_at_call 44; refine (red_lk HL7.out (chB bsr v (1 - s)) HF1.out).mono ?_; rintro e w8 ⟨rfl, L8⟩; rw [HRF.out]; have HL8 := Lib.hid L8; clear L8))
       obtain ⟨hc8, hd8⟩ := HL8.out.cell
       clear HD6 hc6 hd6
       have HD8 := Lib.hid HL8.out.drew
       go_wp2_with fail
       go_region_held3 (fun w' => w'.cell? ⟨w.heap.size, 0, none⟩ = some (.pointer (some ⟨p, 0, none⟩)) ∧ w'.cell? ⟨w.heap.size, 1, none⟩ = some (.int .i64 r)) (first | exact HD8.out.cell | exact HL9.out.cell | exact HL10.out.cell) (first | (go_simp; go_at_call 44; refine (red_lk HD8.out q HQ.out).mono ?_; rintro e w9 ⟨rfl, L9⟩; have HL9 := Lib.hid L9; clear L9) | (go_simp; go_at_call 39; refine (paint_lk HL9.out v (redB bsr q) HW.out).mono ?_; rintro e w10 ⟨rfl, L10⟩; have HL10 := Lib.hid L10; clear L10))
       obtain ⟨hc10, hd10⟩ := HL10.out.cell
       clear HD8 hc8 hd8
       go_wp2_with fail
       refine (paint_lk HL10.out q false HQ.out).mono ?_
       rintro e w11 ⟨rfl, L11⟩
       obtain ⟨hc11, hd11⟩ := L11.cell
       have HL11 := Lib.hid L11
       clear L11 hc10 hd10
       have HL11b : Hid (Lk w w11 p d r (remC1 bsr q v) w.heap.size) := HL11
       clear HL11
       have HL11 := HL11b
       have HZ : Hid (pl (chB (remC1 bsr q v) v (1 - s))) := Lib.hid (HL11.out.rng _)
       clear HL11b
       have HD11 := Lib.hid HL11.out.drew
       go_wp2_with fail
       go_region_held3 (fun w' => w'.cell? ⟨w.heap.size, 0, none⟩ = some (.pointer (some ⟨p, 0, none⟩)) ∧ w'.cell? ⟨w.heap.size, 1, none⟩ = some (.int .i64 r)) (first | exact HD11.out.cell | exact HL12.out.cell | exact HL13.out.cell) (first | (go_simp; go_at_call 36; refine (child_lk HD11.out v (1 - s) HW.out HS1.out).mono ?_; rintro e w12 ⟨rfl, L12⟩; have HL12 := Lib.hid L12; clear L12) | (go_simp; go_at_call 39; refine (paint_lk HL12.out (chB (remC1 bsr q v) v (1 - s)) false HZ.out).mono ?_; rintro e w13 ⟨rfl, L13⟩; have HL13 := Lib.hid L13; clear L13))
       obtain ⟨hc13, hd13⟩ := HL13.out.cell
       clear HD11 hc11 hd11
       go_wp2_with fail
       refine (turn_lk HL13.out q s HQ.out HS01.out).mono ?_
       rintro e w14 ⟨rfl, L14⟩
       obtain ⟨hc14, hd14⟩ := L14.cell
       have HL14 := Lib.hid L14
       clear L14 hc13 hd13
       have HL14b : Hid (Lk w w14 p d r (remC r bsr q s v) w.heap.size) := HL14
       clear HL14
       have HL14 := HL14b
       have HP : Hid (pl (gt (remC r bsr q s v) r)) := Lib.hid (HL14.out.rng _)
       clear HL14b
       go_wp2_with fail
       refine (top_lk HL14.out).mono ?_
       rintro e w15 ⟨rfl, L15⟩
       obtain ⟨hc15, hd15⟩ := L15.cell
       have HL15 := Lib.hid L15
       clear L15 hc14 hd14
       go_wp2
       go_roundg F
       case measure => omega
       case rel => exact ⟨_, _, q, rfl, rfl, HREC.out, HL15.out, HP.out, HQ.out⟩
    ·have HRV := Lib.hid hrv
     clear hrv
     obtain ⟨b1, hb1⟩ : ∃ b, remA r bsr q s v = b := ⟨_, rfl⟩
     obtain ⟨v1, hv1⟩ : ∃ a, chB b1 q (1 - s) = a := ⟨_, rfl⟩
     have hrec2 : removedB r F (remS2 r s q b1 v1).1 (remS2 r s q b1 v1).2.1 (remS2 r s q b1 v1).2.2 = some bs' := by
      have e1 : remS r bsr x q = remS2 r s q b1 v1 := by
       unfold remS
       rw [HSS.out, HVV.out, HRV.out]
       rw [if_pos rfl, hb1, hv1]
      rw [← e1]; exact HREC0.out
     clear HREC0
     have HB1 := Lib.hid hb1
     have HWW := Lib.hid hv1
     clear hb1 hv1
     cases hr0 : redB b1 (chB b1 v1 0)
     ·have HR0 := Lib.hid hr0
      cases hr1 : redB b1 (chB b1 v1 1)
      ·have HR1 := Lib.hid hr1
       have e2 : remS2 r s q b1 v1 = (paintB b1 v1 true, q, upB (paintB b1 v1 true) q) := by unfold remS2; rw [if_pos ⟨hr0, hr1⟩]
       rw [e2] at hrec2
       have HREC := Lib.hid hrec2
       clear hrec2 e2 hr0 hr1
       go_wp2_with fail
       refine (top_lk HL0.out).mono ?_
       rintro e w1 ⟨rfl, L1⟩
       rw [HTT.out]
       obtain ⟨hc1, hd1⟩ := L1.cell
       have HL1 := Lib.hid L1
       clear L1 hc0 hd0
       go_wp2_with fail
       refine (red_lk HL1.out x HX.out).mono ?_
       rintro e w2 ⟨rfl, L2⟩
       rw [HRX.out]
       obtain ⟨hc2, hd2⟩ := L2.cell
       have HL2 := Lib.hid L2
       clear L2 hc1 hd1
       go_wp2_with fail
       refine (side_lk HL2.out q x HQ.out).mono ?_
       rintro e w3 ⟨rfl, L3⟩
       rw [HSS.out]
       obtain ⟨hc3, hd3⟩ := L3.cell
       have HL3 := Lib.hid L3
       clear L3 hc2 hd2
       go_wp2_with fail
       refine (child_lk HL3.out q (1 - s) HQ.out HS1.out).mono ?_
       rintro e w4 ⟨rfl, L4⟩
       rw [HVV.out]
       obtain ⟨hc4, hd4⟩ := L4.cell
       have HL4 := Lib.hid L4
       clear L4 hc3 hd3
       go_wp2_with fail
       refine (red_lk HL4.out v HV.out).mono ?_
       rintro e w5 ⟨rfl, L5⟩
       rw [HRV.out]
       obtain ⟨hc5, hd5⟩ := L5.cell
       have HL5 := Lib.hid L5
       clear L5 hc4 hd4
       go_wp2_with fail
       refine (paint_lk HL5.out v false HV.out).mono ?_
       rintro e w6 ⟨rfl, L6⟩
       obtain ⟨hc6, hd6⟩ := L6.cell
       have HL6 := Lib.hid L6
       clear L6 hc5 hd5
       go_wp2_with fail
       refine (paint_lk HL6.out q true HQ.out).mono ?_
       rintro e w7 ⟨rfl, L7⟩
       obtain ⟨hc7, hd7⟩ := L7.cell
       have HL7 := Lib.hid L7
       clear L7 hc6 hd6
       go_wp2_with fail
       refine (turn_lk HL7.out q s HQ.out HS01.out).mono ?_
       rintro e w8 ⟨rfl, L8⟩
       obtain ⟨hc8, hd8⟩ := L8.cell
       have HL8 := Lib.hid L8
       clear L8 hc7 hd7
       have HL8b : Hid (Lk w w8 p d r b1 w.heap.size) := Lib.hid (by rw [← HB1.out]; exact HL8.out)
       clear HL8
       have HL8 := HL8b
       have HW : Hid (pl v1) := Lib.hid (by rw [← HWW.out]; exact HL8.out.rng _)
       clear HL8b
       have HC0 : Hid (pl (chB b1 v1 0)) := Lib.hid (HL8.out.rng _)
       have HC1 : Hid (pl (chB b1 v1 1)) := Lib.hid (HL8.out.rng _)
       have HN1 : Hid (pl (chB b1 v1 s)) := Lib.hid (HL8.out.rng _)
       have HF1 : Hid (pl (chB b1 v1 (1 - s))) := Lib.hid (HL8.out.rng _)
       go_wp2_with fail
       refine (child_lk HL8.out q (1 - s) HQ.out HS1.out).mono ?_
       rintro e w9 ⟨rfl, L9⟩
       rw [HWW.out]
       obtain ⟨hc9, hd9⟩ := L9.cell
       have HL9 := Lib.hid L9
       clear L9 hc8 hd8
       go_wp2_with fail
       refine region_settled (by kernel_rfl) [(45, .agg #[.pointer (some ⟨p, 0, none⟩), .int .i64 r]), (46, .agg #[.pointer (some ⟨p, 0, none⟩), .int .i64 r]), (47, .int .i64 v1), (48, .int .i64 (chB b1 v1 0)), (49, .bool false), (50, .bool true), (51, .bool true), (52, .agg #[.pointer (some ⟨p, 0, none⟩), .int .i64 r]), (53, .agg #[.pointer (some ⟨p, 0, none⟩), .int .i64 r]), (54, .int .i64 v1), (55, .int .i64 (chB b1 v1 1)), (56, .bool false), (57, .bool true), (58, .bool true)] (fun w' => Lk w w' p d r b1 w.heap.size) rfl (by simp) rfl (edges_all (by kernel_rfl)) HL9.out.drew (settled_all (And.intro (st_box (p := p) (X := w.heap.size) (r := r) rfl rfl (.inl rfl) rfl rfl (fun _ h => Lk.cell h))
        (And.intro (st_box (p := p) (X := w.heap.size) (r := r) rfl rfl (.inl rfl) rfl rfl (fun _ h => Lk.cell h))
        (And.intro (st_move rfl rfl rfl (.inl rfl) (.inr ⟨7, rfl, .inl ⟨rfl, rfl⟩⟩))
        (And.intro (st_call (f := 36) (vs := #[.agg #[.pointer (some ⟨p, 0, none⟩), .int .i64 r], .int .i64 v1, .int .i64 0]) rfl rfl rfl (.inl rfl) rfl (args3 (.inr ⟨46, rfl, .inr ⟨1, by kernel_rfl, rfl⟩⟩) (.inr ⟨47, rfl, .inr ⟨2, by kernel_rfl, rfl⟩⟩) (.inl rfl)) (enters_child _) (fun _ h => child_lk h v1 0 HW.out (.inl rfl)))
        (And.intro (st_call (f := 44) (vs := #[.agg #[.pointer (some ⟨p, 0, none⟩), .int .i64 r], .int .i64 (chB b1 v1 0)]) rfl rfl rfl (.inl rfl) rfl (args2 (.inr ⟨45, rfl, .inr ⟨0, by kernel_rfl, rfl⟩⟩) (.inr ⟨48, rfl, .inr ⟨3, by kernel_rfl, rfl⟩⟩)) (enters_red _) (fun w h => by have := red_lk h (chB b1 v1 0) HC0.out; rw [HR0.out] at this; exact this))
        (And.intro (st_not (b := false) rfl rfl rfl (.inl rfl) (.inr ⟨49, rfl, .inr ⟨4, by kernel_rfl, rfl⟩⟩))
        (And.intro (st_move rfl rfl rfl (.inl rfl) (.inr ⟨50, rfl, .inr ⟨5, by kernel_rfl, rfl⟩⟩))
        (And.intro (st_box (p := p) (X := w.heap.size) (r := r) rfl rfl (.inr ⟨6, true, _, 51, rfl, rfl, rfl, rfl, by kernel_rfl⟩) rfl rfl (fun _ h => Lk.cell h))
        (And.intro (st_box (p := p) (X := w.heap.size) (r := r) rfl rfl (.inr ⟨6, true, _, 51, rfl, rfl, rfl, rfl, by kernel_rfl⟩) rfl rfl (fun _ h => Lk.cell h))
        (And.intro (st_move rfl rfl rfl (.inr ⟨6, true, _, 51, rfl, rfl, rfl, rfl, by kernel_rfl⟩) (.inr ⟨7, rfl, .inl ⟨rfl, rfl⟩⟩))
        (And.intro (st_call (f := 36) (vs := #[.agg #[.pointer (some ⟨p, 0, none⟩), .int .i64 r], .int .i64 v1, .int .i64 1]) rfl rfl rfl (.inr ⟨6, true, _, 51, rfl, rfl, rfl, rfl, by kernel_rfl⟩) rfl (args3 (.inr ⟨53, rfl, .inr ⟨8, by kernel_rfl, rfl⟩⟩) (.inr ⟨54, rfl, .inr ⟨9, by kernel_rfl, rfl⟩⟩) (.inl rfl)) (enters_child _) (fun _ h => child_lk h v1 1 HW.out (.inr rfl)))
        (And.intro (st_call (f := 44) (vs := #[.agg #[.pointer (some ⟨p, 0, none⟩), .int .i64 r], .int .i64 (chB b1 v1 1)]) rfl rfl rfl (.inr ⟨6, true, _, 51, rfl, rfl, rfl, rfl, by kernel_rfl⟩) rfl (args2 (.inr ⟨52, rfl, .inr ⟨7, by kernel_rfl, rfl⟩⟩) (.inr ⟨55, rfl, .inr ⟨10, by kernel_rfl, rfl⟩⟩)) (enters_red _) (fun w h => by have := red_lk h (chB b1 v1 1) HC1.out; rw [HR1.out] at this; exact this))
        (And.intro (st_not (b := false) rfl rfl rfl (.inr ⟨6, true, _, 51, rfl, rfl, rfl, rfl, by kernel_rfl⟩) (.inr ⟨56, rfl, .inr ⟨11, by kernel_rfl, rfl⟩⟩))
        (And.intro (st_pick (b := true) rfl rfl rfl (.inl rfl) (.inr ⟨51, rfl, .inr ⟨6, by kernel_rfl, rfl⟩⟩) (.inr ⟨57, rfl, .inr ⟨12, by kernel_rfl, rfl⟩⟩))
        trivial))))))))))))))) ?_
       intro w10 L10
       simp only [puts, List.foldl_cons, List.foldl_nil, Act.put, List.setIfInBounds_toArray, List.set_cons_zero, List.set_cons_succ]
       obtain ⟨hc10, hd10⟩ := L10.cell
       have HL10 := Lib.hid L10
       clear L10 hc9 hd9
       go_wp2_with fail
       refine (paint_lk HL10.out v1 true HW.out).mono ?_
       rintro e w11 ⟨rfl, L11⟩
       obtain ⟨hc11, hd11⟩ := L11.cell
       have HL11 := Lib.hid L11
       clear L11 hc10 hd10
       go_wp2_with fail
       refine (up_lk HL11.out q HQ.out).mono ?_
       rintro e w12 ⟨rfl, L12⟩
       obtain ⟨hc12, hd12⟩ := L12.cell
       have HL12 := Lib.hid L12
       clear L12 hc11 hd11
       have HP : Hid (pl (upB (paintB b1 v1 true) q)) := Lib.hid (HL12.out.rng _)
       go_wp2
       go_roundg F
       case measure => omega
       case rel => exact ⟨_, q, _, rfl, rfl, HREC.out, HL12.out, HQ.out, HP.out⟩
      ·have HR1 := Lib.hid hr1
       have hnn : ¬ (redB b1 (chB b1 v1 0) = false ∧ redB b1 (chB b1 v1 1) = false) := by rw [hr1]; simp
       clear hr0 hr1
       cases hrf : redB b1 (chB b1 v1 (1 - s))
       ·have HRF := Lib.hid hrf
        obtain ⟨b2, hb2⟩ : ∃ b, remB r b1 s v1 = b := ⟨_, rfl⟩
        obtain ⟨v2, hv2⟩ : ∃ a, chB b2 q (1 - s) = a := ⟨_, rfl⟩
        have e2 : remS2 r s q b1 v1 = (remC r b2 q s v2, gt (remC r b2 q s v2) r, q) := by unfold remS2; rw [if_neg hnn, if_neg (by rw [hrf]; decide), hb2, hv2]
        rw [e2] at hrec2
        have HREC := Lib.hid hrec2
        have HB2 := Lib.hid hb2
        have HVV2 := Lib.hid hv2
        clear hrec2 e2 hrf hnn hb2 hv2
        go_wp2_with fail
        refine (top_lk HL0.out).mono ?_
        rintro e w1 ⟨rfl, L1⟩
        rw [HTT.out]
        obtain ⟨hc1, hd1⟩ := L1.cell
        have HL1 := Lib.hid L1
        clear L1 hc0 hd0
        go_wp2_with fail
        refine (red_lk HL1.out x HX.out).mono ?_
        rintro e w2 ⟨rfl, L2⟩
        rw [HRX.out]
        obtain ⟨hc2, hd2⟩ := L2.cell
        have HL2 := Lib.hid L2
        clear L2 hc1 hd1
        go_wp2_with fail
        refine (side_lk HL2.out q x HQ.out).mono ?_
        rintro e w3 ⟨rfl, L3⟩
        rw [HSS.out]
        obtain ⟨hc3, hd3⟩ := L3.cell
        have HL3 := Lib.hid L3
        clear L3 hc2 hd2
        go_wp2_with fail
        refine (child_lk HL3.out q (1 - s) HQ.out HS1.out).mono ?_
        rintro e w4 ⟨rfl, L4⟩
        rw [HVV.out]
        obtain ⟨hc4, hd4⟩ := L4.cell
        have HL4 := Lib.hid L4
        clear L4 hc3 hd3
        go_wp2_with fail
        refine (red_lk HL4.out v HV.out).mono ?_
        rintro e w5 ⟨rfl, L5⟩
        rw [HRV.out]
        obtain ⟨hc5, hd5⟩ := L5.cell
        have HL5 := Lib.hid L5
        clear L5 hc4 hd4
        go_wp2_with fail
        refine (paint_lk HL5.out v false HV.out).mono ?_
        rintro e w6 ⟨rfl, L6⟩
        obtain ⟨hc6, hd6⟩ := L6.cell
        have HL6 := Lib.hid L6
        clear L6 hc5 hd5
        go_wp2_with fail
        refine (paint_lk HL6.out q true HQ.out).mono ?_
        rintro e w7 ⟨rfl, L7⟩
        obtain ⟨hc7, hd7⟩ := L7.cell
        have HL7 := Lib.hid L7
        clear L7 hc6 hd6
        go_wp2_with fail
        refine (turn_lk HL7.out q s HQ.out HS01.out).mono ?_
        rintro e w8 ⟨rfl, L8⟩
        obtain ⟨hc8, hd8⟩ := L8.cell
        have HL8 := Lib.hid L8
        clear L8 hc7 hd7
        have HL8b : Hid (Lk w w8 p d r b1 w.heap.size) := Lib.hid (by rw [← HB1.out]; exact HL8.out)
        clear HL8
        have HL8 := HL8b
        have HW : Hid (pl v1) := Lib.hid (by rw [← HWW.out]; exact HL8.out.rng _)
        clear HL8b
        have HC0 : Hid (pl (chB b1 v1 0)) := Lib.hid (HL8.out.rng _)
        have HC1 : Hid (pl (chB b1 v1 1)) := Lib.hid (HL8.out.rng _)
        have HN1 : Hid (pl (chB b1 v1 s)) := Lib.hid (HL8.out.rng _)
        have HF1 : Hid (pl (chB b1 v1 (1 - s))) := Lib.hid (HL8.out.rng _)
        go_wp2_with fail
        refine (child_lk HL8.out q (1 - s) HQ.out HS1.out).mono ?_
        rintro e w9 ⟨rfl, L9⟩
        rw [HWW.out]
        obtain ⟨hc9, hd9⟩ := L9.cell
        have HL9 := Lib.hid L9
        clear L9 hc8 hd8
        go_wp2_with fail
        refine region_settled (by kernel_rfl) [(45, .agg #[.pointer (some ⟨p, 0, none⟩), .int .i64 r]), (46, .agg #[.pointer (some ⟨p, 0, none⟩), .int .i64 r]), (47, .int .i64 v1), (48, .int .i64 (chB b1 v1 0)), (49, .bool false), (50, .bool true), (51, .bool true), (52, .agg #[.pointer (some ⟨p, 0, none⟩), .int .i64 r]), (53, .agg #[.pointer (some ⟨p, 0, none⟩), .int .i64 r]), (54, .int .i64 v1), (55, .int .i64 (chB b1 v1 1)), (56, .bool true), (57, .bool false), (58, .bool false)] (fun w' => Lk w w' p d r b1 w.heap.size) rfl (by simp) rfl (edges_all (by kernel_rfl)) HL9.out.drew (settled_all (And.intro (st_box (p := p) (X := w.heap.size) (r := r) rfl rfl (.inl rfl) rfl rfl (fun _ h => Lk.cell h))
         (And.intro (st_box (p := p) (X := w.heap.size) (r := r) rfl rfl (.inl rfl) rfl rfl (fun _ h => Lk.cell h))
         (And.intro (st_move rfl rfl rfl (.inl rfl) (.inr ⟨7, rfl, .inl ⟨rfl, rfl⟩⟩))
         (And.intro (st_call (f := 36) (vs := #[.agg #[.pointer (some ⟨p, 0, none⟩), .int .i64 r], .int .i64 v1, .int .i64 0]) rfl rfl rfl (.inl rfl) rfl (args3 (.inr ⟨46, rfl, .inr ⟨1, by kernel_rfl, rfl⟩⟩) (.inr ⟨47, rfl, .inr ⟨2, by kernel_rfl, rfl⟩⟩) (.inl rfl)) (enters_child _) (fun _ h => child_lk h v1 0 HW.out (.inl rfl)))
         (And.intro (st_call (f := 44) (vs := #[.agg #[.pointer (some ⟨p, 0, none⟩), .int .i64 r], .int .i64 (chB b1 v1 0)]) rfl rfl rfl (.inl rfl) rfl (args2 (.inr ⟨45, rfl, .inr ⟨0, by kernel_rfl, rfl⟩⟩) (.inr ⟨48, rfl, .inr ⟨3, by kernel_rfl, rfl⟩⟩)) (enters_red _) (fun w h => by have := red_lk h (chB b1 v1 0) HC0.out; rw [HR0.out] at this; exact this))
         (And.intro (st_not (b := false) rfl rfl rfl (.inl rfl) (.inr ⟨49, rfl, .inr ⟨4, by kernel_rfl, rfl⟩⟩))
         (And.intro (st_move rfl rfl rfl (.inl rfl) (.inr ⟨50, rfl, .inr ⟨5, by kernel_rfl, rfl⟩⟩))
         (And.intro (st_box (p := p) (X := w.heap.size) (r := r) rfl rfl (.inr ⟨6, true, _, 51, rfl, rfl, rfl, rfl, by kernel_rfl⟩) rfl rfl (fun _ h => Lk.cell h))
         (And.intro (st_box (p := p) (X := w.heap.size) (r := r) rfl rfl (.inr ⟨6, true, _, 51, rfl, rfl, rfl, rfl, by kernel_rfl⟩) rfl rfl (fun _ h => Lk.cell h))
         (And.intro (st_move rfl rfl rfl (.inr ⟨6, true, _, 51, rfl, rfl, rfl, rfl, by kernel_rfl⟩) (.inr ⟨7, rfl, .inl ⟨rfl, rfl⟩⟩))
         (And.intro (st_call (f := 36) (vs := #[.agg #[.pointer (some ⟨p, 0, none⟩), .int .i64 r], .int .i64 v1, .int .i64 1]) rfl rfl rfl (.inr ⟨6, true, _, 51, rfl, rfl, rfl, rfl, by kernel_rfl⟩) rfl (args3 (.inr ⟨53, rfl, .inr ⟨8, by kernel_rfl, rfl⟩⟩) (.inr ⟨54, rfl, .inr ⟨9, by kernel_rfl, rfl⟩⟩) (.inl rfl)) (enters_child _) (fun _ h => child_lk h v1 1 HW.out (.inr rfl)))
         (And.intro (st_call (f := 44) (vs := #[.agg #[.pointer (some ⟨p, 0, none⟩), .int .i64 r], .int .i64 (chB b1 v1 1)]) rfl rfl rfl (.inr ⟨6, true, _, 51, rfl, rfl, rfl, rfl, by kernel_rfl⟩) rfl (args2 (.inr ⟨52, rfl, .inr ⟨7, by kernel_rfl, rfl⟩⟩) (.inr ⟨55, rfl, .inr ⟨10, by kernel_rfl, rfl⟩⟩)) (enters_red _) (fun w h => by have := red_lk h (chB b1 v1 1) HC1.out; rw [HR1.out] at this; exact this))
         (And.intro (st_not (b := true) rfl rfl rfl (.inr ⟨6, true, _, 51, rfl, rfl, rfl, rfl, by kernel_rfl⟩) (.inr ⟨56, rfl, .inr ⟨11, by kernel_rfl, rfl⟩⟩))
         (And.intro (st_pick (b := true) rfl rfl rfl (.inl rfl) (.inr ⟨51, rfl, .inr ⟨6, by kernel_rfl, rfl⟩⟩) (.inr ⟨57, rfl, .inr ⟨12, by kernel_rfl, rfl⟩⟩))
         trivial))))))))))))))) ?_
        intro w10 L10
        simp only [puts, List.foldl_cons, List.foldl_nil, Act.put, List.setIfInBounds_toArray, List.set_cons_zero, List.set_cons_succ]
        obtain ⟨hc10, hd10⟩ := L10.cell
        have HL10 := Lib.hid L10
        clear L10 hc9 hd9
        have HD10 := Lib.hid HL10.out.drew
        go_wp2_with fail
        go_region_held3 (fun w' => w'.cell? ⟨w.heap.size, 0, none⟩ = some (.pointer (some ⟨p, 0, none⟩)) ∧ w'.cell? ⟨w.heap.size, 1, none⟩ = some (.int .i64 r)) (first | exact HD10.out.cell | exact HL11.out.cell | exact HL12.out.cell) (first | (go_simp; go_at_call 36; refine (child_lk HD10.out v1 (1 - s) HW.out HS1.out).mono ?_; rintro e w11 ⟨rfl, L11⟩; have HL11 := Lib.hid L11; clear L11) | (go_simp; go_at_call 44; refine (red_lk HL11.out (chB b1 v1 (1 - s)) HF1.out).mono ?_; rintro e w12 ⟨rfl, L12⟩; rw [HRF.out]; have HL12 := Lib.hid L12; clear L12))
        obtain ⟨hc12, hd12⟩ := HL12.out.cell
        clear HD10 hc10 hd10
        have HD12 := Lib.hid HL12.out.drew
        go_wp2_with fail
        go_region_held3 (fun w' => w'.cell? ⟨w.heap.size, 0, none⟩ = some (.pointer (some ⟨p, 0, none⟩)) ∧ w'.cell? ⟨w.heap.size, 1, none⟩ = some (.int .i64 r)) (first | exact HD12.out.cell | exact HL13.out.cell | exact HL14.out.cell) (first | (go_simp; go_at_call 36; refine (child_lk HD12.out v1 s HW.out HS01.out).mono ?_; rintro e w13 ⟨rfl, L13⟩; have HL13 := Lib.hid L13; clear L13) | (go_simp; go_at_call 39; refine (paint_lk HL13.out (chB b1 v1 s) false HN1.out).mono ?_; rintro e w14 ⟨rfl, L14⟩; have HL14 := Lib.hid L14; clear L14))
        obtain ⟨hc14, hd14⟩ := HL14.out.cell
        clear HD12 hc12 hd12
        go_wp2_with fail
        refine (paint_lk HL14.out v1 true HW.out).mono ?_
        rintro e w15 ⟨rfl, L15⟩
        obtain ⟨hc15, hd15⟩ := L15.cell
        have HL15 := Lib.hid L15
        clear L15 hc14 hd14
        go_wp2_with fail
        refine (turn_lk HL15.out v1 (1 - s) HW.out HS1.out).mono ?_
        rintro e w16 ⟨rfl, L16⟩
        obtain ⟨hc16, hd16⟩ := L16.cell
        have HL16 := Lib.hid L16
        clear L16 hc15 hd15
        have HL16b : Hid (Lk w w16 p d r b2 w.heap.size) := Lib.hid (by rw [← HB2.out]; exact HL16.out)
        clear HL16
        have HL16 := HL16b
        have HV2 : Hid (pl v2) := Lib.hid (by rw [← HVV2.out]; exact HL16.out.rng _)
        clear HL16b
        go_wp2_with fail
        refine (child_lk HL16.out q (1 - s) HQ.out HS1.out).mono ?_
        rintro e w17 ⟨rfl, L17⟩
        rw [HVV2.out]
        obtain ⟨hc17, hd17⟩ := L17.cell
        have HL17 := Lib.hid L17
        clear L17 hc16 hd16
        have HD17 := Lib.hid HL17.out.drew
        go_wp2_with fail
        go_region_held3 (fun w' => w'.cell? ⟨w.heap.size, 0, none⟩ = some (.pointer (some ⟨p, 0, none⟩)) ∧ w'.cell? ⟨w.heap.size, 1, none⟩ = some (.int .i64 r)) (first | exact HD17.out.cell | exact HL18.out.cell | exact HL19.out.cell) (first | (go_simp; go_at_call 44; refine (red_lk HD17.out q HQ.out).mono ?_; rintro e w18 ⟨rfl, L18⟩; have HL18 := Lib.hid L18; clear L18) | (go_simp; go_at_call 39; refine (paint_lk HL18.out v2 (redB b2 q) HV2.out).mono ?_; rintro e w19 ⟨rfl, L19⟩; have HL19 := Lib.hid L19; clear L19))
        obtain ⟨hc19, hd19⟩ := HL19.out.cell
        clear HD17 hc17 hd17
        go_wp2_with fail
        refine (paint_lk HL19.out q false HQ.out).mono ?_
        rintro e w20 ⟨rfl, L20⟩
        obtain ⟨hc20, hd20⟩ := L20.cell
        have HL20 := Lib.hid L20
        clear L20 hc19 hd19
        have HL20b : Hid (Lk w w20 p d r (remC1 b2 q v2) w.heap.size) := HL20
        clear HL20
        have HL20 := HL20b
        have HZ : Hid (pl (chB (remC1 b2 q v2) v2 (1 - s))) := Lib.hid (HL20.out.rng _)
        clear HL20b
        have HD20 := Lib.hid HL20.out.drew
        go_wp2_with fail
        go_region_held3 (fun w' => w'.cell? ⟨w.heap.size, 0, none⟩ = some (.pointer (some ⟨p, 0, none⟩)) ∧ w'.cell? ⟨w.heap.size, 1, none⟩ = some (.int .i64 r)) (first | exact HD20.out.cell | exact HL21.out.cell | exact HL22.out.cell) (first | (go_simp; go_at_call 36; refine (child_lk HD20.out v2 (1 - s) HV2.out HS1.out).mono ?_; rintro e w21 ⟨rfl, L21⟩; have HL21 := Lib.hid L21; clear L21) | (go_simp; go_at_call 39; refine (paint_lk HL21.out (chB (remC1 b2 q v2) v2 (1 - s)) false HZ.out).mono ?_; rintro e w22 ⟨rfl, L22⟩; have HL22 := Lib.hid L22; clear L22))
        obtain ⟨hc22, hd22⟩ := HL22.out.cell
        clear HD20 hc20 hd20
        go_wp2_with fail
        refine (turn_lk HL22.out q s HQ.out HS01.out).mono ?_
        rintro e w23 ⟨rfl, L23⟩
        obtain ⟨hc23, hd23⟩ := L23.cell
        have HL23 := Lib.hid L23
        clear L23 hc22 hd22
        have HL23b : Hid (Lk w w23 p d r (remC r b2 q s v2) w.heap.size) := HL23
        clear HL23
        have HL23 := HL23b
        have HP : Hid (pl (gt (remC r b2 q s v2) r)) := Lib.hid (HL23.out.rng _)
        clear HL23b
        go_wp2_with fail
        refine (top_lk HL23.out).mono ?_
        rintro e w24 ⟨rfl, L24⟩
        obtain ⟨hc24, hd24⟩ := L24.cell
        have HL24 := Lib.hid L24
        clear L24 hc23 hd23
        go_wp2
        go_roundg F
        case measure => omega
        case rel => exact ⟨_, _, q, rfl, rfl, HREC.out, HL24.out, HP.out, HQ.out⟩
       ·have HRF := Lib.hid hrf
        have e2 : remS2 r s q b1 v1 = (remC r b1 q s v1, gt (remC r b1 q s v1) r, q) := by unfold remS2; rw [if_neg hnn, if_pos hrf]
        rw [e2] at hrec2
        have HREC := Lib.hid hrec2
        clear hrec2 e2 hrf hnn
        go_wp2_with fail
        refine (top_lk HL0.out).mono ?_
        rintro e w1 ⟨rfl, L1⟩
        rw [HTT.out]
        obtain ⟨hc1, hd1⟩ := L1.cell
        have HL1 := Lib.hid L1
        clear L1 hc0 hd0
        go_wp2_with fail
        refine (red_lk HL1.out x HX.out).mono ?_
        rintro e w2 ⟨rfl, L2⟩
        rw [HRX.out]
        obtain ⟨hc2, hd2⟩ := L2.cell
        have HL2 := Lib.hid L2
        clear L2 hc1 hd1
        go_wp2_with fail
        refine (side_lk HL2.out q x HQ.out).mono ?_
        rintro e w3 ⟨rfl, L3⟩
        rw [HSS.out]
        obtain ⟨hc3, hd3⟩ := L3.cell
        have HL3 := Lib.hid L3
        clear L3 hc2 hd2
        go_wp2_with fail
        refine (child_lk HL3.out q (1 - s) HQ.out HS1.out).mono ?_
        rintro e w4 ⟨rfl, L4⟩
        rw [HVV.out]
        obtain ⟨hc4, hd4⟩ := L4.cell
        have HL4 := Lib.hid L4
        clear L4 hc3 hd3
        go_wp2_with fail
        refine (red_lk HL4.out v HV.out).mono ?_
        rintro e w5 ⟨rfl, L5⟩
        rw [HRV.out]
        obtain ⟨hc5, hd5⟩ := L5.cell
        have HL5 := Lib.hid L5
        clear L5 hc4 hd4
        go_wp2_with fail
        refine (paint_lk HL5.out v false HV.out).mono ?_
        rintro e w6 ⟨rfl, L6⟩
        obtain ⟨hc6, hd6⟩ := L6.cell
        have HL6 := Lib.hid L6
        clear L6 hc5 hd5
        go_wp2_with fail
        refine (paint_lk HL6.out q true HQ.out).mono ?_
        rintro e w7 ⟨rfl, L7⟩
        obtain ⟨hc7, hd7⟩ := L7.cell
        have HL7 := Lib.hid L7
        clear L7 hc6 hd6
        go_wp2_with fail
        refine (turn_lk HL7.out q s HQ.out HS01.out).mono ?_
        rintro e w8 ⟨rfl, L8⟩
        obtain ⟨hc8, hd8⟩ := L8.cell
        have HL8 := Lib.hid L8
        clear L8 hc7 hd7
        have HL8b : Hid (Lk w w8 p d r b1 w.heap.size) := Lib.hid (by rw [← HB1.out]; exact HL8.out)
        clear HL8
        have HL8 := HL8b
        have HW : Hid (pl v1) := Lib.hid (by rw [← HWW.out]; exact HL8.out.rng _)
        clear HL8b
        have HC0 : Hid (pl (chB b1 v1 0)) := Lib.hid (HL8.out.rng _)
        have HC1 : Hid (pl (chB b1 v1 1)) := Lib.hid (HL8.out.rng _)
        have HN1 : Hid (pl (chB b1 v1 s)) := Lib.hid (HL8.out.rng _)
        have HF1 : Hid (pl (chB b1 v1 (1 - s))) := Lib.hid (HL8.out.rng _)
        go_wp2_with fail
        refine (child_lk HL8.out q (1 - s) HQ.out HS1.out).mono ?_
        rintro e w9 ⟨rfl, L9⟩
        rw [HWW.out]
        obtain ⟨hc9, hd9⟩ := L9.cell
        have HL9 := Lib.hid L9
        clear L9 hc8 hd8
        go_wp2_with fail
        refine region_settled (by kernel_rfl) [(45, .agg #[.pointer (some ⟨p, 0, none⟩), .int .i64 r]), (46, .agg #[.pointer (some ⟨p, 0, none⟩), .int .i64 r]), (47, .int .i64 v1), (48, .int .i64 (chB b1 v1 0)), (49, .bool false), (50, .bool true), (51, .bool true), (52, .agg #[.pointer (some ⟨p, 0, none⟩), .int .i64 r]), (53, .agg #[.pointer (some ⟨p, 0, none⟩), .int .i64 r]), (54, .int .i64 v1), (55, .int .i64 (chB b1 v1 1)), (56, .bool true), (57, .bool false), (58, .bool false)] (fun w' => Lk w w' p d r b1 w.heap.size) rfl (by simp) rfl (edges_all (by kernel_rfl)) HL9.out.drew (settled_all (And.intro (st_box (p := p) (X := w.heap.size) (r := r) rfl rfl (.inl rfl) rfl rfl (fun _ h => Lk.cell h))
         (And.intro (st_box (p := p) (X := w.heap.size) (r := r) rfl rfl (.inl rfl) rfl rfl (fun _ h => Lk.cell h))
         (And.intro (st_move rfl rfl rfl (.inl rfl) (.inr ⟨7, rfl, .inl ⟨rfl, rfl⟩⟩))
         (And.intro (st_call (f := 36) (vs := #[.agg #[.pointer (some ⟨p, 0, none⟩), .int .i64 r], .int .i64 v1, .int .i64 0]) rfl rfl rfl (.inl rfl) rfl (args3 (.inr ⟨46, rfl, .inr ⟨1, by kernel_rfl, rfl⟩⟩) (.inr ⟨47, rfl, .inr ⟨2, by kernel_rfl, rfl⟩⟩) (.inl rfl)) (enters_child _) (fun _ h => child_lk h v1 0 HW.out (.inl rfl)))
         (And.intro (st_call (f := 44) (vs := #[.agg #[.pointer (some ⟨p, 0, none⟩), .int .i64 r], .int .i64 (chB b1 v1 0)]) rfl rfl rfl (.inl rfl) rfl (args2 (.inr ⟨45, rfl, .inr ⟨0, by kernel_rfl, rfl⟩⟩) (.inr ⟨48, rfl, .inr ⟨3, by kernel_rfl, rfl⟩⟩)) (enters_red _) (fun w h => by have := red_lk h (chB b1 v1 0) HC0.out; rw [HR0.out] at this; exact this))
         (And.intro (st_not (b := false) rfl rfl rfl (.inl rfl) (.inr ⟨49, rfl, .inr ⟨4, by kernel_rfl, rfl⟩⟩))
         (And.intro (st_move rfl rfl rfl (.inl rfl) (.inr ⟨50, rfl, .inr ⟨5, by kernel_rfl, rfl⟩⟩))
         (And.intro (st_box (p := p) (X := w.heap.size) (r := r) rfl rfl (.inr ⟨6, true, _, 51, rfl, rfl, rfl, rfl, by kernel_rfl⟩) rfl rfl (fun _ h => Lk.cell h))
         (And.intro (st_box (p := p) (X := w.heap.size) (r := r) rfl rfl (.inr ⟨6, true, _, 51, rfl, rfl, rfl, rfl, by kernel_rfl⟩) rfl rfl (fun _ h => Lk.cell h))
         (And.intro (st_move rfl rfl rfl (.inr ⟨6, true, _, 51, rfl, rfl, rfl, rfl, by kernel_rfl⟩) (.inr ⟨7, rfl, .inl ⟨rfl, rfl⟩⟩))
         (And.intro (st_call (f := 36) (vs := #[.agg #[.pointer (some ⟨p, 0, none⟩), .int .i64 r], .int .i64 v1, .int .i64 1]) rfl rfl rfl (.inr ⟨6, true, _, 51, rfl, rfl, rfl, rfl, by kernel_rfl⟩) rfl (args3 (.inr ⟨53, rfl, .inr ⟨8, by kernel_rfl, rfl⟩⟩) (.inr ⟨54, rfl, .inr ⟨9, by kernel_rfl, rfl⟩⟩) (.inl rfl)) (enters_child _) (fun _ h => child_lk h v1 1 HW.out (.inr rfl)))
         (And.intro (st_call (f := 44) (vs := #[.agg #[.pointer (some ⟨p, 0, none⟩), .int .i64 r], .int .i64 (chB b1 v1 1)]) rfl rfl rfl (.inr ⟨6, true, _, 51, rfl, rfl, rfl, rfl, by kernel_rfl⟩) rfl (args2 (.inr ⟨52, rfl, .inr ⟨7, by kernel_rfl, rfl⟩⟩) (.inr ⟨55, rfl, .inr ⟨10, by kernel_rfl, rfl⟩⟩)) (enters_red _) (fun w h => by have := red_lk h (chB b1 v1 1) HC1.out; rw [HR1.out] at this; exact this))
         (And.intro (st_not (b := true) rfl rfl rfl (.inr ⟨6, true, _, 51, rfl, rfl, rfl, rfl, by kernel_rfl⟩) (.inr ⟨56, rfl, .inr ⟨11, by kernel_rfl, rfl⟩⟩))
         (And.intro (st_pick (b := true) rfl rfl rfl (.inl rfl) (.inr ⟨51, rfl, .inr ⟨6, by kernel_rfl, rfl⟩⟩) (.inr ⟨57, rfl, .inr ⟨12, by kernel_rfl, rfl⟩⟩))
         trivial))))))))))))))) ?_
        intro w10 L10
        simp only [puts, List.foldl_cons, List.foldl_nil, Act.put, List.setIfInBounds_toArray, List.set_cons_zero, List.set_cons_succ]
        obtain ⟨hc10, hd10⟩ := L10.cell
        have HL10 := Lib.hid L10
        clear L10 hc9 hd9
        have HD10 := Lib.hid HL10.out.drew
        go_wp2_with fail
        go_region_held3 (fun w' => w'.cell? ⟨w.heap.size, 0, none⟩ = some (.pointer (some ⟨p, 0, none⟩)) ∧ w'.cell? ⟨w.heap.size, 1, none⟩ = some (.int .i64 r)) (first | exact HD10.out.cell | exact HL11.out.cell | exact HL12.out.cell) (first | (go_simp; go_at_call 36; refine (child_lk HD10.out v1 (1 - s) HW.out HS1.out).mono ?_; rintro e w11 ⟨rfl, L11⟩; have HL11 := Lib.hid L11; clear L11) | (go_simp; go_at_call 44; refine (red_lk HL11.out (chB b1 v1 (1 - s)) HF1.out).mono ?_; rintro e w12 ⟨rfl, L12⟩; rw [HRF.out]; have HL12 := Lib.hid L12; clear L12))
        obtain ⟨hc12, hd12⟩ := HL12.out.cell
        clear HD10 hc10 hd10
        have HD12 := Lib.hid HL12.out.drew
        go_wp2_with fail
        go_region_held3 (fun w' => w'.cell? ⟨w.heap.size, 0, none⟩ = some (.pointer (some ⟨p, 0, none⟩)) ∧ w'.cell? ⟨w.heap.size, 1, none⟩ = some (.int .i64 r)) (first | exact HD12.out.cell | exact HL13.out.cell | exact HL14.out.cell) (first | (go_simp; go_at_call 44; refine (red_lk HD12.out q HQ.out).mono ?_; rintro e w13 ⟨rfl, L13⟩; have HL13 := Lib.hid L13; clear L13) | (go_simp; go_at_call 39; refine (paint_lk HL13.out v1 (redB b1 q) HW.out).mono ?_; rintro e w14 ⟨rfl, L14⟩; have HL14 := Lib.hid L14; clear L14))
        obtain ⟨hc14, hd14⟩ := HL14.out.cell
        clear HD12 hc12 hd12
        go_wp2_with fail
        refine (paint_lk HL14.out q false HQ.out).mono ?_
        rintro e w15 ⟨rfl, L15⟩
        obtain ⟨hc15, hd15⟩ := L15.cell
        have HL15 := Lib.hid L15
        clear L15 hc14 hd14
        have HL15b : Hid (Lk w w15 p d r (remC1 b1 q v1) w.heap.size) := HL15
        clear HL15
        have HL15 := HL15b
        have HZ : Hid (pl (chB (remC1 b1 q v1) v1 (1 - s))) := Lib.hid (HL15.out.rng _)
        clear HL15b
        have HD15 := Lib.hid HL15.out.drew
        go_wp2_with fail
        go_region_held3 (fun w' => w'.cell? ⟨w.heap.size, 0, none⟩ = some (.pointer (some ⟨p, 0, none⟩)) ∧ w'.cell? ⟨w.heap.size, 1, none⟩ = some (.int .i64 r)) (first | exact HD15.out.cell | exact HL16.out.cell | exact HL17.out.cell) (first | (go_simp; go_at_call 36; refine (child_lk HD15.out v1 (1 - s) HW.out HS1.out).mono ?_; rintro e w16 ⟨rfl, L16⟩; have HL16 := Lib.hid L16; clear L16) | (go_simp; go_at_call 39; refine (paint_lk HL16.out (chB (remC1 b1 q v1) v1 (1 - s)) false HZ.out).mono ?_; rintro e w17 ⟨rfl, L17⟩; have HL17 := Lib.hid L17; clear L17))
        obtain ⟨hc17, hd17⟩ := HL17.out.cell
        clear HD15 hc15 hd15
        go_wp2_with fail
        refine (turn_lk HL17.out q s HQ.out HS01.out).mono ?_
        rintro e w18 ⟨rfl, L18⟩
        obtain ⟨hc18, hd18⟩ := L18.cell
        have HL18 := Lib.hid L18
        clear L18 hc17 hd17
        have HL18b : Hid (Lk w w18 p d r (remC r b1 q s v1) w.heap.size) := HL18
        clear HL18
        have HL18 := HL18b
        have HP : Hid (pl (gt (remC r b1 q s v1) r)) := Lib.hid (HL18.out.rng _)
        clear HL18b
        go_wp2_with fail
        refine (top_lk HL18.out).mono ?_
        rintro e w19 ⟨rfl, L19⟩
        obtain ⟨hc19, hd19⟩ := L19.cell
        have HL19 := Lib.hid L19
        clear L19 hc18 hd18
        go_wp2
        go_roundg F
        case measure => omega
        case rel => exact ⟨_, _, q, rfl, rfl, HREC.out, HL19.out, HP.out, HQ.out⟩
     ·have HR0 := Lib.hid hr0
      have hnn : ¬ (redB b1 (chB b1 v1 0) = false ∧ redB b1 (chB b1 v1 1) = false) := by rw [hr0]; simp
      clear hr0
      cases hrf : redB b1 (chB b1 v1 (1 - s))
      ·have HRF := Lib.hid hrf
       obtain ⟨b2, hb2⟩ : ∃ b, remB r b1 s v1 = b := ⟨_, rfl⟩
       obtain ⟨v2, hv2⟩ : ∃ a, chB b2 q (1 - s) = a := ⟨_, rfl⟩
       have e2 : remS2 r s q b1 v1 = (remC r b2 q s v2, gt (remC r b2 q s v2) r, q) := by unfold remS2; rw [if_neg hnn, if_neg (by rw [hrf]; decide), hb2, hv2]
       rw [e2] at hrec2
       have HREC := Lib.hid hrec2
       have HB2 := Lib.hid hb2
       have HVV2 := Lib.hid hv2
       clear hrec2 e2 hrf hnn hb2 hv2
       go_wp2_with fail
       refine (top_lk HL0.out).mono ?_
       rintro e w1 ⟨rfl, L1⟩
       rw [HTT.out]
       obtain ⟨hc1, hd1⟩ := L1.cell
       have HL1 := Lib.hid L1
       clear L1 hc0 hd0
       go_wp2_with fail
       refine (red_lk HL1.out x HX.out).mono ?_
       rintro e w2 ⟨rfl, L2⟩
       rw [HRX.out]
       obtain ⟨hc2, hd2⟩ := L2.cell
       have HL2 := Lib.hid L2
       clear L2 hc1 hd1
       go_wp2_with fail
       refine (side_lk HL2.out q x HQ.out).mono ?_
       rintro e w3 ⟨rfl, L3⟩
       rw [HSS.out]
       obtain ⟨hc3, hd3⟩ := L3.cell
       have HL3 := Lib.hid L3
       clear L3 hc2 hd2
       go_wp2_with fail
       refine (child_lk HL3.out q (1 - s) HQ.out HS1.out).mono ?_
       rintro e w4 ⟨rfl, L4⟩
       rw [HVV.out]
       obtain ⟨hc4, hd4⟩ := L4.cell
       have HL4 := Lib.hid L4
       clear L4 hc3 hd3
       go_wp2_with fail
       refine (red_lk HL4.out v HV.out).mono ?_
       rintro e w5 ⟨rfl, L5⟩
       rw [HRV.out]
       obtain ⟨hc5, hd5⟩ := L5.cell
       have HL5 := Lib.hid L5
       clear L5 hc4 hd4
       go_wp2_with fail
       refine (paint_lk HL5.out v false HV.out).mono ?_
       rintro e w6 ⟨rfl, L6⟩
       obtain ⟨hc6, hd6⟩ := L6.cell
       have HL6 := Lib.hid L6
       clear L6 hc5 hd5
       go_wp2_with fail
       refine (paint_lk HL6.out q true HQ.out).mono ?_
       rintro e w7 ⟨rfl, L7⟩
       obtain ⟨hc7, hd7⟩ := L7.cell
       have HL7 := Lib.hid L7
       clear L7 hc6 hd6
       go_wp2_with fail
       refine (turn_lk HL7.out q s HQ.out HS01.out).mono ?_
       rintro e w8 ⟨rfl, L8⟩
       obtain ⟨hc8, hd8⟩ := L8.cell
       have HL8 := Lib.hid L8
       clear L8 hc7 hd7
       have HL8b : Hid (Lk w w8 p d r b1 w.heap.size) := Lib.hid (by rw [← HB1.out]; exact HL8.out)
       clear HL8
       have HL8 := HL8b
       have HW : Hid (pl v1) := Lib.hid (by rw [← HWW.out]; exact HL8.out.rng _)
       clear HL8b
       have HC0 : Hid (pl (chB b1 v1 0)) := Lib.hid (HL8.out.rng _)
       have HC1 : Hid (pl (chB b1 v1 1)) := Lib.hid (HL8.out.rng _)
       have HN1 : Hid (pl (chB b1 v1 s)) := Lib.hid (HL8.out.rng _)
       have HF1 : Hid (pl (chB b1 v1 (1 - s))) := Lib.hid (HL8.out.rng _)
       go_wp2_with fail
       refine (child_lk HL8.out q (1 - s) HQ.out HS1.out).mono ?_
       rintro e w9 ⟨rfl, L9⟩
       rw [HWW.out]
       obtain ⟨hc9, hd9⟩ := L9.cell
       have HL9 := Lib.hid L9
       clear L9 hc8 hd8
       go_wp2_with fail
       refine region_settled (by kernel_rfl) [(45, .agg #[.pointer (some ⟨p, 0, none⟩), .int .i64 r]), (46, .agg #[.pointer (some ⟨p, 0, none⟩), .int .i64 r]), (47, .int .i64 v1), (48, .int .i64 (chB b1 v1 0)), (49, .bool true), (50, .bool false), (51, .bool false), (52, undef), (53, undef), (54, undef), (55, undef), (56, undef), (57, undef), (58, .bool false)] (fun w' => Lk w w' p d r b1 w.heap.size) rfl (by simp) rfl (edges_all (by kernel_rfl)) HL9.out.drew (settled_all (And.intro (st_box (p := p) (X := w.heap.size) (r := r) rfl rfl (.inl rfl) rfl rfl (fun _ h => Lk.cell h))
        (And.intro (st_box (p := p) (X := w.heap.size) (r := r) rfl rfl (.inl rfl) rfl rfl (fun _ h => Lk.cell h))
        (And.intro (st_move rfl rfl rfl (.inl rfl) (.inr ⟨7, rfl, .inl ⟨rfl, rfl⟩⟩))
        (And.intro (st_call (f := 36) (vs := #[.agg #[.pointer (some ⟨p, 0, none⟩), .int .i64 r], .int .i64 v1, .int .i64 0]) rfl rfl rfl (.inl rfl) rfl (args3 (.inr ⟨46, rfl, .inr ⟨1, by kernel_rfl, rfl⟩⟩) (.inr ⟨47, rfl, .inr ⟨2, by kernel_rfl, rfl⟩⟩) (.inl rfl)) (enters_child _) (fun _ h => child_lk h v1 0 HW.out (.inl rfl)))
        (And.intro (st_call (f := 44) (vs := #[.agg #[.pointer (some ⟨p, 0, none⟩), .int .i64 r], .int .i64 (chB b1 v1 0)]) rfl rfl rfl (.inl rfl) rfl (args2 (.inr ⟨45, rfl, .inr ⟨0, by kernel_rfl, rfl⟩⟩) (.inr ⟨48, rfl, .inr ⟨3, by kernel_rfl, rfl⟩⟩)) (enters_red _) (fun w h => by have := red_lk h (chB b1 v1 0) HC0.out; rw [HR0.out] at this; exact this))
        (And.intro (st_not (b := true) rfl rfl rfl (.inl rfl) (.inr ⟨49, rfl, .inr ⟨4, by kernel_rfl, rfl⟩⟩))
        (And.intro (st_move rfl rfl rfl (.inl rfl) (.inr ⟨50, rfl, .inr ⟨5, by kernel_rfl, rfl⟩⟩))
        (And.intro (settled_skip _ rfl rfl (⟨6, true, _, 51, rfl, rfl, rfl, rfl, by kernel_rfl⟩))
        (And.intro (settled_skip _ rfl rfl (⟨6, true, _, 51, rfl, rfl, rfl, rfl, by kernel_rfl⟩))
        (And.intro (settled_skip _ rfl rfl (⟨6, true, _, 51, rfl, rfl, rfl, rfl, by kernel_rfl⟩))
        (And.intro (settled_skip _ rfl rfl (⟨6, true, _, 51, rfl, rfl, rfl, rfl, by kernel_rfl⟩))
        (And.intro (settled_skip _ rfl rfl (⟨6, true, _, 51, rfl, rfl, rfl, rfl, by kernel_rfl⟩))
        (And.intro (settled_skip _ rfl rfl (⟨6, true, _, 51, rfl, rfl, rfl, rfl, by kernel_rfl⟩))
        (And.intro (st_pick (b := false) rfl rfl rfl (.inl rfl) (.inr ⟨51, rfl, .inr ⟨6, by kernel_rfl, rfl⟩⟩) (.inl rfl))
        trivial))))))))))))))) ?_
       intro w10 L10
       simp only [puts, List.foldl_cons, List.foldl_nil, Act.put, List.setIfInBounds_toArray, List.set_cons_zero, List.set_cons_succ]
       obtain ⟨hc10, hd10⟩ := L10.cell
       have HL10 := Lib.hid L10
       clear L10 hc9 hd9
       have HD10 := Lib.hid HL10.out.drew
       go_wp2_with fail
       go_region_held3 (fun w' => w'.cell? ⟨w.heap.size, 0, none⟩ = some (.pointer (some ⟨p, 0, none⟩)) ∧ w'.cell? ⟨w.heap.size, 1, none⟩ = some (.int .i64 r)) (first | exact HD10.out.cell | exact HL11.out.cell | exact HL12.out.cell) (first | (go_simp; go_at_call 36; refine (child_lk HD10.out v1 (1 - s) HW.out HS1.out).mono ?_; rintro e w11 ⟨rfl, L11⟩; have HL11 := Lib.hid L11; clear L11) | (go_simp; go_at_call 44; refine (red_lk HL11.out (chB b1 v1 (1 - s)) HF1.out).mono ?_; rintro e w12 ⟨rfl, L12⟩; rw [HRF.out]; have HL12 := Lib.hid L12; clear L12))
       obtain ⟨hc12, hd12⟩ := HL12.out.cell
       clear HD10 hc10 hd10
       have HD12 := Lib.hid HL12.out.drew
       go_wp2_with fail
       go_region_held3 (fun w' => w'.cell? ⟨w.heap.size, 0, none⟩ = some (.pointer (some ⟨p, 0, none⟩)) ∧ w'.cell? ⟨w.heap.size, 1, none⟩ = some (.int .i64 r)) (first | exact HD12.out.cell | exact HL13.out.cell | exact HL14.out.cell) (first | (go_simp; go_at_call 36; refine (child_lk HD12.out v1 s HW.out HS01.out).mono ?_; rintro e w13 ⟨rfl, L13⟩; have HL13 := Lib.hid L13; clear L13) | (go_simp; go_at_call 39; refine (paint_lk HL13.out (chB b1 v1 s) false HN1.out).mono ?_; rintro e w14 ⟨rfl, L14⟩; have HL14 := Lib.hid L14; clear L14))
       obtain ⟨hc14, hd14⟩ := HL14.out.cell
       clear HD12 hc12 hd12
       go_wp2_with fail
       refine (paint_lk HL14.out v1 true HW.out).mono ?_
       rintro e w15 ⟨rfl, L15⟩
       obtain ⟨hc15, hd15⟩ := L15.cell
       have HL15 := Lib.hid L15
       clear L15 hc14 hd14
       go_wp2_with fail
       refine (turn_lk HL15.out v1 (1 - s) HW.out HS1.out).mono ?_
       rintro e w16 ⟨rfl, L16⟩
       obtain ⟨hc16, hd16⟩ := L16.cell
       have HL16 := Lib.hid L16
       clear L16 hc15 hd15
       have HL16b : Hid (Lk w w16 p d r b2 w.heap.size) := Lib.hid (by rw [← HB2.out]; exact HL16.out)
       clear HL16
       have HL16 := HL16b
       have HV2 : Hid (pl v2) := Lib.hid (by rw [← HVV2.out]; exact HL16.out.rng _)
       clear HL16b
       go_wp2_with fail
       refine (child_lk HL16.out q (1 - s) HQ.out HS1.out).mono ?_
       rintro e w17 ⟨rfl, L17⟩
       rw [HVV2.out]
       obtain ⟨hc17, hd17⟩ := L17.cell
       have HL17 := Lib.hid L17
       clear L17 hc16 hd16
       have HD17 := Lib.hid HL17.out.drew
       go_wp2_with fail
       go_region_held3 (fun w' => w'.cell? ⟨w.heap.size, 0, none⟩ = some (.pointer (some ⟨p, 0, none⟩)) ∧ w'.cell? ⟨w.heap.size, 1, none⟩ = some (.int .i64 r)) (first | exact HD17.out.cell | exact HL18.out.cell | exact HL19.out.cell) (first | (go_simp; go_at_call 44; refine (red_lk HD17.out q HQ.out).mono ?_; rintro e w18 ⟨rfl, L18⟩; have HL18 := Lib.hid L18; clear L18) | (go_simp; go_at_call 39; refine (paint_lk HL18.out v2 (redB b2 q) HV2.out).mono ?_; rintro e w19 ⟨rfl, L19⟩; have HL19 := Lib.hid L19; clear L19))
       obtain ⟨hc19, hd19⟩ := HL19.out.cell
       clear HD17 hc17 hd17
       go_wp2_with fail
       refine (paint_lk HL19.out q false HQ.out).mono ?_
       rintro e w20 ⟨rfl, L20⟩
       obtain ⟨hc20, hd20⟩ := L20.cell
       have HL20 := Lib.hid L20
       clear L20 hc19 hd19
       have HL20b : Hid (Lk w w20 p d r (remC1 b2 q v2) w.heap.size) := HL20
       clear HL20
       have HL20 := HL20b
       have HZ : Hid (pl (chB (remC1 b2 q v2) v2 (1 - s))) := Lib.hid (HL20.out.rng _)
       clear HL20b
       have HD20 := Lib.hid HL20.out.drew
       go_wp2_with fail
       go_region_held3 (fun w' => w'.cell? ⟨w.heap.size, 0, none⟩ = some (.pointer (some ⟨p, 0, none⟩)) ∧ w'.cell? ⟨w.heap.size, 1, none⟩ = some (.int .i64 r)) (first | exact HD20.out.cell | exact HL21.out.cell | exact HL22.out.cell) (first | (go_simp; go_at_call 36; refine (child_lk HD20.out v2 (1 - s) HV2.out HS1.out).mono ?_; rintro e w21 ⟨rfl, L21⟩; have HL21 := Lib.hid L21; clear L21) | (go_simp; go_at_call 39; refine (paint_lk HL21.out (chB (remC1 b2 q v2) v2 (1 - s)) false HZ.out).mono ?_; rintro e w22 ⟨rfl, L22⟩; have HL22 := Lib.hid L22; clear L22))
       obtain ⟨hc22, hd22⟩ := HL22.out.cell
       clear HD20 hc20 hd20
       go_wp2_with fail
       refine (turn_lk HL22.out q s HQ.out HS01.out).mono ?_
       rintro e w23 ⟨rfl, L23⟩
       obtain ⟨hc23, hd23⟩ := L23.cell
       have HL23 := Lib.hid L23
       clear L23 hc22 hd22
       have HL23b : Hid (Lk w w23 p d r (remC r b2 q s v2) w.heap.size) := HL23
       clear HL23
       have HL23 := HL23b
       have HP : Hid (pl (gt (remC r b2 q s v2) r)) := Lib.hid (HL23.out.rng _)
       clear HL23b
       go_wp2_with fail
       refine (top_lk HL23.out).mono ?_
       rintro e w24 ⟨rfl, L24⟩
       obtain ⟨hc24, hd24⟩ := L24.cell
       have HL24 := Lib.hid L24
       clear L24 hc23 hd23
       go_wp2
       go_roundg F
       case measure => omega
       case rel => exact ⟨_, _, q, rfl, rfl, HREC.out, HL24.out, HP.out, HQ.out⟩
      ·have HRF := Lib.hid hrf
       have e2 : remS2 r s q b1 v1 = (remC r b1 q s v1, gt (remC r b1 q s v1) r, q) := by unfold remS2; rw [if_neg hnn, if_pos hrf]
       rw [e2] at hrec2
       have HREC := Lib.hid hrec2
       clear hrec2 e2 hrf hnn
       go_wp2_with fail
       refine (top_lk HL0.out).mono ?_
       rintro e w1 ⟨rfl, L1⟩
       rw [HTT.out]
       obtain ⟨hc1, hd1⟩ := L1.cell
       have HL1 := Lib.hid L1
       clear L1 hc0 hd0
       go_wp2_with fail
       refine (red_lk HL1.out x HX.out).mono ?_
       rintro e w2 ⟨rfl, L2⟩
       rw [HRX.out]
       obtain ⟨hc2, hd2⟩ := L2.cell
       have HL2 := Lib.hid L2
       clear L2 hc1 hd1
       go_wp2_with fail
       refine (side_lk HL2.out q x HQ.out).mono ?_
       rintro e w3 ⟨rfl, L3⟩
       rw [HSS.out]
       obtain ⟨hc3, hd3⟩ := L3.cell
       have HL3 := Lib.hid L3
       clear L3 hc2 hd2
       go_wp2_with fail
       refine (child_lk HL3.out q (1 - s) HQ.out HS1.out).mono ?_
       rintro e w4 ⟨rfl, L4⟩
       rw [HVV.out]
       obtain ⟨hc4, hd4⟩ := L4.cell
       have HL4 := Lib.hid L4
       clear L4 hc3 hd3
       go_wp2_with fail
       refine (red_lk HL4.out v HV.out).mono ?_
       rintro e w5 ⟨rfl, L5⟩
       rw [HRV.out]
       obtain ⟨hc5, hd5⟩ := L5.cell
       have HL5 := Lib.hid L5
       clear L5 hc4 hd4
       go_wp2_with fail
       refine (paint_lk HL5.out v false HV.out).mono ?_
       rintro e w6 ⟨rfl, L6⟩
       obtain ⟨hc6, hd6⟩ := L6.cell
       have HL6 := Lib.hid L6
       clear L6 hc5 hd5
       go_wp2_with fail
       refine (paint_lk HL6.out q true HQ.out).mono ?_
       rintro e w7 ⟨rfl, L7⟩
       obtain ⟨hc7, hd7⟩ := L7.cell
       have HL7 := Lib.hid L7
       clear L7 hc6 hd6
       go_wp2_with fail
       refine (turn_lk HL7.out q s HQ.out HS01.out).mono ?_
       rintro e w8 ⟨rfl, L8⟩
       obtain ⟨hc8, hd8⟩ := L8.cell
       have HL8 := Lib.hid L8
       clear L8 hc7 hd7
       have HL8b : Hid (Lk w w8 p d r b1 w.heap.size) := Lib.hid (by rw [← HB1.out]; exact HL8.out)
       clear HL8
       have HL8 := HL8b
       have HW : Hid (pl v1) := Lib.hid (by rw [← HWW.out]; exact HL8.out.rng _)
       clear HL8b
       have HC0 : Hid (pl (chB b1 v1 0)) := Lib.hid (HL8.out.rng _)
       have HC1 : Hid (pl (chB b1 v1 1)) := Lib.hid (HL8.out.rng _)
       have HN1 : Hid (pl (chB b1 v1 s)) := Lib.hid (HL8.out.rng _)
       have HF1 : Hid (pl (chB b1 v1 (1 - s))) := Lib.hid (HL8.out.rng _)
       go_wp2_with fail
       refine (child_lk HL8.out q (1 - s) HQ.out HS1.out).mono ?_
       rintro e w9 ⟨rfl, L9⟩
       rw [HWW.out]
       obtain ⟨hc9, hd9⟩ := L9.cell
       have HL9 := Lib.hid L9
       clear L9 hc8 hd8
       go_wp2_with fail
       refine region_settled (by kernel_rfl) [(45, .agg #[.pointer (some ⟨p, 0, none⟩), .int .i64 r]), (46, .agg #[.pointer (some ⟨p, 0, none⟩), .int .i64 r]), (47, .int .i64 v1), (48, .int .i64 (chB b1 v1 0)), (49, .bool true), (50, .bool false), (51, .bool false), (52, undef), (53, undef), (54, undef), (55, undef), (56, undef), (57, undef), (58, .bool false)] (fun w' => Lk w w' p d r b1 w.heap.size) rfl (by simp) rfl (edges_all (by kernel_rfl)) HL9.out.drew (settled_all (And.intro (st_box (p := p) (X := w.heap.size) (r := r) rfl rfl (.inl rfl) rfl rfl (fun _ h => Lk.cell h))
        (And.intro (st_box (p := p) (X := w.heap.size) (r := r) rfl rfl (.inl rfl) rfl rfl (fun _ h => Lk.cell h))
        (And.intro (st_move rfl rfl rfl (.inl rfl) (.inr ⟨7, rfl, .inl ⟨rfl, rfl⟩⟩))
        (And.intro (st_call (f := 36) (vs := #[.agg #[.pointer (some ⟨p, 0, none⟩), .int .i64 r], .int .i64 v1, .int .i64 0]) rfl rfl rfl (.inl rfl) rfl (args3 (.inr ⟨46, rfl, .inr ⟨1, by kernel_rfl, rfl⟩⟩) (.inr ⟨47, rfl, .inr ⟨2, by kernel_rfl, rfl⟩⟩) (.inl rfl)) (enters_child _) (fun _ h => child_lk h v1 0 HW.out (.inl rfl)))
        (And.intro (st_call (f := 44) (vs := #[.agg #[.pointer (some ⟨p, 0, none⟩), .int .i64 r], .int .i64 (chB b1 v1 0)]) rfl rfl rfl (.inl rfl) rfl (args2 (.inr ⟨45, rfl, .inr ⟨0, by kernel_rfl, rfl⟩⟩) (.inr ⟨48, rfl, .inr ⟨3, by kernel_rfl, rfl⟩⟩)) (enters_red _) (fun w h => by have := red_lk h (chB b1 v1 0) HC0.out; rw [HR0.out] at this; exact this))
        (And.intro (st_not (b := true) rfl rfl rfl (.inl rfl) (.inr ⟨49, rfl, .inr ⟨4, by kernel_rfl, rfl⟩⟩))
        (And.intro (st_move rfl rfl rfl (.inl rfl) (.inr ⟨50, rfl, .inr ⟨5, by kernel_rfl, rfl⟩⟩))
        (And.intro (settled_skip _ rfl rfl (⟨6, true, _, 51, rfl, rfl, rfl, rfl, by kernel_rfl⟩))
        (And.intro (settled_skip _ rfl rfl (⟨6, true, _, 51, rfl, rfl, rfl, rfl, by kernel_rfl⟩))
        (And.intro (settled_skip _ rfl rfl (⟨6, true, _, 51, rfl, rfl, rfl, rfl, by kernel_rfl⟩))
        (And.intro (settled_skip _ rfl rfl (⟨6, true, _, 51, rfl, rfl, rfl, rfl, by kernel_rfl⟩))
        (And.intro (settled_skip _ rfl rfl (⟨6, true, _, 51, rfl, rfl, rfl, rfl, by kernel_rfl⟩))
        (And.intro (settled_skip _ rfl rfl (⟨6, true, _, 51, rfl, rfl, rfl, rfl, by kernel_rfl⟩))
        (And.intro (st_pick (b := false) rfl rfl rfl (.inl rfl) (.inr ⟨51, rfl, .inr ⟨6, by kernel_rfl, rfl⟩⟩) (.inl rfl))
        trivial))))))))))))))) ?_
       intro w10 L10
       simp only [puts, List.foldl_cons, List.foldl_nil, Act.put, List.setIfInBounds_toArray, List.set_cons_zero, List.set_cons_succ]
       obtain ⟨hc10, hd10⟩ := L10.cell
       have HL10 := Lib.hid L10
       clear L10 hc9 hd9
       have HD10 := Lib.hid HL10.out.drew
       go_wp2_with fail
       go_region_held3 (fun w' => w'.cell? ⟨w.heap.size, 0, none⟩ = some (.pointer (some ⟨p, 0, none⟩)) ∧ w'.cell? ⟨w.heap.size, 1, none⟩ = some (.int .i64 r)) (first | exact HD10.out.cell | exact HL11.out.cell | exact HL12.out.cell) (first | (go_simp; go_at_call 36; refine (child_lk HD10.out v1 (1 - s) HW.out HS1.out).mono ?_; rintro e w11 ⟨rfl, L11⟩; have HL11 := Lib.hid L11; clear L11) | (go_simp; go_at_call 44; refine (red_lk HL11.out (chB b1 v1 (1 - s)) HF1.out).mono ?_; rintro e w12 ⟨rfl, L12⟩; rw [HRF.out]; have HL12 := Lib.hid L12; clear L12))
       obtain ⟨hc12, hd12⟩ := HL12.out.cell
       clear HD10 hc10 hd10
       have HD12 := Lib.hid HL12.out.drew
       go_wp2_with fail
       go_region_held3 (fun w' => w'.cell? ⟨w.heap.size, 0, none⟩ = some (.pointer (some ⟨p, 0, none⟩)) ∧ w'.cell? ⟨w.heap.size, 1, none⟩ = some (.int .i64 r)) (first | exact HD12.out.cell | exact HL13.out.cell | exact HL14.out.cell) (first | (go_simp; go_at_call 44; refine (red_lk HD12.out q HQ.out).mono ?_; rintro e w13 ⟨rfl, L13⟩; have HL13 := Lib.hid L13; clear L13) | (go_simp; go_at_call 39; refine (paint_lk HL13.out v1 (redB b1 q) HW.out).mono ?_; rintro e w14 ⟨rfl, L14⟩; have HL14 := Lib.hid L14; clear L14))
       obtain ⟨hc14, hd14⟩ := HL14.out.cell
       clear HD12 hc12 hd12
       go_wp2_with fail
       refine (paint_lk HL14.out q false HQ.out).mono ?_
       rintro e w15 ⟨rfl, L15⟩
       obtain ⟨hc15, hd15⟩ := L15.cell
       have HL15 := Lib.hid L15
       clear L15 hc14 hd14
       have HL15b : Hid (Lk w w15 p d r (remC1 b1 q v1) w.heap.size) := HL15
       clear HL15
       have HL15 := HL15b
       have HZ : Hid (pl (chB (remC1 b1 q v1) v1 (1 - s))) := Lib.hid (HL15.out.rng _)
       clear HL15b
       have HD15 := Lib.hid HL15.out.drew
       go_wp2_with fail
       go_region_held3 (fun w' => w'.cell? ⟨w.heap.size, 0, none⟩ = some (.pointer (some ⟨p, 0, none⟩)) ∧ w'.cell? ⟨w.heap.size, 1, none⟩ = some (.int .i64 r)) (first | exact HD15.out.cell | exact HL16.out.cell | exact HL17.out.cell) (first | (go_simp; go_at_call 36; refine (child_lk HD15.out v1 (1 - s) HW.out HS1.out).mono ?_; rintro e w16 ⟨rfl, L16⟩; have HL16 := Lib.hid L16; clear L16) | (go_simp; go_at_call 39; refine (paint_lk HL16.out (chB (remC1 b1 q v1) v1 (1 - s)) false HZ.out).mono ?_; rintro e w17 ⟨rfl, L17⟩; have HL17 := Lib.hid L17; clear L17))
       obtain ⟨hc17, hd17⟩ := HL17.out.cell
       clear HD15 hc15 hd15
       go_wp2_with fail
       refine (turn_lk HL17.out q s HQ.out HS01.out).mono ?_
       rintro e w18 ⟨rfl, L18⟩
       obtain ⟨hc18, hd18⟩ := L18.cell
       have HL18 := Lib.hid L18
       clear L18 hc17 hd17
       have HL18b : Hid (Lk w w18 p d r (remC r b1 q s v1) w.heap.size) := HL18
       clear HL18
       have HL18 := HL18b
       have HP : Hid (pl (gt (remC r b1 q s v1) r)) := Lib.hid (HL18.out.rng _)
       clear HL18b
       go_wp2_with fail
       refine (top_lk HL18.out).mono ?_
       rintro e w19 ⟨rfl, L19⟩
       obtain ⟨hc19, hd19⟩ := L19.cell
       have HL19 := Lib.hid L19
       clear L19 hc18 hd18
       go_wp2
       go_roundg F
       case measure => omega
       case rel => exact ⟨_, _, q, rfl, rfl, HREC.out, HL19.out, HP.out, HQ.out⟩
   ·rw [hrx, if_pos rfl] at hrec
    have HRX := Lib.hid hrx
    have HRES := Lib.hid (Option.some.inj hrec)
    clear hrec hrx
    go_wp2_with fail
    refine (top_lk HL0.out).mono ?_
    rintro e w1 ⟨rfl, L1⟩
    rw [HTT.out]
    obtain ⟨hc1, hd1⟩ := L1.cell
    have HL1 := Lib.hid L1
    clear L1 hc0 hd0
    go_wp2_with fail
    refine (red_lk HL1.out x HX.out).mono ?_
    rintro e w2 ⟨rfl, L2⟩
    rw [HRX.out]
    obtain ⟨hc2, hd2⟩ := L2.cell
    have HL2 := Lib.hid L2
    clear L2 hc1 hd1
    go_wp2_with fail
    refine (paint_lk HL2.out x false HX.out).mono ?_
    rintro e w3 ⟨rfl, L3⟩
    obtain ⟨hc3, hd3⟩ := L3.cell
    have HL3 := Lib.hid L3
    clear L3 hc2 hd2
    go_wp2
    go_end0
    exact ⟨rfl, HRES.out ▸ HL3.out.ar, HL3.out.gr⟩
end
end Go.Proofs.Ythkppnkhiimaeaa
