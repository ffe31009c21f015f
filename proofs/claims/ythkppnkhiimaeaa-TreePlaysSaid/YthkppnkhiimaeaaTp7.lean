/- Lemmas of the claim TreePlays. -/
import Derived.Test.YthkppnkhiimaeaaTp6
/- Trees in links (layer 11), plain: additions and removals on bytes. -/
set_option linter.unusedVariables false
set_option linter.unusedSimpArgs false
namespace Go.Proofs.Ythkppnkhiimaeaa
section
variable {bs : List Int} {kw : Int → Int}
theorem both_wd {h : Hp} (W : Wd bs h kw) {v : Int} (hv : isN v) (h0 : h.ch false v = 0 ∨ isN (h.ch false v)) (h1 : h.ch true v = 0 ∨ isN (h.ch true v)) :
    (redB bs (chB bs v 0) = false ∧ redB bs (chB bs v 1) = false) ↔ (redH h (h.ch false v) = false ∧ redH h (h.ch true v) = false) := by
  have e0 := W.chB hv false
  have e1 := W.chB hv true
  rw [show sI false = 0 from rfl] at e0
  rw [show sI true = 1 from rfl] at e1
  rw [e0, e1, W.redB h0, W.redB h1]
theorem remC_wd {h : Hp} (W : Wd bs h kw) {q v : Int} {s : Bool} (C : CV h q s v) : Wd (remC 8 bs q (sI s) v) (remCH h q s v) kw := by
  have w1 : Wd (remC1 bs q v) (remC1H h q v) kw := by
    unfold remC1 remC1H
    rw [W.redB (.inr C.hq)]
    exact (W.paint (.inr C.hv) _).paint (.inr C.hq) false
  unfold remC remCH
  rw [one_sI, w1.chB C.hv]
  exact (w1.paint (.inr C.hf) false).turn C.ht
theorem rs2_wd {h h1 : Hp} {q v x1 q1 : Int} {s : Bool} (R : Rs2 h q s v h1 x1 q1) (hv : isN v) (W : Wd bs h kw) : ∃ bs1, remS2 8 (sI s) q bs v = (bs1, x1, q1) ∧ Wd bs1 h1 kw := by
  cases R with
  | both hq hv' k0 k1 r0 r1 =>
    have w1 := W.paint (.inr hv) true
    refine ⟨paintB bs v true, ?_, w1⟩
    unfold remS2
    rw [if_pos ((both_wd W hv k0 k1).2 ⟨r0, r1⟩), w1.upB hq]
  | far k0 k1 hn hr C =>
    have w1 := remC_wd W C
    refine ⟨remC 8 bs q (sI s) v, ?_, w1⟩
    unfold remS2
    have e1 : redB bs (chB bs v (1 - sI s)) = true := by
      rw [one_sI, W.chB hv, W.redB (by cases s; exact k1; exact k0)]; exact hr
    rw [if_neg (fun e => hn ((both_wd W hv k0 k1).1 e)), if_pos e1, w1.top]
  | @near v2 k0 k1 hn hr hv' hs tv e2 C =>
    have w1 := (W.paint (.inr hs) false).paint (.inr hv) true
    have w2 : Wd (remB 8 bs (sI s) v) (remBH h s v) kw := by
      unfold remB remBH
      rw [W.chB hv, one_sI]
      exact w1.turn tv
    have w3 := remC_wd w2 C
    have e3 : chB (remB 8 bs (sI s) v) q (1 - sI s) = v2 := by rw [one_sI, w2.chB C.hq]; exact e2
    refine ⟨remC 8 (remB 8 bs (sI s) v) q (sI s) v2, ?_, w3⟩
    unfold remS2
    have e1 : ¬ redB bs (chB bs v (1 - sI s)) = true := by
      rw [one_sI, W.chB hv, W.redB (by cases s; exact k1; exact k0), hr]; decide
    rw [if_neg (fun e => hn ((both_wd W hv k0 k1).1 e)), if_neg e1, e3, w3.top]
theorem removed_wd {h h' : Hp} {x q : Int} (R : RemovedTr h x q h') : ∀ bs, Wd bs h kw → ∃ F bs', removedB 8 F bs x q = some bs' ∧ Wd bs' h' kw := by
  induction R with
  | @done h x q hx hor =>
    intro bs W
    refine ⟨1, paintB bs x false, ?_, W.paint hx false⟩
    unfold removedB
    rw [W.top]
    by_cases e : x = h.top
    · rw [if_pos e]
    · rw [if_neg e, W.redB hx, if_pos (hor.resolve_left e)]
  | @black h h1 h' x q v x1 q1 s hx ht hr hq hs hv hvN hrv r2 _ ih =>
    intro bs W
    obtain ⟨bs1, e1, W1⟩ := rs2_wd r2 hvN W
    obtain ⟨F, bs', i1, i2⟩ := ih bs1 W1
    refine ⟨F + 1, bs', ?_, i2⟩
    unfold removedB
    have eS : remS 8 bs x q = (bs1, x1, q1) := by
      unfold remS
      rw [W.sideB hq, hs, one_sI, W.chB hq, hv, if_neg (by rw [W.redB (.inr hvN), hrv]; decide)]
      exact e1
    rw [W.top, if_neg ht, W.redB hx, hr, if_neg (by decide), eS]
    exact i1
  | @red h h1 h' x q v v1 x1 q1 s hx ht hr hq hs hv hvN hrv tv e2 hv1 r2 _ ih =>
    intro bs W
    have w1 : Wd (remA 8 bs q (sI s) v) (remAH h q s v) kw := ((W.paint (.inr hvN) false).paint (.inr hq) true).turn tv
    obtain ⟨bs1, e1, W1⟩ := rs2_wd r2 hv1 w1
    obtain ⟨F, bs', i1, i2⟩ := ih bs1 W1
    refine ⟨F + 1, bs', ?_, i2⟩
    unfold removedB
    have eS : remS 8 bs x q = (bs1, x1, q1) := by
      unfold remS
      rw [W.sideB hq, hs, one_sI, W.chB hq, hv, if_pos (by rw [W.redB (.inr hvN), hrv]), w1.chB hq, e2]
      exact e1
    rw [W.top, if_neg ht, W.redB hx, hr, if_neg (by decide), eS]
    exact i1
theorem low_wd {h : Hp} {k : Nat} {n y : Int} (L : LowTr h k n y) (W : Wd bs h kw) : ∀ K, k ≤ K → lowB bs K n = y := by
  induction L with
  | here hn h0 =>
    intro K _
    cases K with
    | zero => rfl
    | succ K =>
      unfold lowB
      have e := W.chB hn false
      rw [show sI false = 0 from rfl] at e
      rw [if_neg hn.ne0, e, if_pos h0]
  | down hn hc _ ih =>
    intro K hK
    obtain ⟨K, rfl⟩ : ∃ j, K = j + 1 := ⟨K - 1, by omega⟩
    unfold lowB
    have e := W.chB hn false
    rw [show sI false = 0 from rfl] at e
    rw [if_neg hn.ne0, e, if_neg hc.ne0]
    exact ih K (by omega)
def keyOf (kw : Int → Int) (n : Int) : Int := kw (n - 8) + 4294967296 * kw (n - 4)
theorem ldv_add (bs : List Int) (a j : Nat) : ∀ k, ldv bs a (j + k) = ldv bs a j + 256 ^ j * ldv bs (a + j) k
  | 0 => by simp [ldv]
  | k + 1 => by
    show ldv bs a (j + k + 1) = _
    have e1 : ∀ (a : Nat) (m : Nat), ldv bs a (m + 1) = ldv bs a m + gb bs (a + m) * 256 ^ m := fun a m => rfl
    rw [e1, e1, ldv_add bs a j k, Int.mul_add, Int.pow_add, Int.add_assoc, Nat.add_assoc]
    congr 2
    rw [Int.mul_left_comm]
theorem Wd.key {h : Hp} (W : Wd bs h kw) {n : Int} (hn : isN n) : ldA bs (n + -8) 8 = keyOf kw n ∧ nErr bs.length (n + -8) 8 = 0 := by
  unfold isN at hn
  have hl : bs.length = 2048 := W.1
  have he : nErr bs.length (n + -8) 8 = 0 := nErr_ok (by unfold WOk; omega) (by omega) (by omega)
  refine ⟨?_, he⟩
  have a1 : al (n - 8) := by unfold al; omega
  have a2 : al (n - 4) := by unfold al; omega
  have g1 := W.2 _ a1
  have g2 := W.2 _ a2
  have n1 := nErr4 hl a1
  have n2 := nErr4 hl a2
  have k1 : wordOf h kw (n - 8) = kw (n - 8) := by unfold wordOf; rw [if_neg (by omega), if_neg (by omega)]
  have k2 : wordOf h kw (n - 4) = kw (n - 4) := by unfold wordOf; rw [if_neg (by omega), if_neg (by omega)]
  unfold gt ldA at g1 g2
  rw [if_pos n1, k1] at g1
  rw [if_pos n2, k2] at g2
  unfold ldA keyOf
  rw [if_pos he, show Int.toNat 8 = 4 + 4 from rfl, ldv_add, show (256 : Int) ^ 4 = 4294967296 from by decide]
  have e1 : (n + -8).toNat = (n - 8).toNat := by omega
  have e2 : (n + -8).toNat + 4 = (n - 4).toNat := by omega
  rw [e2, e1]
  rw [show Int.toNat 4 = 4 from rfl] at g1 g2
  rw [g1, g2]
theorem desc_wd {h : Hp} {kn : Int} {k : Nat} {n q q' : Int} {s s' : Bool} (D : DescTr h (keyOf kw) kn k n q s q' s') (W : Wd bs h kw) : descB bs (-8) kn (k + 1) n q (sI s) = some (q', sI s') := by
  induction D with
  | done => unfold descB; rw [if_pos rfl]
  | left hm hlt _ ih =>
    unfold descB
    have e := W.chB hm false
    rw [show sI false = 0 from rfl] at e ih
    rw [if_neg hm.ne0, (W.key hm).1, if_pos hlt, e]
    exact ih
  | right hm hlt _ ih =>
    unfold descB
    have e := W.chB hm true
    rw [show sI true = 1 from rfl] at e ih
    rw [if_neg hm.ne0, (W.key hm).1, if_neg hlt, e]
    exact ih
theorem inn_n {h : Hp} (W : Wd bs h kw) {n : Int} (hn : isN n) : inn bs n 24 = true ∧ inn bs 8 8 = true ∧ chk bs 8 n = 0 := by
  unfold isN at hn
  have hl : bs.length = 2048 := W.1
  have h1 : inn bs n 24 = true := by unfold inn; rw [hl, Bool.and_eq_true, decide_eq_true_eq, decide_eq_true_eq]; omega
  have h2 : inn bs 8 8 = true := by unfold inn; rw [hl]; rfl
  exact ⟨h1, h2, by unfold chk; rw [h1, h2]; rfl⟩
theorem Wd.fresh {h : Hp} (W : Wd bs h kw) {n : Int} (hn : isN n) : Wd (freshB bs 8 n) (freshH h n) kw :=
  ((W.clr hn).setO hn ⟨by omega, by omega⟩).paint (.inr hn) true
theorem add_wd {h h' : Hp} {n : Int} (A : AddTr h (keyOf kw) n h') (W : Wd bs h kw) : ∃ F1 F2 q s bs', descB bs (-8) (ldA bs (n + -8) 8) F1 (gt bs 8) 0 0 = some (q, s) ∧ addedB 8 F2 (attB bs 8 n q s) n = some bs' ∧ Wd bs' h' kw := by
  obtain ⟨hn, ht, hq, D, A2⟩ := A
  rename_i k q s
  have d1 := desc_wd D W
  have w1 : Wd (attB bs 8 n q (sI s)) (attH h n q s) kw := by
    unfold attB attH
    have wf := W.fresh hn
    by_cases h0 : q = 0
    · rw [if_pos h0, if_pos h0]; exact wf.setTop (pl_n (.inr hn))
    · rw [if_neg h0, if_neg h0]; exact wf.join (hq.resolve_left h0) s (.inr hn)
  obtain ⟨F2, bs', b1, b2⟩ := added_wd A2 _ w1
  exact ⟨k + 1, F2, q, sI s, bs', by rw [(W.key hn).1, W.top]; exact d1, b1, b2⟩
theorem fin_wd {h1 h' : Hp} {z : Int} {red : Bool} {x q : Int} {bs1 : List Int} (hz : isN z) (W : Wd bs1 h1 kw) (Fi : Fin_ (clrH h1 z) red x q h') : ∃ F bs', remFin 8 F z (bs1, x, q, red) = some bs' ∧ Wd bs' h' kw := by
  rcases Fi with ⟨rfl, rfl⟩ | ⟨rfl, R⟩
  · exact ⟨0, _, by unfold remFin; rw [if_pos rfl], W.clr hz⟩
  · obtain ⟨F, bs', r1, r2⟩ := removed_wd R _ (W.clr hz)
    exact ⟨F, bs', by unfold remFin; rw [if_neg (fun e => Bool.noConfusion e)]; exact r1, r2⟩
theorem rem_wd {h h' : Hp} {z : Int} (R : RemTr h z h') (W : Wd bs h kw) : isN z ∧ h.O z = 8 ∧ ∃ F bs', remFin 8 F z (remOut bs 8 z) = some bs' ∧ Wd bs' h' kw := by
  cases R with
  | @leaf s _ hz hO hs h0 hx hp Fi =>
    have e0 := W.chB hz false
    have e1 := W.chB hz true
    rw [show sI false = 0 from rfl] at e0
    rw [show sI true = 1 from rfl] at e1
    refine ⟨hz, hO, ?_⟩
    have w1 := W.place hz hx hp
    unfold remOut
    rw [e0, e1, W.upB hz, W.redB (.inr hz)]
    cases s
    · rw [if_pos h0]
      exact fin_wd hz w1 Fi
    · rw [if_neg (hs rfl), if_pos h0]
      exact fin_wd hz w1 Fi
  | @deep k y _ hz hO hl hr hk L hy hx hpy hpz hmid hx2 _ hpm hlz Fi =>
    have e0 := W.chB hz false
    have e1 := W.chB hz true
    rw [show sI false = 0 from rfl] at e0
    rw [show sI true = 1 from rfl] at e1
    have ey := W.chB hy true
    rw [show sI true = 1 from rfl] at ey
    refine ⟨hz, hO, ?_⟩
    have hlow : lowB bs 60 (h.ch true z) = y := low_wd L W 60 hk
    -- ahead of the swap
    have wm : Wd (remMid bs 8 z y) (remMidH h z y) kw := by
      unfold remMid remMidH
      rw [W.upB hy, ey]
      by_cases hp : h.P y = z
      · rw [if_pos hp, if_pos hp]; exact W
      · rw [if_neg hp, if_neg hp]
        obtain ⟨m1, m2⟩ := hmid hp
        have w1 := W.place hy hx (.inr m1)
        have e2 := w1.chB hz true
        rw [show sI true = 1 from rfl] at e2
        rw [e2]
        exact w1.join hy true (.inr m2)
    have we : Wd (remEnd (remMid bs 8 z y) 8 z y) (remEndH (remMidH h z y) z y) kw := by
      have w1 := wm.place hz (.inr hy) hpm
      have e2 := w1.chB hz false
      rw [show sI false = 0 from rfl] at e2
      have w2 := w1.join hy false (.inr hlz)
      unfold remEnd
      dsimp only
      rw [e2]
      show Wd (paintB (joinB (placeB (remMid bs 8 z y) 8 z y) y (sI false) _) y (redB (joinB (placeB (remMid bs 8 z y) 8 z y) y (sI false) _) z)) _ kw
      rw [w2.redB (.inr hz)]
      exact w2.paint (.inr hy) _
    unfold remOut
    rw [e0, e1, if_neg hl.ne0, if_neg hr.ne0, hlow, ey, W.redB (.inr hy)]
    have ep : remP bs z y = remPH h z y := by unfold remP remPH; rw [W.upB hy]
    rw [ep]
    exact fin_wd hz we Fi
end
end Go.Proofs.Ythkppnkhiimaeaa
