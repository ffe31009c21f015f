/- Lemmas of the claim TreePlays. -/
import Derived.Test.YthkppnkhiimaeaaMgTp1
import Derived.Test.YthkppnkhiimaeaaTr8
/- Trees in links (layer 11), plain: bytes and links. -/
set_option linter.unusedVariables false
set_option linter.unusedSimpArgs false
namespace Go.Proofs.Ythkppnkhiimaeaa
/-! ### Numbers of 32 bits at multiples of 4 -/
def al (a : Int) : Prop := 0 ≤ a ∧ a ≤ 2044 ∧ a % 4 = 0
def upd (G : Int → Int) (a v : Int) : Int → Int := fun x => if x = a then v else G x
theorem upd_eq {G : Int → Int} {a v x : Int} (h : x = a) : upd G a v x = v := if_pos h
theorem upd_ne {G : Int → Int} {a v x : Int} (h : x ≠ a) : upd G a v x = G x := if_neg h
def Ag (bs : List Int) (G : Int → Int) : Prop := bs.length = 2048 ∧ ∀ a, al a → gt bs a = G a
theorem nErr4 {bs : List Int} (hl : bs.length = 2048) {a : Int} (h : al a) : nErr bs.length a 4 = 0 := nErr_ok (by unfold WOk; omega) h.1 (by have := h.2.1; omega)
theorem Ag.st_ {bs : List Int} {G : Int → Int} (h : Ag bs G) {a v : Int} (ha : al a) (hv : pl v) : Ag (st bs a v) (upd G a v) := by
  obtain ⟨h0, h1⟩ := hv
  refine ⟨by rw [st_length]; exact h.1, fun b hb => ?_⟩
  unfold gt st
  by_cases e : b = a
  · subst e
    rw [ldA_stA (nErr4 h.1 ha), upd_eq rfl, show (256 : Int) ^ (Int.toNat 4) = 4294967296 from by decide]
    omega
  · rw [ldA_stA_other (nErr4 h.1 ha) (by have := ha.2.2; have := hb.2.2; omega), upd_ne e]
    exact h.2 b hb
def clrG (G : Int → Int) (n : Int) : Int → Int := fun b => if n ≤ b ∧ b < n + 20 then 0 else G b
theorem Ag.fill {bs : List Int} {G : Int → Int} (h : Ag bs G) {n : Int} (hn : al n) (h1 : n ≤ 2000) : Ag (fillA bs n 20 0) (clrG G n) := by
  obtain ⟨hl, hg⟩ := h
  refine ⟨by rw [fillA_length]; exact hl, fun b hb => ?_⟩
  have hr : rErr bs.length n 20 = 0 := rErr_ok (by omega) hn.1 (by omega)
  have hb4 := nErr4 hl hb
  unfold gt ldA fillA clrG
  rw [if_pos hr, put_length, if_pos hb4]
  have hm1 := hn.2.2
  have hm2 := hb.2.2
  have hn0 := hn.1
  have hb0 := hb.1
  have hb1 := hb.2.1
  by_cases e : n ≤ b ∧ b < n + 20
  · rw [if_pos e]
    have hz : ldv (put bs n.toNat (fun _ => 0) (Int.toNat 20)) b.toNat (Int.toNat 4) = 0 % 256 ^ 4 := by
      apply ldv_bytes
      intro j hj
      rw [gb_put, if_pos (by have h4 : Int.toNat 4 = 4 := rfl; have h12 : Int.toNat 20 = 20 := rfl; rw [h12]; omega)]
      unfold byteOf
      simp
    rw [hz]
    rfl
  · rw [if_neg e, ← hg b hb]
    unfold gt ldA
    rw [if_pos hb4]
    apply ldv_congr
    intro j hj
    have h4 : Int.toNat 4 = 4 := rfl
    have h12 : Int.toNat 20 = 20 := rfl
    rw [h4] at hj
    rw [gb_put, h12, if_neg (by omega)]
def wordOf (h : Hp) (kw : Int → Int) (a : Int) : Int :=
  if a = 8 then h.top else if 32 ≤ a ∧ a < 1312 ∧ a % 32 < 20 then
    (if a % 32 = 0 then h.ch false (a - a % 32) else if a % 32 = 4 then h.ch true (a - a % 32) else if a % 32 = 8 then h.P (a - a % 32) else if a % 32 = 12 then h.O (a - a % 32) else h.C (a - a % 32))
  else kw a
theorem word_f (h : Hp) (kw : Int → Int) {n : Int} (hn : isN n) : wordOf h kw n = h.ch false n ∧ wordOf h kw (n + 4) = h.ch true n ∧ wordOf h kw (n + 8) = h.P n ∧ wordOf h kw (n + 12) = h.O n ∧ wordOf h kw (n + 16) = h.C n := by
  unfold isN at hn
  obtain ⟨h1, h2, h3⟩ := hn
  refine ⟨?_, ?_, ?_, ?_, ?_⟩
  · have e : n - n % 32 = n := by omega
    unfold wordOf
    rw [if_neg (by omega), if_pos (by omega), if_pos (by omega), e]
  · have e : n + 4 - (n + 4) % 32 = n := by omega
    unfold wordOf
    rw [if_neg (by omega), if_pos (by omega), if_neg (by omega), if_pos (by omega), e]
  · have e : n + 8 - (n + 8) % 32 = n := by omega
    unfold wordOf
    rw [if_neg (by omega), if_pos (by omega), if_neg (by omega), if_neg (by omega), if_pos (by omega), e]
  · have e : n + 12 - (n + 12) % 32 = n := by omega
    unfold wordOf
    rw [if_neg (by omega), if_pos (by omega), if_neg (by omega), if_neg (by omega), if_neg (by omega), if_pos (by omega), e]
  · have e : n + 16 - (n + 16) % 32 = n := by omega
    unfold wordOf
    rw [if_neg (by omega), if_pos (by omega), if_neg (by omega), if_neg (by omega), if_neg (by omega), if_neg (by omega), e]
def Wd (bs : List Int) (h : Hp) (kw : Int → Int) : Prop := Ag bs (wordOf h kw)
theorem Ag.congr {bs : List Int} {G G' : Int → Int} (h : Ag bs G) (e : ∀ a, al a → G a = G' a) : Ag bs G' := ⟨h.1, fun a ha => (h.2 a ha).trans (e a ha)⟩
section
variable {bs : List Int} {h : Hp} {kw : Int → Int}
theorem al_n {n : Int} (hn : isN n) : al n ∧ al (n + 4) ∧ al (n + 8) ∧ al (n + 12) ∧ al (n + 16) := by unfold isN at hn; unfold al; omega
theorem pl_n {n : Int} (hn : n = 0 ∨ isN n) : pl n := by unfold isN at hn; unfold pl; omega
theorem Wd.fld (W : Wd bs h kw) {n : Int} (hn : isN n) : gt bs n = h.ch false n ∧ gt bs (n + 4) = h.ch true n ∧ gt bs (n + 8) = h.P n ∧ gt bs (n + 12) = h.O n ∧ gt bs (n + 16) = h.C n := by
  obtain ⟨a1, a2, a3, a4, a5⟩ := al_n hn
  obtain ⟨w1, w2, w3, w4, w5⟩ := word_f h kw hn
  exact ⟨(W.2 _ a1).trans w1, (W.2 _ a2).trans w2, (W.2 _ a3).trans w3, (W.2 _ a4).trans w4, (W.2 _ a5).trans w5⟩
theorem Wd.top (W : Wd bs h kw) : gt bs 8 = h.top := (W.2 8 (by unfold al; omega)).trans (if_pos rfl)
theorem Wd.setTop (W : Wd bs h kw) {v : Int} (hv : pl v) : Wd (st bs 8 v) (h.setTop v) kw := by
  refine (Ag.st_ W (a := 8) (by unfold al; omega) hv).congr (fun a ha => ?_)
  unfold upd
  by_cases e : a = 8
  · rw [if_pos e]; unfold wordOf; rw [if_pos e]; rfl
  · rw [if_neg e]; unfold wordOf; rw [if_neg e, if_neg e]; rfl
theorem Wd.set_core (W : Wd bs h kw) {n v k : Int} {h' : Hp} (hn : isN n) (hk : k = 0 ∨ k = 4 ∨ k = 8 ∨ k = 12 ∨ k = 16) (hv : pl v) (hat : wordOf h' kw (n + k) = v) (hoth : ∀ a, al a → a ≠ n + k → wordOf h' kw a = wordOf h kw a) : Wd (st bs (n + k) v) h' kw := by
  unfold isN at hn
  refine (Ag.st_ W (a := n + k) (by unfold al; omega) hv).congr (fun a ha => ?_)
  unfold upd
  by_cases e : a = n + k
  · rw [if_pos e, e]; exact hat.symm
  · rw [if_neg e]; exact (hoth a ha e).symm
theorem Wd.setCh (W : Wd bs h kw) {n v : Int} (s : Bool) (hn : isN n) (hv : pl v) : Wd (st bs (n + 4 * (if s then 1 else 0)) v) (h.setCh s n v) kw := by
  obtain ⟨w1, w2, w3, w4, w5⟩ := word_f (h.setCh s n v) kw hn
  cases s
  · refine W.set_core (k := 0) hn (by omega) hv (by rw [Int.add_zero, w1]; exact if_pos ⟨rfl, rfl⟩) (fun a ha e => ?_)
    have ha4 := ha.2.2
    unfold wordOf
    split
    · rfl
    · split
      · split
        · exact if_neg (fun hh => e (by have := hh.2; omega))
        · split
          · rfl
          · rfl
      · rfl
  · refine W.set_core (k := 4) hn (by omega) hv (by rw [w2]; exact if_pos ⟨rfl, rfl⟩) (fun a ha e => ?_)
    have ha4 := ha.2.2
    unfold wordOf
    split
    · rfl
    · split
      · split
        · rfl
        · split
          · exact if_neg (fun hh => e (by have := hh.2; omega))
          · rfl
      · rfl
theorem Wd.setP (W : Wd bs h kw) {n v : Int} (hn : isN n) (hv : pl v) : Wd (st bs (n + 8) v) (h.setP n v) kw := by
  obtain ⟨w1, w2, w3, w4, w5⟩ := word_f (h.setP n v) kw hn
  refine W.set_core (k := 8) hn (by omega) hv (by rw [w3]; exact if_pos rfl) (fun a ha e => ?_)
  have ha4 := ha.2.2
  unfold wordOf
  split
  · rfl
  · split
    · split
      · rfl
      · split
        · rfl
        · split
          · exact if_neg (fun hh => e (by omega))
          · rfl
    · rfl
theorem Wd.setO (W : Wd bs h kw) {n v : Int} (hn : isN n) (hv : pl v) : Wd (st bs (n + 12) v) (h.setO n v) kw := by
  obtain ⟨w1, w2, w3, w4, w5⟩ := word_f (h.setO n v) kw hn
  refine W.set_core (k := 12) hn (by omega) hv (by rw [w4]; exact if_pos rfl) (fun a ha e => ?_)
  have ha4 := ha.2.2
  unfold wordOf
  split
  · rfl
  · split
    · split
      · rfl
      · split
        · rfl
        · split
          · rfl
          · split
            · exact if_neg (fun hh => e (by omega))
            · rfl
    · rfl
theorem Wd.setC (W : Wd bs h kw) {n v : Int} (hn : isN n) (hv : pl v) : Wd (st bs (n + 16) v) (h.setC n v) kw := by
  obtain ⟨w1, w2, w3, w4, w5⟩ := word_f (h.setC n v) kw hn
  refine W.set_core (k := 16) hn (by omega) hv (by rw [w5]; exact if_pos rfl) (fun a ha e => ?_)
  have ha4 := ha.2.2
  unfold wordOf
  split
  · rfl
  · split
    · split
      · rfl
      · split
        · rfl
        · split
          · rfl
          · split
            · rfl
            · exact if_neg (fun hh => e (by omega))
    · rfl
theorem Wd.clr (W : Wd bs h kw) {n : Int} (hn : isN n) : Wd (fillA bs n 20 0) (clrH h n) kw := by
  have hn' := hn
  unfold isN at hn
  refine (Ag.fill W (by unfold al; omega) (by omega)).congr (fun a ha => ?_)
  have ha4 := ha.2.2
  unfold clrG wordOf
  by_cases e8 : a = 8
  · rw [if_neg (by omega), if_pos e8, if_pos e8]; rfl
  · rw [if_neg e8, if_neg e8]
    by_cases er : 32 ≤ a ∧ a < 1312 ∧ a % 32 < 20
    · rw [if_pos er, if_pos er]
      by_cases e : n ≤ a ∧ a < n + 20
      · have ea : a - a % 32 = n := by omega
        rw [if_pos e, ea]
        have hz := clr_free h n
        rw [hz.1, hz.2.1, hz.2.2.1, hz.2.2.2, hz.2.2.2]
        split <;> (try split) <;> (try split) <;> (try split) <;> rfl
      · have ea : a - a % 32 ≠ n := by omega
        rw [if_neg e]
        have hz := clrH_eqn (h := h) ea
        rw [hz.1, hz.2.1, hz.2.2.1, hz.2.2.2, hz.2.2.2]
    · rw [if_neg er, if_neg er, if_neg (by omega)]
/-! ### Each small step -/
def sI (s : Bool) : Int := if s then 1 else 0
theorem one_sI (s : Bool) : 1 - sI s = sI (!s) := by cases s <;> rfl
theorem sI_inj {a b : Bool} : sI a = sI b ↔ a = b := by cases a <;> cases b <;> simp [sI]
theorem Wd.chB (W : Wd bs h kw) {n : Int} (hn : isN n) (s : Bool) : chB bs n (sI s) = h.ch s n := by
  obtain ⟨f1, f2, _⟩ := W.fld hn
  unfold Go.Proofs.Ythkppnkhiimaeaa.chB
  cases s
  · show gt bs (n + 4 * 0) = _; rw [Int.mul_zero, Int.add_zero]; exact f1
  · show gt bs (n + 4 * 1) = _; rw [Int.mul_one]; exact f2
theorem Wd.upB (W : Wd bs h kw) {n : Int} (hn : isN n) : upB bs n = h.P n := (W.fld hn).2.2.1
theorem Wd.redB (W : Wd bs h kw) {n : Int} (hn : n = 0 ∨ isN n) : redB bs n = redH h n := by
  unfold Go.Proofs.Ythkppnkhiimaeaa.redB redH
  rcases hn with rfl | hn
  · rfl
  · rw [(W.fld hn).2.2.2.2]
theorem Wd.sideB (W : Wd bs h kw) {q : Int} (hq : isN q) (n : Int) : sideB bs q n = sI (sideH h q n) := by
  have e := W.chB hq false
  unfold Go.Proofs.Ythkppnkhiimaeaa.sideB sideH
  rw [show (0 : Int) = sI false from rfl, e]
  by_cases hh : h.ch false q = n
  · rw [if_pos hh, show (h.ch false q == n) = true from beq_iff_eq.2 hh]; rfl
  · rw [if_neg hh, show (h.ch false q == n) = false from beq_eq_false_iff_ne.2 hh]; rfl
theorem Wd.paint (W : Wd bs h kw) {n : Int} (hn : n = 0 ∨ isN n) (c : Bool) : Wd (paintB bs n c) (paintH h n c) kw := by
  unfold paintB paintH
  by_cases h0 : n = 0
  · rw [if_pos h0, if_pos h0]; exact W
  · rw [if_neg h0, if_neg h0]
    have := W.setC (v := cI c) (hn.resolve_left h0) (by cases c <;> exact ⟨by decide, by decide⟩)
    exact this
theorem Wd.join (W : Wd bs h kw) {q n : Int} (hq : isN q) (s : Bool) (hn : n = 0 ∨ isN n) : Wd (joinB bs q (sI s) n) (joinH h q s n) kw := by
  unfold joinB joinH
  have w1 := W.setCh s hq (pl_n hn)
  by_cases h0 : n = 0
  · rw [if_pos h0, if_pos h0]; exact w1
  · rw [if_neg h0, if_neg h0]
    exact w1.setP (hn.resolve_left h0) (pl_n (.inr hq))
theorem Wd.place (W : Wd bs h kw) {o n : Int} (ho : isN o) (hn : n = 0 ∨ isN n) (hp : h.P o = 0 ∨ isN (h.P o)) : Wd (placeB bs 8 o n) (placeH h o n) kw := by
  unfold placeB placeH
  rw [W.upB ho]
  by_cases hp0 : h.P o = 0
  · rw [if_pos hp0, if_pos hp0]
    have w1 := W.setTop (pl_n hn)
    by_cases h0 : n = 0
    · rw [if_pos h0, if_pos h0]; exact w1
    · rw [if_neg h0, if_neg h0]
      exact w1.setP (hn.resolve_left h0) (pl_n (.inl rfl))
  · rw [if_neg hp0, if_neg hp0, W.sideB (hp.resolve_left hp0)]
    exact W.join (hp.resolve_left hp0) _ hn
theorem Wd.turn (W : Wd bs h kw) {x : Int} {s : Bool} (T : Tv h x s) : Wd (turnB bs 8 x (sI s)) (turnH h x s) kw := by
  unfold turnB turnH
  rw [one_sI, W.chB T.hx]
  have w1 := W.place T.hx (.inr T.hy) T.hp
  rw [w1.chB T.hy]
  exact (w1.join T.hx (!s) T.hz).join T.hy s (.inr T.hx)
theorem added_wd {h h' : Hp} {x : Int} (A : AddedTr h x h') : ∀ bs, Wd bs h kw → ∃ F bs', addedB 8 F bs x = some bs' ∧ Wd bs' h' kw := by
  induction A with
  | done hx hp hr ht =>
    intro bs W
    refine ⟨1, paintB bs (gt bs 8) false, ?_, by rw [W.top]; exact W.paint (.inr ht) false⟩
    unfold addedB
    rw [if_neg (by rw [W.upB hx, W.redB hp, hr]; decide)]
  | uncle hx e1 hq hrq e2 hg e3 e4 hu hru _ ih =>
    intro bs W
    obtain ⟨F, bs', i1, i2⟩ := ih _ (((W.paint (.inr hq) false).paint (.inr hu) false).paint (.inr hg) true)
    refine ⟨F + 1, bs', ?_, i2⟩
    unfold addedB
    rw [W.upB hx, e1, W.upB hq, e2, W.sideB hg, e3, one_sI, W.chB hg, e4, if_pos (by rw [W.redB (.inr hq), hrq]), if_pos (by rw [W.redB (.inr hu), hru])]
    exact i1
  | outer hx e1 hq hrq e2 hg e3 e4 hu hru hs tv _ ih =>
    intro bs W
    have w1 := (W.paint (.inr hq) false).paint (.inr hg) true
    obtain ⟨F, bs', i1, i2⟩ := ih _ (w1.turn tv)
    refine ⟨F + 1, bs', ?_, i2⟩
    unfold addedB
    rw [W.upB hx, e1, W.upB hq, e2, W.sideB hg, e3, one_sI, W.chB hg, e4, if_pos (by rw [W.redB (.inr hq), hrq]), if_neg (by rw [W.redB hu, hru]; decide), W.sideB hq, hs, if_pos rfl]
    exact i1
  | inner hx e1 hq hrq e2 hg e3 e4 hu hru hs tv1 tv2 _ ih =>
    intro bs W
    have w1 := ((W.turn tv1).paint (.inr hx) false).paint (.inr hg) true
    obtain ⟨F, bs', i1, i2⟩ := ih _ (w1.turn tv2)
    refine ⟨F + 1, bs', ?_, i2⟩
    unfold addedB
    rw [W.upB hx, e1, W.upB hq, e2, W.sideB hg, e3, one_sI, W.chB hg, e4, if_pos (by rw [W.redB (.inr hq), hrq]), if_neg (by rw [W.redB hu, hru]; decide), W.sideB hq, if_neg (fun e => hs (sI_inj.1 e))]
    exact i1
end
end Go.Proofs.Ythkppnkhiimaeaa
