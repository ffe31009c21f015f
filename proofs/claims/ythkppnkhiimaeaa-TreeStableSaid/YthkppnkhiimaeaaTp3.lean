/- Trees in links (layer 11), plain: colors right behind a removal. -/
import Derived.Test.YthkppnkhiimaeaaTp2
set_option linter.unusedVariables false
set_option linter.unusedSimpArgs false
namespace Go.Proofs.Ythkppnkhiimaeaa

def remAH (h : Hp) (q : Int) (s : Bool) (v : Int) : Hp := turnH (paintH (paintH h v false) q true) q s
def remBH (h : Hp) (s : Bool) (v : Int) : Hp := turnH (paintH (paintH h (h.ch s v) false) v true) v (!s)
def remC1H (h : Hp) (q v : Int) : Hp := paintH (paintH h v (redH h q)) q false
def remCH (h : Hp) (q : Int) (s : Bool) (v : Int) : Hp := turnH (paintH (remC1H h q v) ((remC1H h q v).ch (!s) v) false) q s

/-- What remC meets. -/
structure CV (h : Hp) (q : Int) (s : Bool) (v : Int) : Prop where
  hq : isN q
  hv : isN v
  hf : isN ((remC1H h q v).ch (!s) v)
  ht : Tv (paintH (remC1H h q v) ((remC1H h q v).ch (!s) v) false) q s
/-- A round, but for the first part. -/
inductive Rs2 (h : Hp) (q : Int) (s : Bool) (v : Int) : Hp → Int → Int → Prop
  | both : isN q → isN v → (h.ch false v = 0 ∨ isN (h.ch false v)) → (h.ch true v = 0 ∨ isN (h.ch true v)) → redH h (h.ch false v) = false → redH h (h.ch true v) = false →
      Rs2 h q s v (paintH h v true) q ((paintH h v true).P q)
  | far : (h.ch false v = 0 ∨ isN (h.ch false v)) → (h.ch true v = 0 ∨ isN (h.ch true v)) → ¬ (redH h (h.ch false v) = false ∧ redH h (h.ch true v) = false) → redH h (h.ch (!s) v) = true → CV h q s v →
      Rs2 h q s v (remCH h q s v) (remCH h q s v).top q
  | near {v2 : Int} : (h.ch false v = 0 ∨ isN (h.ch false v)) → (h.ch true v = 0 ∨ isN (h.ch true v)) → ¬ (redH h (h.ch false v) = false ∧ redH h (h.ch true v) = false) → redH h (h.ch (!s) v) = false →
      isN v → isN (h.ch s v) → Tv (paintH (paintH h (h.ch s v) false) v true) v (!s) → (remBH h s v).ch (!s) q = v2 → CV (remBH h s v) q s v2 →
      Rs2 h q s v (remCH (remBH h s v) q s v2) (remCH (remBH h s v) q s v2).top q
inductive RemovedTr : Hp → Int → Int → Hp → Prop
  | done {h : Hp} {x q : Int} : (x = 0 ∨ isN x) → (x = h.top ∨ redH h x = true) → RemovedTr h x q (paintH h x false)
  | black {h h1 h' : Hp} {x q v x1 q1 : Int} {s : Bool} : (x = 0 ∨ isN x) → x ≠ h.top → redH h x = false → isN q → sideH h q x = s → h.ch (!s) q = v → isN v → redH h v = false → Rs2 h q s v h1 x1 q1 → RemovedTr h1 x1 q1 h' → RemovedTr h x q h'
  | red {h h1 h' : Hp} {x q v v1 x1 q1 : Int} {s : Bool} : (x = 0 ∨ isN x) → x ≠ h.top → redH h x = false → isN q → sideH h q x = s → h.ch (!s) q = v → isN v → redH h v = true →
      Tv (paintH (paintH h v false) q true) q s → (remAH h q s v).ch (!s) q = v1 → isN v1 → Rs2 (remAH h q s v) q s v1 h1 x1 q1 → RemovedTr h1 x1 q1 h' → RemovedTr h x q h'

/-- To the sibling, and back. -/
theorem go_over {h : Hp} {s c : Bool} {n : Int} {sib : Bt} {fs : List Fr} {t : Bt} (F : Foc h (⟨s, c, n, sib⟩ :: fs) t) : Go_ h (⟨s, c, n, sib⟩ :: fs) t h (⟨!s, c, n, t⟩ :: fs) sib := by
  have g1 := go_up F
  have g2 := g1.trans (go_eq g1.F (nd_flip ..))
  exact g2.trans (go_down g2.F)
theorem go_over' {h : Hp} {s c : Bool} {n : Int} {sib : Bt} {fs : List Fr} {t : Bt} (F : Foc h (⟨!s, c, n, t⟩ :: fs) sib) : Go_ h (⟨!s, c, n, t⟩ :: fs) sib h (⟨s, c, n, sib⟩ :: fs) t := by
  have := go_over F
  rw [Bool.not_not] at this
  exact this
theorem go_all {h : Hp} {fs : List Fr} {t : Bt} (F : Foc h fs t) : Go_ h fs t h [] (plug fs t) := ⟨Foc.all.1 F, rfl, Out.refl _ _⟩

theorem ch_s {h : Hp} {p : Int} {s c : Bool} {a : Bt} {n : Int} {b : Bt} (R : Rep h p (nd s c a n b)) : h.ch s n = a.rt ∧ h.ch (!s) n = b.rt := by
  obtain ⟨h1, h2, h3, h4, h5, h6, _⟩ := Rep_nd.1 R
  exact ⟨h5, h6⟩
theorem kids {h : Hp} {p : Int} {s c : Bool} {a : Bt} {n : Int} {b : Bt} (R : Rep h p (nd s c a n b)) :
    (h.ch false n = 0 ∨ isN (h.ch false n)) ∧ (h.ch true n = 0 ∨ isN (h.ch true n)) ∧ ((redH h (h.ch false n) = false ∧ redH h (h.ch true n) = false) ↔ (a.red = false ∧ b.red = false)) := by
  obtain ⟨h1, h2, h3, h4, h5, h6, h7, h8⟩ := Rep_nd.1 R
  cases s
  · rw [h5, show h.ch true n = b.rt from h6]
    exact ⟨h7.rt, h8.rt, by rw [redH_rt h7, redH_rt h8]⟩
  · rw [h5, show h.ch false n = b.rt from h6]
    exact ⟨h8.rt, h7.rt, by rw [redH_rt h7, redH_rt h8]; exact And.comm⟩

/-- The far one is red. -/
theorem stepC {h : Hp} {s c : Bool} {q v : Int} {near far t : Bt} {fs : List Fr} {k : Nat} (F : Foc h (⟨s, c, q, nd s false near v far⟩ :: fs) t) (hf : far.red = true) (hn : ok near k) (hfar : ok far k) (ht : ok t k)
    (hC : okC (⟨s, c, q, nd s false near v far⟩ :: fs) (k + 1)) : CV h q s v ∧ ∃ t1, Go_ h (⟨s, c, q, nd s false near v far⟩ :: fs) t (remCH h q s v) [] t1 ∧ RB t1 := by
  have hq : isN q := F.C.1
  have hrq : redH h q = c := redH_f F.C
  have RS := F.C.2.2.2.2.2.2.1
  have hv : isN v := (Rep_nd.1 RS).1
  have hv0 : (nd s false near v far).rt ≠ 0 := by rw [nd_rt]; exact hv.ne0
  have hf0 : far.rt ≠ 0 := by
    have := (Rep_nd.1 RS).2.2.2.2.2.2.2
    intro e; have := this.rt0 e; rw [this] at hf; cases hf
  have e1 : remC1H h q v = paintH (paintH h v c) q false := by unfold remC1H; rw [hrq]
  have g1 := paint_sib c F hv0
  rw [nd_rt, nd_dye] at g1
  have g2 := g1.trans (paint_up false g1.F)
  rw [← e1] at g2
  have hch : (remC1H h q v).ch (!s) v = far.rt := (ch_s g2.F.C.2.2.2.2.2.2.1).2
  have g3 := g2.trans (go_over g2.F)
  have g4 := g3.trans (go_eq g3.F (t' := nd (!s) c far v near) (nd_flip ..))
  have g5 := g4.trans (go_down g4.F)
  have hfN : isN far.rt := g5.F.T.isN _ (rt_mem hf0)
  have g6 := g5.trans (paint_go false g5.F hf0)
  have g7 := g6.trans (go_up g6.F)
  have g8 := g7.trans (go_eq g7.F (t' := nd s c near v (far.dye false)) (by rw [nd_flip, Bool.not_not]))
  have g9 := g8.trans (go_over' g8.F)
  have g10 := g9.trans (go_up g9.F)
  have tv : Tv _ q s := Tv.of g10.F
  have g11 := g10.trans (turn_go g10.F)
  have g12 := g11.trans (go_all g11.F)
  refine ⟨⟨hq, hv, by rw [hch]; exact hfN, by rw [hch]; exact tv⟩, _, by unfold remCH; rw [hch]; exact g12, ?_⟩
  have kf : ok (far.dye false) (k + 1) ∧ (far.dye false).red = false := by
    obtain ⟨fa, fn, fb, rfl⟩ := nd_of_red false hf
    rw [nd_dye]
    obtain ⟨v1, v2, _⟩ := ok_r.1 hfar
    exact ⟨ok_b.2 ⟨v1, v2⟩, nd_red ..⟩
  cases c
  · obtain ⟨_, u2⟩ := (okC_b rfl).1 hC
    exact plug_ok u2 (ok_b.2 ⟨ok_b.2 ⟨ht, hn⟩, kf.1⟩) (fun e => by rw [nd_red] at e; cases e) (fun _ => nd_red ..)
  · obtain ⟨_, _, u3, u4, u5⟩ := (okC_r rfl).1 hC
    exact plug_ok u5 (ok_r.2 ⟨ok_b.2 ⟨ht, hn⟩, kf.1, nd_red .., kf.2⟩) (fun _ => u3) (fun e => absurd e u4)

/-- What a round is handed on. -/
def Nx (fs : List Fr) (t : Bt) (k : Nat) : Prop := okC fs (k + 1) ∧ ((t.red = true ∧ ok (t.dye false) (k + 1)) ∨ (t.red = false ∧ ok t k))
theorem step2 {h : Hp} {s c : Bool} {q : Int} {sib t : Bt} {fs : List Fr} {k : Nat} (F : Foc h (⟨s, c, q, sib⟩ :: fs) t) (hs : sib.red = false) (hk : ok sib (k + 1)) (ht : ok t k) (htr : t.red = false) (hC : okC (⟨s, c, q, sib⟩ :: fs) (k + 1)) :
    ∃ h1 x1 q1, Rs2 h q s sib.rt h1 x1 q1 ∧ ((∃ t1 k1, x1 = t1.rt ∧ q1 = pn fs ∧ Go_ h (⟨s, c, q, sib⟩ :: fs) t h1 fs t1 ∧ Nx fs t1 k1 ∧ (c = true → t1.red = true)) ∨ (∃ t1, Go_ h (⟨s, c, q, sib⟩ :: fs) t h1 [] t1 ∧ RB t1 ∧ x1 = h1.top)) := by
  obtain ⟨c0, near, v, far, rfl⟩ := nd_of_ok s hk
  rw [nd_red] at hs
  subst hs
  rw [nd_rt]
  obtain ⟨hn, hf⟩ := ok_b.1 hk
  have hq : isN q := F.C.1
  have RS := F.C.2.2.2.2.2.2.1
  have hv : isN v := (Rep_nd.1 RS).1
  have hv0 : (nd s false near v far).rt ≠ 0 := by rw [nd_rt]; exact hv.ne0
  obtain ⟨kf, kt, kk⟩ := kids RS
  obtain ⟨cs1, cs2⟩ := ch_s RS
  have Rn := (Rep_nd.1 RS).2.2.2.2.2.2.1
  have Rf := (Rep_nd.1 RS).2.2.2.2.2.2.2
  cases hfr : far.red
  · cases hnr : near.red
    · -- both black
      have hb := kk.2 ⟨hnr, hfr⟩
      have g1 := paint_sib true F hv0
      rw [nd_rt, nd_dye] at g1
      have hP : (paintH h v true).P q = pn fs := g1.F.C.2.1
      have g2 := g1.trans (go_up g1.F)
      refine ⟨_, _, _, .both hq hv kf kt hb.1 hb.2, .inl ⟨_, (if c then k else k + 1), (nd_rt ..).symm, hP, g2, ?_⟩⟩
      have kw : ok (nd s true near v far) k := ok_r.2 ⟨hn, hf, hnr, hfr⟩
      cases c
      · obtain ⟨_, u2⟩ := (okC_b rfl).1 hC
        exact ⟨⟨u2, .inr ⟨nd_red .., ok_b.2 ⟨ht, kw⟩⟩⟩, fun e => by cases e⟩
      · obtain ⟨_, _, u3, u4, u5⟩ := (okC_r rfl).1 hC
        exact ⟨⟨u5, .inl ⟨nd_red .., by rw [nd_dye]; exact ok_b.2 ⟨ht, kw⟩⟩⟩, fun _ => nd_red ..⟩
    · -- the near one is red
      have hnb : ¬ (redH h (h.ch false v) = false ∧ redH h (h.ch true v) = false) := fun e => by have := (kk.1 e).1; rw [hnr] at this; cases this
      have hfb : redH h (h.ch (!s) v) = false := by rw [cs2, redH_rt Rf]; exact hfr
      obtain ⟨n1, m, n2, rfl⟩ := nd_of_red s hnr
      have hm : isN m := (Rep_nd.1 Rn).1
      rw [nd_rt] at cs1
      obtain ⟨k1, k2, k3, k4⟩ := ok_r.1 hn
      have g1 := go_over F
      have g2 := g1.trans (go_down g1.F)
      have g3 := g2.trans (paint_nd false g2.F)
      have g4 := g3.trans (paint_up true g3.F)
      have g5 := g4.trans (go_up g4.F)
      have g6 := g5.trans (go_eq g5.F (t' := nd (!s) true far v (nd (!s) false n2 m n1)) (by
        show nd s true (nd s false n1 m n2) v far = _
        rw [nd_flip s true, nd_flip s false]))
      have tv := Tv.of g6.F
      have g7 := g6.trans (turn_go g6.F)
      have g8 := g7.trans (go_eq g7.F (t' := nd s false n1 m (nd s true n2 v far)) (by rw [nd_flip (!s) false, nd_flip (!s) true, Bool.not_not]))
      have g9 := g8.trans (go_over' g8.F)
      have eB : remBH h s v = turnH (paintH (paintH h m false) v true) v (!s) := by unfold remBH; rw [cs1]
      rw [← eB] at g9
      have hv2 : (remBH h s v).ch (!s) q = m := by have := g9.F.C.2.2.2.2.2.1; rw [nd_rt] at this; exact this
      have hC2 : okC (⟨s, c, q, nd s false n1 m (nd s true n2 v far)⟩ :: fs) (k + 1) := by
        have e3 : ok (nd s false n1 m (nd s true n2 v far)) (k + 1) := ok_b.2 ⟨k1, ok_r.2 ⟨k2, hf, k4, hfr⟩⟩
        cases c
        · obtain ⟨_, u2⟩ := (okC_b rfl).1 hC
          exact (okC_b rfl).2 ⟨e3, u2⟩
        · obtain ⟨_, _, u3, u4, u5⟩ := (okC_r rfl).1 hC
          exact (okC_r rfl).2 ⟨e3, nd_red .., u3, u4, u5⟩
      obtain ⟨cv, t1, gC, hrb⟩ := stepC g9.F (nd_red ..) k1 (ok_r.2 ⟨k2, hf, k4, hfr⟩) ht hC2
      refine ⟨_, _, _, .near kf kt hnb hfb hv (by rw [cs1]; exact hm) (by rw [cs1]; exact tv) hv2 cv, .inr ⟨t1, g9.trans gC, hrb, rfl⟩⟩
  · -- the far one is red
    have hnb : ¬ (redH h (h.ch false v) = false ∧ redH h (h.ch true v) = false) := fun e => by have := (kk.1 e).2; rw [hfr] at this; cases this
    have hfb : redH h (h.ch (!s) v) = true := by rw [cs2, redH_rt Rf]; exact hfr
    obtain ⟨cv, t1, gC, hrb⟩ := stepC F hfr hn hf ht hC
    exact ⟨_, _, _, .far kf kt hnb hfb cv, .inr ⟨t1, gC, hrb, rfl⟩⟩

theorem plug_rt : ∀ (fs : List Fr) (f : Fr) (t : Bt), (plug (f :: fs) t).rt ∈ idsC (f :: fs)
  | [], f, t => by show (nd f.s f.c t f.n f.sib).rt ∈ _; rw [nd_rt]; simp [idsC]
  | g :: fs, f, t => by
    have := plug_rt fs g (nd f.s f.c t f.n f.sib)
    show (plug (g :: fs) (nd f.s f.c t f.n f.sib)).rt ∈ _
    simp only [idsC, List.mem_cons, List.mem_append] at this ⊢
    exact .inr (.inr this)
theorem top_ne {h : Hp} {f : Fr} {fs : List Fr} {t : Bt} (F : Foc h (f :: fs) t) : t.rt ≠ h.top := by
  have htop : h.top = (plug (f :: fs) t).rt := (Foc.all.1 F).C
  rw [htop]
  intro e
  have hm := plug_rt fs f t
  rw [← e] at hm
  have hN := F.C.isN _ hm
  exact F.dis (rt_mem hN.ne0) hm
/-- The topmost one is black already. -/
theorem done_top {h : Hp} {t : Bt} {q : Int} (F : Foc h [] t) (hr : RB t) : RemovedTr h h.top q (paintH h h.top false) ∧ Go_ h [] t (paintH h h.top false) [] t := by
  have htop : h.top = t.rt := F.C
  rw [htop]
  refine ⟨.done F.T.rt (.inl htop.symm), ?_⟩
  by_cases h0 : t.rt = 0
  · rw [h0]; exact Go_.refl F
  · have := paint_go false F h0
    obtain ⟨k, _, hk⟩ := hr
    rw [dye_self hk] at this
    exact this

theorem removed_foc : ∀ (N : Nat) (fs : List Fr) (h : Hp) (t : Bt) (k : Nat), fs.length ≤ N → Foc h fs t → Nx fs t k → ∃ h' t', RemovedTr h t.rt (pn fs) h' ∧ Go_ h fs t h' [] t' ∧ RB t' := by
  intro N
  induction N using Nat.strongRecOn with
  | _ N ih =>
    rintro fs h t k hN F ⟨hC, hT⟩
    rcases hT with ⟨hr, hk⟩ | ⟨hr, hk⟩
    · -- red: paint it
      have h0 : t.rt ≠ 0 := by cases t with
        | nil => cases hr
        | node c l n r => exact F.T.1.ne0
      have g1 := paint_go false F h0
      have g2 := g1.trans (go_all g1.F)
      have hd : (t.dye false).red = false := by cases t <;> rfl
      exact ⟨_, _, .done F.T.rt (.inr ((redH_rt F.T).trans hr)), g2, plug_ok hC hk (fun e => by rw [hd] at e; cases e) (fun _ => hd)⟩
    · cases fs with
      | nil =>
        have hrb : RB t := ⟨k, hk, hr⟩
        have htop : h.top = t.rt := F.C
        obtain ⟨d1, d2⟩ := done_top (q := pn []) F hrb
        rw [htop] at d1 d2
        exact ⟨_, _, d1, d2, hrb⟩
      | cons f fs =>
        have hks : ok f.sib (k + 1) := by
          cases hc : f.c
          · exact ((okC_b hc).1 hC).1
          · exact ((okC_r hc).1 hC).1
        have hq : isN f.n := F.C.1
        have RS := F.C.2.2.2.2.2.2.1
        have hv0 : f.sib.rt ≠ 0 := by
          obtain ⟨c0, a, n, b, e⟩ := nd_of_ok false hks
          rw [e] at RS ⊢
          rw [nd_rt]; exact (Rep_nd.1 RS).1.ne0
        have hv : isN f.sib.rt := RS.rt.resolve_left hv0
        have hside : sideH h f.n t.rt = f.s := by
          refine sideH_of F.C (fun e => ?_)
          exact F.dis (rt_mem (e ▸ hv0)) (by rw [e]; simp [idsC, rt_mem hv0])
        have hch : h.ch (!f.s) f.n = f.sib.rt := F.C.2.2.2.2.2.1
        have htop := top_ne F
        have hrx : redH h t.rt = false := (redH_rt F.T).trans hr
        cases hsr : f.sib.red
        · obtain ⟨h1, x1, q1, r2, hor⟩ := step2 (s := f.s) (c := f.c) (q := f.n) (sib := f.sib) F hsr hks hk hr hC
          have hrv : redH h f.sib.rt = false := (redH_rt RS).trans hsr
          rcases hor with ⟨t1, k1, rfl, rfl, g1, nx, _⟩ | ⟨t1, g1, hrb, rfl⟩
          · obtain ⟨h', t', a1, a2, a3⟩ := ih fs.length (by simp at hN; omega) fs h1 t1 k1 (Nat.le_refl _) g1.F nx
            exact ⟨h', t', .black F.T.rt htop hrx hq hside hch hv hrv r2 a1, g1.trans a2, a3⟩
          · obtain ⟨d1, d2⟩ := done_top (q := q1) g1.F hrb
            exact ⟨_, _, .black F.T.rt htop hrx hq hside hch hv hrv r2 d1, g1.trans d2, hrb⟩
        · -- the sibling is red
          have hfc : f.c = false := by
            cases hc : f.c
            · rfl
            · have := ((okC_r hc).1 hC).2.1; rw [hsr] at this; cases this
          obtain ⟨_, u2⟩ := (okC_b hfc).1 hC
          obtain ⟨near, w, far, hsib⟩ := nd_of_red f.s hsr
          have hw : f.sib.rt = w := by rw [hsib, nd_rt]
          rw [hsib] at hks
          obtain ⟨k1, k2, k3, k4⟩ := ok_r.1 hks
          have g1 := paint_sib false F hv0
          have g2 := g1.trans (paint_up true g1.F)
          have g3 := g2.trans (go_up g2.F)
          have g4 := g3.trans (go_eq g3.F (t' := nd f.s true t f.n (nd f.s false near w far)) (by show nd f.s true t f.n (f.sib.dye false) = _; rw [hsib, nd_dye]))
          have tv := Tv.of g4.F
          have g5 := g4.trans (turn_go g4.F)
          have g6 := g5.trans (go_down g5.F)
          have g7 := g6.trans (go_down g6.F)
          have hC7 : okC (⟨f.s, true, f.n, near⟩ :: ⟨f.s, false, w, far⟩ :: fs) (k + 1) := (okC_r rfl).2 ⟨k1, k3, rfl, by simp, (okC_b rfl).2 ⟨k2, u2⟩⟩
          obtain ⟨h1, x1, q1, r2, hor⟩ := step2 (s := f.s) (c := true) (q := f.n) (sib := near) g7.F k3 k1 hk hr hC7
          have hrv : redH h f.sib.rt = true := (redH_rt RS).trans hsr
          have hv1 : (remAH h f.n f.s f.sib.rt).ch (!f.s) f.n = near.rt := g7.F.C.2.2.2.2.2.1
          have hvn : isN near.rt := by
            obtain ⟨c0, a, n, b, e⟩ := nd_of_ok false k1
            have R7 := g7.F.C.2.2.2.2.2.2.1
            refine R7.rt.resolve_left ?_
            show near.rt ≠ 0
            have : Rep _ _ near := R7
            rw [e] at this ⊢
            rw [nd_rt]; exact (Rep_nd.1 this).1.ne0
          rcases hor with ⟨t1, k1', rfl, rfl, g8, nx, hred1⟩ | ⟨t1, g8, hrb, rfl⟩
          · -- below a red one: t1 is red: painted at once
            have gg := g7.trans g8
            rcases nx with ⟨nxC, ⟨n1, n2⟩ | ⟨n1, n2⟩⟩
            · have h0 : t1.rt ≠ 0 := by cases t1 with
                | nil => cases n1
                | node c l n r => exact gg.F.T.1.ne0
              have g9 := gg.trans (paint_go false gg.F h0)
              have g10 := g9.trans (go_all g9.F)
              have hd : (t1.dye false).red = false := by cases t1 <;> rfl
              exact ⟨_, _, .red F.T.rt htop hrx hq hside hch hv hrv tv hv1 hvn r2 (.done gg.F.T.rt (.inr ((redH_rt gg.F.T).trans n1))), g10, plug_ok nxC n2 (fun e => by rw [hd] at e; cases e) (fun _ => hd)⟩
            · rw [hred1 rfl] at n1; cases n1
          · obtain ⟨d1, d2⟩ := done_top (q := q1) g8.F hrb
            exact ⟨_, _, .red F.T.rt htop hrx hq hside hch hv hrv tv hv1 hvn r2 d1, (g7.trans g8).trans d2, hrb⟩
end Go.Proofs.Ythkppnkhiimaeaa
