/- Trees in links (layer 11), plain: colors right behind an addition. -/
import Derived.Test.YthkppnkhiimaeaaTp1
set_option linter.unusedVariables false
set_option linter.unusedSimpArgs false
namespace Go.Proofs.Ythkppnkhiimaeaa

/-! ### The rules -/
def ok : Bt → Nat → Prop
  | .nil, k => k = 0
  | .node true l _ r, k => ok l k ∧ ok r k ∧ l.red = false ∧ r.red = false
  | .node false l _ r, k => ∃ j, k = j + 1 ∧ ok l j ∧ ok r j
theorem ok_r {s : Bool} {a b : Bt} {n : Int} {k : Nat} : ok (nd s true a n b) k ↔ ok a k ∧ ok b k ∧ a.red = false ∧ b.red = false := by
  cases s
  · exact Iff.rfl
  · exact ⟨fun ⟨h1, h2, h3, h4⟩ => ⟨h2, h1, h4, h3⟩, fun ⟨h1, h2, h3, h4⟩ => ⟨h2, h1, h4, h3⟩⟩
theorem ok_b {s : Bool} {a b : Bt} {n : Int} {k : Nat} : ok (nd s false a n b) (k + 1) ↔ ok a k ∧ ok b k := by
  cases s
  · constructor
    · rintro ⟨j, e, h1, h2⟩; obtain rfl : k = j := by omega
      exact ⟨h1, h2⟩
    · rintro ⟨h1, h2⟩; exact ⟨k, rfl, h1, h2⟩
  · constructor
    · rintro ⟨j, e, h1, h2⟩; obtain rfl : k = j := by omega
      exact ⟨h2, h1⟩
    · rintro ⟨h1, h2⟩; exact ⟨k, rfl, h2, h1⟩
theorem ok_b' {s : Bool} {a b : Bt} {n : Int} {k : Nat} (h : ok (nd s false a n b) k) : ∃ j, k = j + 1 ∧ ok a j ∧ ok b j := by
  cases s
  · exact h
  · obtain ⟨j, e, h1, h2⟩ := h; exact ⟨j, e, h2, h1⟩
def okC : List Fr → Nat → Prop
  | [], _ => True
  | f :: fs, k => if f.c then ok f.sib k ∧ f.sib.red = false ∧ redC fs = false ∧ fs ≠ [] ∧ okC fs k else ok f.sib k ∧ okC fs (k + 1)
theorem okC_r {f : Fr} {fs : List Fr} {k : Nat} (hc : f.c = true) : okC (f :: fs) k ↔ ok f.sib k ∧ f.sib.red = false ∧ redC fs = false ∧ fs ≠ [] ∧ okC fs k := by
  show (if f.c then _ else _) ↔ _
  rw [if_pos hc]
theorem okC_b {f : Fr} {fs : List Fr} {k : Nat} (hc : f.c = false) : okC (f :: fs) k ↔ ok f.sib k ∧ okC fs (k + 1) := by
  show (if f.c then _ else _) ↔ _
  rw [if_neg (by rw [hc]; decide)]
/-- By all rules. -/
def RB (t : Bt) : Prop := ∃ k, ok t k ∧ t.red = false
theorem plug_ok : ∀ {fs : List Fr} {t : Bt} {k : Nat}, okC fs k → ok t k → (t.red = true → redC fs = false) → (fs = [] → t.red = false) → RB (plug fs t)
  | [], t, k, _, h, _, h0 => ⟨k, h, h0 rfl⟩
  | f :: fs, t, k, hC, h, hr, h0 => by
    show RB (plug fs _)
    cases hc : f.c
    · obtain ⟨h1, h2⟩ := (okC_b hc).1 hC
      exact plug_ok h2 (ok_b.2 ⟨h, h1⟩) (fun e => (by rw [nd_red] at e; cases e)) (fun _ => nd_red ..)
    · obtain ⟨h1, h2, h3, h4, h5⟩ := (okC_r hc).1 hC
      have htr : t.red = false := by
        cases e : t.red
        · rfl
        · have := hr e; rw [show redC (f :: fs) = f.c from rfl, hc] at this; cases this
      exact plug_ok h5 (ok_r.2 ⟨h, h1, htr, h2⟩) (fun _ => h3) (fun e => absurd e h4)
theorem unplug : ∀ {fs : List Fr} {t : Bt}, RB (plug fs t) → ∃ k, ok t k ∧ okC fs k ∧ (t.red = true → redC fs = false) ∧ (fs = [] → t.red = false)
  | [], t, ⟨k, h, hr⟩ => ⟨k, h, trivial, fun _ => rfl, fun _ => hr⟩
  | f :: fs, t, H => by
    obtain ⟨k, h1, h2, h3, h4⟩ := unplug (fs := fs) (t := nd f.s f.c t f.n f.sib) H
    cases hc : f.c
    · rw [hc] at h1
      obtain ⟨j, rfl, g1, g2⟩ := ok_b' h1
      exact ⟨j, g1, (okC_b hc).2 ⟨g2, h2⟩, fun _ => hc, fun e => (by cases e)⟩
    · rw [hc] at h1
      obtain ⟨g1, g2, g3, g4⟩ := ok_r.1 h1
      rw [nd_red] at h3 h4
      exact ⟨k, g1, (okC_r hc).2 ⟨g2, g4, h3 hc, fun e => (by rw [h4 e] at hc; cases hc), h2⟩, fun e => (by rw [g3] at e; cases e), fun e => (by cases e)⟩
theorem dye_self : ∀ {t : Bt}, t.red = false → t.dye false = t
  | .nil, _ => rfl
  | .node false _ _ _, _ => rfl
  | .node true _ _ _, h => by cases h
theorem nd_of {t : Bt} (s : Bool) (h : t.rt ≠ 0) : ∃ c a n b, t = nd s c a n b := by
  cases t with
  | nil => exact absurd rfl h
  | node c l n r => cases s; exact ⟨c, l, n, r, rfl⟩; exact ⟨c, r, n, l, rfl⟩
theorem nd_of_ok {t : Bt} (s : Bool) {k : Nat} (h : ok t (k + 1)) : ∃ c a n b, t = nd s c a n b := by
  cases t with
  | nil => exact absurd h (by simp [ok])
  | node c l n r => cases s; exact ⟨c, l, n, r, rfl⟩; exact ⟨c, r, n, l, rfl⟩
theorem nd_of_red {t : Bt} (s : Bool) (h : t.red = true) : ∃ a n b, t = nd s true a n b := by
  cases t with
  | nil => cases h
  | node c l n r => simp [Bt.red] at h; subst h; cases s; exact ⟨l, n, r, rfl⟩; exact ⟨r, n, l, rfl⟩

/-! ### Paint -/
theorem redH_rt {h : Hp} {p : Int} {t : Bt} (R : Rep h p t) : redH h t.rt = t.red := by
  cases t with
  | nil => rfl
  | node c l n r =>
    obtain ⟨h1, h2, h3, _⟩ := R
    show (n != 0 && h.C n == 1) = c
    rw [h3, show (n != 0) = true from by rw [bne_iff_ne]; exact h1.ne0]
    cases c <;> rfl
theorem paintH_eqn {h : Hp} {n : Int} {c : Bool} {m : Int} (hm : m ≠ n) : Eqn h (paintH h n c) m := by
  unfold paintH; split
  · exact Eqn.refl _ _
  · exact setC_eqn hm
theorem paintH_top {h : Hp} {n : Int} {c : Bool} : (paintH h n c).top = h.top := by unfold paintH; split <;> rfl
/-- Nothing but these leaves was turned. -/
def Out (h h' : Hp) (S : List Int) : Prop := ∀ m, m ≠ 0 → m ∉ S → Eqn h h' m
theorem Out.trans {h h' h'' : Hp} {S : List Int} (a : Out h h' S) (b : Out h' h'' S) : Out h h'' S := fun m h0 hm => (a m h0 hm).trans (b m h0 hm)
theorem Out.refl (h : Hp) (S : List Int) : Out h h S := fun m _ _ => Eqn.refl _ _
theorem plug_mem {fs : List Fr} {t : Bt} {m : Int} : m ∈ (plug fs t).ids ↔ m ∈ idsC fs ∨ m ∈ t.ids := by
  rw [← (perm_plug fs t).mem_iff, List.mem_append]
theorem plug_ids : ∀ (fs : List Fr) {t t' : Bt}, t.ids = t'.ids → (plug fs t).ids = (plug fs t').ids
  | [], _, _, h => h
  | f :: fs, t, t', h => by
    refine plug_ids fs ?_
    cases hs : f.s
    · show t.ids ++ _ = t'.ids ++ _; rw [h]
    · show _ ++ _ :: t.ids = _ ++ _ :: t'.ids; rw [h]

/-- From one tree in links to another one. -/
structure Go_ (h : Hp) (fs : List Fr) (t : Bt) (h' : Hp) (fs' : List Fr) (t' : Bt) : Prop where
  F : Foc h' fs' t'
  ids : (plug fs' t').ids = (plug fs t).ids
  out : Out h h' (plug fs t).ids
theorem Go_.trans {h h' h'' : Hp} {fs fs' fs'' : List Fr} {t t' t'' : Bt} (a : Go_ h fs t h' fs' t') (b : Go_ h' fs' t' h'' fs'' t'') : Go_ h fs t h'' fs'' t'' :=
  ⟨b.F, b.ids.trans a.ids, a.out.trans (by rw [← a.ids]; exact b.out)⟩
theorem Go_.refl {h : Hp} {fs : List Fr} {t : Bt} (F : Foc h fs t) : Go_ h fs t h fs t := ⟨F, rfl, Out.refl _ _⟩
theorem turn_go {h : Hp} {fs : List Fr} {s cx cy : Bool} {a b c : Bt} {x y : Int} (F : Foc h fs (nd s cx a x (nd s cy b y c))) :
    Go_ h fs (nd s cx a x (nd s cy b y c)) (turnH h x s) fs (nd s cy (nd s cx a x b) y c) := by
  obtain ⟨h1, h2⟩ := turn_foc F
  exact ⟨h1, (plug_ids fs (nd_turn s cx cy a b c x y)).symm, fun m h0 hm => h2 m h0 (fun e => hm (plug_mem.2 (.inl e))) (fun e => hm (plug_mem.2 (.inr e)))⟩
theorem paint_go {h : Hp} {fs : List Fr} {t : Bt} (c : Bool) (F : Foc h fs t) (h0 : t.rt ≠ 0) : Go_ h fs t (paintH h t.rt c) fs (t.dye c) := by
  have hd := F.dis (rt_mem h0)
  refine ⟨⟨by rw [dye_rt]; exact F.C.frame (fun m hm => paintH_eqn (fun e => hd (e ▸ hm))) paintH_top, ?_, by rw [dye_ids]; exact F.nd⟩, plug_ids fs (dye_ids c t), fun m _ hm => paintH_eqn (fun e => hm (plug_mem.2 (.inr (e ▸ rt_mem h0))))⟩
  cases t with
  | nil => exact absurd rfl h0
  | node c0 l n r =>
    obtain ⟨h1, h2, h3, h4, h5, h6, h7, h8⟩ := F.T
    have hnd := (nd_nodup (s := false) (c := c0)).1 F.ndT
    have e : paintH h (Bt.node c0 l n r).rt c = h.setC n (cI c) := if_neg h1.ne0
    rw [e]
    exact ⟨h1, h2, if_pos rfl, h4, h5, h6, h7.frame (fun m hm => setC_eqn (fun e => hnd.2.2.1 (e ▸ hm))), h8.frame (fun m hm => setC_eqn (fun e => hnd.2.2.2.1 (e ▸ hm)))⟩
theorem paint_nd {h : Hp} {fs : List Fr} {s c0 : Bool} {a : Bt} {n : Int} {b : Bt} (c : Bool) (F : Foc h fs (nd s c0 a n b)) : Go_ h fs (nd s c0 a n b) (paintH h n c) fs (nd s c a n b) := by
  have h0 : (nd s c0 a n b).rt ≠ 0 := by rw [nd_rt]; exact (Rep_nd.1 F.T).1.ne0
  have := paint_go c F h0
  rw [nd_rt, nd_dye] at this
  exact this
/-- Up and down. -/
theorem go_up {h : Hp} {f : Fr} {fs : List Fr} {t : Bt} (F : Foc h (f :: fs) t) : Go_ h (f :: fs) t h fs (nd f.s f.c t f.n f.sib) := ⟨Foc.up.1 F, rfl, Out.refl _ _⟩
theorem go_down {h : Hp} {s c : Bool} {a : Bt} {n : Int} {b : Bt} {fs : List Fr} (F : Foc h fs (nd s c a n b)) : Go_ h fs (nd s c a n b) h (⟨s, c, n, b⟩ :: fs) a := ⟨Foc.up.2 F, rfl, Out.refl _ _⟩
theorem go_eq {h : Hp} {fs : List Fr} {t t' : Bt} (F : Foc h fs t) (e : t = t') : Go_ h fs t h fs t' := by subst e; exact Go_.refl F
theorem paint_sib {h : Hp} {f : Fr} {fs : List Fr} {t : Bt} (c : Bool) (F : Foc h (f :: fs) t) (h0 : f.sib.rt ≠ 0) : Go_ h (f :: fs) t (paintH h f.sib.rt c) (⟨f.s, f.c, f.n, f.sib.dye c⟩ :: fs) t := by
  have g1 := go_up F
  have g2 := g1.trans (go_eq g1.F (nd_flip ..))
  have g3 := g2.trans (go_down g2.F)
  have g4 := g3.trans (paint_go c g3.F h0)
  have g5 := g4.trans (go_up g4.F)
  have g6 := g5.trans (go_eq g5.F (t' := nd f.s f.c t f.n (f.sib.dye c)) (by rw [nd_flip, Bool.not_not]))
  exact g6.trans (go_down g6.F)
theorem paint_up {h : Hp} {f : Fr} {fs : List Fr} {t : Bt} (c : Bool) (F : Foc h (f :: fs) t) : Go_ h (f :: fs) t (paintH h f.n c) (⟨f.s, c, f.n, f.sib⟩ :: fs) t := by
  have g1 := go_up F
  have g2 := g1.trans (paint_nd c g1.F)
  exact g2.trans (go_down g2.F)

/-! ### Right behind an addition -/
/-- A turn meets leaves. -/
structure Tv (h : Hp) (x : Int) (s : Bool) : Prop where
  hx : isN x
  hy : isN (h.ch (!s) x)
  hp : h.P x = 0 ∨ isN (h.P x)
  hz : (placeH h x (h.ch (!s) x)).ch s (h.ch (!s) x) = 0 ∨ isN ((placeH h x (h.ch (!s) x)).ch s (h.ch (!s) x))
theorem pn_isN {h : Hp} {fs : List Fr} {x : Int} (R : RepC h fs x) : pn fs = 0 ∨ isN (pn fs) := by
  cases fs with
  | nil => exact .inl rfl
  | cons f fs => exact .inr R.1
theorem Tv.of {h : Hp} {fs : List Fr} {s cx cy : Bool} {a b c : Bt} {x y : Int} (F : Foc h fs (nd s cx a x (nd s cy b y c))) : Tv h x s := by
  have hC := F.C
  rw [nd_rt] at hC
  obtain ⟨x1, x2, x3, x4, x5, x6, xa, xy⟩ := Rep_nd.1 F.T
  rw [nd_rt] at x6
  obtain ⟨y1, y2, y3, y4, y5, y6, yb, yc⟩ := Rep_nd.1 xy
  have dx : x ∉ idsC fs := F.dis (nd_mem.2 (.inr (.inl rfl)))
  have dy : y ∉ idsC fs := F.dis (nd_mem.2 (.inr (.inr (nd_mem.2 (.inr (.inl rfl))))))
  obtain ⟨p1, p2, p3, p4, p5⟩ := placeH_C hC x2 x1 dx F.ndC (.inr y1) dy
  refine ⟨x1, by rw [x6]; exact y1, by rw [x2]; exact pn_isN F.C, ?_⟩
  rw [x6, (p3 y dy).2.2 s, y5]
  exact yb.rt

inductive AddedTr : Hp → Int → Hp → Prop
  | done {h : Hp} {x : Int} : isN x → (h.P x = 0 ∨ isN (h.P x)) → redH h (h.P x) = false → isN h.top → AddedTr h x (paintH h h.top false)
  | uncle {h h' : Hp} {x q g u : Int} {s : Bool} : isN x → h.P x = q → isN q → redH h q = true → h.P q = g → isN g → sideH h g q = s → h.ch (!s) g = u → isN u → redH h u = true →
      AddedTr (paintH (paintH (paintH h q false) u false) g true) g h' → AddedTr h x h'
  | outer {h h' : Hp} {x q g u : Int} {s : Bool} : isN x → h.P x = q → isN q → redH h q = true → h.P q = g → isN g → sideH h g q = s → h.ch (!s) g = u → (u = 0 ∨ isN u) → redH h u = false → sideH h q x = s →
      Tv (paintH (paintH h q false) g true) g (!s) → AddedTr (turnH (paintH (paintH h q false) g true) g (!s)) x h' → AddedTr h x h'
  | inner {h h' : Hp} {x q g u : Int} {s : Bool} : isN x → h.P x = q → isN q → redH h q = true → h.P q = g → isN g → sideH h g q = s → h.ch (!s) g = u → (u = 0 ∨ isN u) → redH h u = false → sideH h q x ≠ s →
      Tv h q s → Tv (paintH (paintH (turnH h q s) x false) g true) g (!s) → AddedTr (turnH (paintH (paintH (turnH h q s) x false) g true) g (!s)) q h' → AddedTr h x h'

theorem added_done {h : Hp} {fs : List Fr} {t : Bt} (F : Foc h fs t) (h0 : t.rt ≠ 0) (hr : redC fs = false) (hk : fs = [] ∨ RB (plug fs t)) {k : Nat} (hok : ok t k) (hred : t.red = true) :
    ∃ h' t', AddedTr h t.rt h' ∧ Go_ h fs t h' [] t' ∧ RB t' := by
  have hx : isN t.rt := F.T.isN _ (rt_mem h0)
  have hP : h.P t.rt = pn fs := by
    cases t with
    | nil => exact absurd rfl h0
    | node c l n r => exact F.T.2.1
  have FA := Foc.all.1 F
  have gA : Go_ h fs t h [] (plug fs t) := ⟨FA, rfl, Out.refl _ _⟩
  have hA0 : (plug fs t).rt ≠ 0 := by
    intro e
    have := FA.T.rt0 e
    have hm : t.rt ∈ (plug fs t).ids := plug_mem.2 (.inr (rt_mem h0))
    rw [this] at hm; cases hm
  have htop : h.top = (plug fs t).rt := FA.C
  have g := gA.trans (paint_go false FA hA0)
  refine ⟨_, _, AddedTr.done hx (by rw [hP]; exact pn_isN F.C) ?_ (by rw [htop]; exact FA.T.isN _ (rt_mem hA0)), by rw [htop]; exact g, ?_⟩
  · rw [hP]
    cases fs with
    | nil => rfl
    | cons f fs =>
      obtain ⟨h1, h2, h3, _⟩ := F.C
      have hc : f.c = false := hr
      show (f.n != 0 && h.C f.n == 1) = false
      rw [h3, hc]; simp [cI]
  · rcases hk with rfl | hk
    · show RB (t.dye false)
      obtain ⟨a, n, b, rfl⟩ := nd_of_red false hred
      rw [nd_dye]
      obtain ⟨g1, g2, _⟩ := ok_r.1 hok
      exact ⟨k + 1, ok_b.2 ⟨g1, g2⟩, nd_red ..⟩
    · obtain ⟨k', hk1, hk2⟩ := hk
      rw [dye_self hk2]
      exact ⟨k', hk1, hk2⟩

theorem rt_ne_sib {h : Hp} {f : Fr} {fs : List Fr} {t : Bt} (F : Foc h (f :: fs) t) (h0 : t.rt ≠ 0) : t.rt ≠ f.sib.rt := fun e => by
  have h1 : f.sib.rt ∈ f.sib.ids := rt_mem (e ▸ h0)
  exact F.dis (rt_mem h0) (by rw [e]; simp [idsC, h1])
theorem redH_f {h : Hp} {f : Fr} {fs : List Fr} {x : Int} (R : RepC h (f :: fs) x) : redH h f.n = f.c := by
  obtain ⟨h1, h2, h3, _⟩ := R
  show (f.n != 0 && h.C f.n == 1) = f.c
  rw [h3, show (f.n != 0) = true from by rw [bne_iff_ne]; exact h1.ne0]
  cases f.c <;> rfl

theorem added_foc : ∀ (N : Nat) (fs : List Fr) (h : Hp) (t : Bt) (k : Nat), fs.length ≤ N → Foc h fs t → t.red = true → ok t k → okC fs k → ∃ h' t', AddedTr h t.rt h' ∧ Go_ h fs t h' [] t' ∧ RB t' := by
  intro N
  induction N using Nat.strongRecOn with
  | _ N ih =>
    intro fs h t k hN F hred hk hC
    have h0 : t.rt ≠ 0 := by cases t with
      | nil => cases hred
      | node c l n r => exact F.T.1.ne0
    cases fs with
    | nil => exact added_done F h0 rfl (.inl rfl) hk hred
    | cons f fs =>
      cases hfc : f.c
      · exact added_done F h0 hfc (.inr (plug_ok hC hk (fun _ => hfc) (fun e => by cases e))) hk hred
      · obtain ⟨s1, s2, s3, s4, s5⟩ := (okC_r hfc).1 hC
        cases fs with
        | nil => exact absurd rfl s4
        | cons g fs =>
          have hgc : g.c = false := s3
          obtain ⟨u1, u2⟩ := (okC_b hgc).1 s5
          have hx : isN t.rt := F.T.isN _ (rt_mem h0)
          have hP : h.P t.rt = f.n := by cases t with
            | nil => cases hred
            | node c l n r => exact F.T.2.1
          have FU := Foc.up.1 F
          have hq : isN f.n := F.C.1
          have hPq : h.P f.n = g.n := F.C.2.1
          have hg : isN g.n := FU.C.1
          have hs : sideH h g.n f.n = g.s := by
            have := sideH_of FU.C (by have := rt_ne_sib FU (by rw [nd_rt]; exact hq.ne0); exact this)
            rw [nd_rt] at this; exact this
          have hu : h.ch (!g.s) g.n = g.sib.rt := FU.C.2.2.2.2.2.1
          have hru : redH h g.sib.rt = g.sib.red := redH_rt FU.C.2.2.2.2.2.2.1
          have hrq : redH h f.n = true := (redH_f F.C).trans hfc
          cases hgr : g.sib.red
          · -- the uncle is black
            rw [hgr] at hru
            by_cases hfs : f.s = g.s
            · -- outer
              have hsx : sideH h f.n t.rt = g.s := (sideH_of F.C (rt_ne_sib F h0)).trans hfs
              have g1 := paint_up false F
              have g2 := g1.trans (go_up g1.F)
              have g3 := g2.trans (paint_up true g2.F)
              have g4 := g3.trans (go_up g3.F)
              have g5 := g4.trans (go_eq g4.F (t' := nd (!g.s) true g.sib g.n (nd (!g.s) false f.sib f.n t)) (by
                show nd g.s true (nd f.s false t f.n f.sib) g.n g.sib = _
                rw [nd_flip g.s, nd_flip f.s, hfs]))
              have tv := Tv.of g5.F
              have g6 := g5.trans (turn_go g5.F)
              have g7 := g6.trans (go_eq g6.F (t' := nd g.s false t f.n (nd (!g.s) true g.sib g.n f.sib)) (by rw [nd_flip (!g.s) false, Bool.not_not]))
              have g8 := g7.trans (go_down g7.F)
              obtain ⟨h', t', a1, a2, a3⟩ := ih (fs.length + 1) (by simp at hN; omega) (⟨g.s, false, f.n, nd (!g.s) true g.sib g.n f.sib⟩ :: fs) _ t k (by simp) g8.F hred hk ((okC_b rfl).2 ⟨ok_r.2 ⟨u1, s1, hgr, s2⟩, u2⟩)
              exact ⟨h', t', .outer hx hP hq hrq hPq hg hs hu (FU.C.2.2.2.2.2.2.1.rt) hru hsx tv a1, g8.trans a2, a3⟩
            · -- inner
              have hsx : sideH h f.n t.rt ≠ g.s := by rw [sideH_of F.C (rt_ne_sib F h0)]; exact hfs
              have hfs' : f.s = !g.s := by cases hf : f.s <;> cases hg' : g.s <;> simp_all
              obtain ⟨na, xn, nb, rfl⟩ := nd_of_red g.s hred
              rw [nd_rt] at hP hsx hx h0
              rw [nd_rt]
              obtain ⟨k1, k2, k3, k4⟩ := ok_r.1 hk
              have g1 := go_up F
              have g2 := g1.trans (go_eq g1.F (t' := nd g.s true f.sib f.n (nd g.s true na xn nb)) (by rw [nd_flip f.s, hfs', hfc, Bool.not_not]))
              have tv1 := Tv.of g2.F
              have g3 := g2.trans (turn_go g2.F)
              have g4 := g3.trans (paint_nd false g3.F)
              have g5 := g4.trans (paint_up true g4.F)
              have g6 := g5.trans (go_up g5.F)
              have g7 := g6.trans (go_eq g6.F (t' := nd (!g.s) true g.sib g.n (nd (!g.s) false nb xn (nd g.s true f.sib f.n na))) (by
                show nd g.s true (nd g.s false (nd g.s true f.sib f.n na) xn nb) g.n g.sib = _
                rw [nd_flip g.s true _ g.n, nd_flip g.s false]))
              have tv2 := Tv.of g7.F
              have g8 := g7.trans (turn_go g7.F)
              have g9 := g8.trans (go_eq g8.F (t' := nd g.s false (nd g.s true f.sib f.n na) xn (nd (!g.s) true g.sib g.n nb)) (by rw [nd_flip (!g.s) false, Bool.not_not]))
              have g10 := g9.trans (go_down g9.F)
              obtain ⟨h', t', a1, a2, a3⟩ := ih (fs.length + 1) (by simp at hN; omega) (⟨g.s, false, xn, nd (!g.s) true g.sib g.n nb⟩ :: fs) _ (nd g.s true f.sib f.n na) k (by simp) g10.F (nd_red ..) (ok_r.2 ⟨s1, k1, s2, k3⟩) ((okC_b rfl).2 ⟨ok_r.2 ⟨u1, k2, hgr, k4⟩, u2⟩)
              rw [nd_rt] at a1
              exact ⟨h', t', .inner hx hP hq hrq hPq hg hs hu (FU.C.2.2.2.2.2.2.1.rt) hru hsx tv1 tv2 a1, g10.trans a2, a3⟩
          · -- the uncle is red
            rw [hgr] at hru
            obtain ⟨ua, un, ub, hus⟩ := nd_of_red false hgr
            have hun : g.sib.rt ≠ 0 := by
              intro e
              have := FU.C.2.2.2.2.2.2.1.rt0 e
              rw [this] at hgr; cases hgr
            have g1 := paint_up false F
            have g2 := g1.trans (go_up g1.F)
            have g3 := g2.trans (paint_sib false g2.F hun)
            have g4 := g3.trans (paint_up true g3.F)
            have g5 := g4.trans (go_up g4.F)
            have hku : ok (g.sib.dye false) (k + 1) := by
              rw [hus] at u1 ⊢
              rw [nd_dye]
              obtain ⟨v1, v2, _⟩ := ok_r.1 u1
              exact ok_b.2 ⟨v1, v2⟩
            have hdr : (g.sib.dye false).red = false := by rw [hus, nd_dye, nd_red]
            obtain ⟨h', t', a1, a2, a3⟩ := ih fs.length (by simp at hN; omega) fs _ _ (k + 1) (Nat.le_refl _) g5.F (nd_red ..) (ok_r.2 ⟨ok_b.2 ⟨hk, s1⟩, hku, nd_red .., hdr⟩) u2
            rw [nd_rt] at a1
            exact ⟨h', t', .uncle hx hP hq hrq hPq hg hs hu ((FU.C.2.2.2.2.2.2.1.rt).resolve_left hun) hru a1, g5.trans a2, a3⟩
end Go.Proofs.Ythkppnkhiimaeaa
