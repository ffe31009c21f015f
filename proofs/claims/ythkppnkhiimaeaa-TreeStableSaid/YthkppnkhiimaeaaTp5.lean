/- Trees in links (layer 11), plain: a removal. -/
import Derived.Test.YthkppnkhiimaeaaTp4
set_option linter.unusedVariables false
set_option linter.unusedSimpArgs false
namespace Go.Proofs.Ythkppnkhiimaeaa

/-! ### The leftmost leaf -/
inductive LowTr (h : Hp) : Nat → Int → Int → Prop
  | here {n : Int} : isN n → h.ch false n = 0 → LowTr h 0 n n
  | down {k : Nat} {n y : Int} : isN n → isN (h.ch false n) → LowTr h k (h.ch false n) y → LowTr h (k + 1) n y
theorem low_foc {h : Hp} : ∀ (t : Bt) (fs : List Fr), Foc h fs t → t ≠ .nil → ∃ gs c y x k, LowTr h k t.rt y ∧ t = plug gs (.node c .nil y x) ∧ (∀ g ∈ gs, g.s = false) ∧ k < t.ids.length ∧ Foc h (gs ++ fs) (.node c .nil y x)
  | .nil, fs, F, h0 => absurd rfl h0
  | .node c .nil n r, fs, F, _ => ⟨[], c, n, r, 0, .here F.T.1 F.T.2.2.2.2.1, rfl, fun g hg => (by cases hg), (by simp [Bt.ids]), F⟩
  | .node c (.node c2 l2 n2 r2) n r, fs, F, _ => by
    have hch : h.ch false n = n2 := F.T.2.2.2.2.1
    have F2 : Foc h (⟨false, c, n, r⟩ :: fs) (.node c2 l2 n2 r2) := Foc.up.2 F
    obtain ⟨gs, cy, y, x, k, a1, a2, a3, a4, a5⟩ := low_foc (.node c2 l2 n2 r2) _ F2 (by simp)
    have a1' : LowTr h k (h.ch false n) y := by rw [hch]; exact a1
    have hN : isN (h.ch false n) := by rw [hch]; exact F2.T.1
    refine ⟨gs ++ [⟨false, c, n, r⟩], cy, y, x, k + 1, .down F.T.1 hN a1', ?_, ?_, ?_, ?_⟩
    · rw [plug_app, ← a2]; rfl
    · intro g hg
      rcases List.mem_append.1 hg with hg | hg
      · exact a3 g hg
      · simp at hg; subst hg; rfl
    · simp [Bt.ids] at a4 ⊢; omega
    · rw [List.append_assoc]; exact a5

/-! ### What Remove does ahead of the colors -/
def remMidH (h : Hp) (z y : Int) : Hp := if h.P y = z then h else joinH (placeH h y (h.ch true y)) y true ((placeH h y (h.ch true y)).ch true z)
def remJoinH (h : Hp) (z y : Int) : Hp := joinH (placeH h z y) y false ((placeH h z y).ch false z)
def remEndH (h : Hp) (z y : Int) : Hp := paintH (remJoinH h z y) y (redH (remJoinH h z y) z)
def remPH (h : Hp) (z y : Int) : Int := if h.P y = z then y else h.P y
def Fin_ (h1 : Hp) (red : Bool) (x q : Int) (h' : Hp) : Prop := (red = true ∧ h' = h1) ∨ (red = false ∧ RemovedTr h1 x q h')
inductive RemTr (h : Hp) (z : Int) : Hp → Prop
  | leaf {s : Bool} {h' : Hp} : isN z → h.O z = 8 → (s = true → h.ch false z ≠ 0) → h.ch s z = 0 → (h.ch (!s) z = 0 ∨ isN (h.ch (!s) z)) → (h.P z = 0 ∨ isN (h.P z)) →
      Fin_ (clrH (placeH h z (h.ch (!s) z)) z) (redH h z) (h.ch (!s) z) (h.P z) h' → RemTr h z h'
  | deep {k : Nat} {y : Int} {h' : Hp} : isN z → h.O z = 8 → isN (h.ch false z) → isN (h.ch true z) → k ≤ 60 → LowTr h k (h.ch true z) y → isN y → (h.ch true y = 0 ∨ isN (h.ch true y)) → (h.P y = 0 ∨ isN (h.P y)) → (h.P z = 0 ∨ isN (h.P z)) →
      (h.P y ≠ z → isN (h.P y) ∧ isN ((placeH h y (h.ch true y)).ch true z)) → (h.ch true y = 0 ∨ isN (h.ch true y)) →
      ((remMidH h z y).P z = 0 ∨ isN ((remMidH h z y).P z)) → isN ((placeH (remMidH h z y) z y).ch false z) →
      Fin_ (clrH (remEndH (remMidH h z y) z y) z) (redH h y) (h.ch true y) (remPH h z y) h' → RemTr h z h'

theorem erase_mid {z : Int} {A B : List Int} (h : z ∉ A) : (A ++ z :: B).erase z = A ++ B := by
  rw [List.erase_append_right _ h, List.erase_cons_head]

/-- A leaf with one child at most goes: what is below it comes into its place. -/
theorem leaf_out {h : Hp} {fs : List Fr} {s c : Bool} {z : Int} {sub : Bt} (F : Foc h fs (nd s c .nil z sub)) :
    Foc (placeH h z sub.rt) fs sub ∧ (∀ m, m ∉ idsC fs → m ≠ sub.rt → Eqn h (placeH h z sub.rt) m) ∧ (∀ m, m ∉ idsC fs → EqP h (placeH h z sub.rt) m) := by
  obtain ⟨z1, z2, z3, z4, z5, z6, _, rs⟩ := Rep_nd.1 F.T
  have hC := F.C
  rw [nd_rt] at hC
  have dz : z ∉ idsC fs := F.dis (nd_mem.2 (.inr (.inl rfl)))
  have ds : ∀ m ∈ sub.ids, m ∉ idsC fs := fun m hm => F.dis (nd_mem.2 (.inr (.inr hm)))
  obtain ⟨_, ns, _, nz, _⟩ := nd_nodup.1 F.ndT
  have drt : sub.rt ∉ idsC fs := fun e => by
    have h0 : sub.rt ≠ 0 := (F.C.isN _ e).ne0
    exact ds _ (rt_mem h0) e
  obtain ⟨p1, p2, p3, p4, p5⟩ := placeH_C hC z2 z1 dz F.ndC rs.rt drt
  refine ⟨⟨p1, rs.repar ns p2 (fun m hm => p3 m (ds m hm)) (fun m hm hne => p4 m hne), ?_⟩, p5, p3⟩
  rw [List.nodup_append]
  exact ⟨F.ndC, ns, fun a ha b hb e => ds b hb (e ▸ ha)⟩

/-- One leaf comes into another one's place, with its color, its left child; that one is cleared. -/
theorem swap_in {h : Hp} {fs : List Fr} {z y : Int} {cz : Bool} {l r : Bt} (hC : RepC h fs z) (hP : h.P z = pn fs) (hz : isN z) (hc : h.C z = cI cz) (hl : h.ch false z = l.rt) (Rl : Rep h z l) (hl0 : l.rt ≠ 0)
    (hy : isN y) (hr : h.ch true y = r.rt) (hO : h.O y = 8) (Rr : Rep h y r) (hnd : (idsC fs ++ (z :: y :: (l.ids ++ r.ids))).Nodup) :
    Foc (clrH (remEndH h z y) z) fs (.node cz l y r) ∧ (∀ m, m ≠ 0 → m ∉ idsC fs → m ≠ z → m ≠ y → m ∉ l.ids → Eqn h (clrH (remEndH h z y) z) m) ∧ (placeH h z y).ch false z = l.rt := by
  rw [List.nodup_append, List.nodup_cons, List.nodup_cons, List.nodup_append] at hnd
  obtain ⟨nC, ⟨nz, ny, nl, nr, nlr⟩, nd3⟩ := hnd
  simp only [List.mem_cons, List.mem_append, not_or] at nz ny
  have dz : z ∉ idsC fs := fun e => nd3 z e z (by simp) rfl
  have dy : y ∉ idsC fs := fun e => nd3 y e y (by simp) rfl
  have dl : ∀ m ∈ l.ids, m ∉ idsC fs := fun m hm e => nd3 m e m (by simp [hm]) rfl
  have dr : ∀ m ∈ r.ids, m ∉ idsC fs := fun m hm e => nd3 m e m (by simp [hm]) rfl
  obtain ⟨p1, p2, p3, p4, p5⟩ := placeH_C hC hP hz dz nC (.inr hy) dy
  have hlz : (placeH h z y).ch false z = l.rt := ((p3 z dz).2.2 false).trans hl
  have hlm := rt_mem hl0
  have e1 : y ≠ l.rt := fun e => ny.1 (e ▸ hlm)
  have e2 : z ≠ l.rt := fun e => nz.2.1 (e ▸ hlm)
  have ej : remJoinH h z y = joinH (placeH h z y) y false l.rt := by unfold remJoinH; rw [hlz]
  have hcz : redH (remJoinH h z y) z = cz := by
    rw [ej]
    show (z != 0 && (joinH (placeH h z y) y false l.rt).C z == 1) = cz
    rw [joinH_C, (p3 z dz).1, hc, show (z != 0) = true from by rw [bne_iff_ne]; exact hz.ne0]
    cases cz <;> rfl
  have ee : remEndH h z y = (joinH (placeH h z y) y false l.rt).setC y (cI cz) := by
    unfold remEndH
    rw [hcz, ej]
    exact if_neg hy.ne0
  have key : ∀ m, m ∉ idsC fs → m ≠ z → m ≠ y → m ≠ l.rt → Eqn h (clrH (remEndH h z y) z) m := fun m hm h1 h2 h3 => by
    rw [ee]; exact (p5 m hm h2).trans ((joinH_eqn h2 h3).trans ((setC_eqn h2).trans (clrH_eqn h1)))
  have keyp : ∀ m, m ∉ idsC fs → m ≠ z → m ≠ y → EqP h (clrH (remEndH h z y) z) m := fun m hm h1 h2 => by
    rw [ee]; exact (p3 m hm).trans ((joinH_eqp h2).trans ((setC_eqn h2).2.trans (clrH_eqn h1).2))
  have at_y : ∀ m, m = y → Eqn ((joinH (placeH h z y) y false l.rt).setC y (cI cz)) (clrH (remEndH h z y) z) m := fun m hm => by rw [ee]; exact clrH_eqn (fun e => nz.1 (e ▸ hm))
  obtain ⟨y1, y2, y3, y4⟩ := at_y y rfl
  refine ⟨⟨?_, ⟨hy, ?_, ?_, ?_, ?_, ?_, ?_, ?_⟩, ?_⟩, ?_, hlz⟩
  · refine p1.frame (fun m hm => ?_) (by rw [ee]; exact joinH_top)
    have h1 : m ≠ z := fun e => dz (e ▸ hm)
    have h2 : m ≠ y := fun e => dy (e ▸ hm)
    have h3 : m ≠ l.rt := fun e => dl _ hlm (e ▸ hm)
    rw [ee]; exact (joinH_eqn h2 h3).trans ((setC_eqn h2).trans (clrH_eqn h1))
  · exact y1.trans ((joinH_Pne e1).trans (p2 hy.ne0))
  · exact y2.trans (if_pos rfl)
  · exact y3.trans (joinH_O.trans ((p3 y dy).2.1.trans hO))
  · exact (y4 false).trans joinH_ch
  · exact (y4 true).trans ((joinH_chne (.inl (by decide))).trans (((p3 y dy).2.2 true).trans hr))
  · refine Rl.repar nl (fun _ => ?_) (fun m hm => keyp m (dl m hm) (fun e => nz.2.1 (e ▸ hm)) (fun e => ny.1 (e ▸ hm))) (fun m hm hne => ?_)
    · rw [ee]
      exact ((clrH_eqn (fun e => e2 e.symm)).1).trans (((setC_eqn (fun e => e1 e.symm)).1).trans (joinH_P hl0))
    · exact (key m (dl m hm) (fun e => nz.2.1 (e ▸ hm)) (fun e => ny.1 (e ▸ hm)) hne).1
  · exact Rr.frame (fun m hm => key m (dr m hm) (fun e => nz.2.2 (e ▸ hm)) (fun e => ny.2 (e ▸ hm)) (fun e => nlr m (e ▸ hlm) m hm rfl))
  · show (idsC fs ++ (l.ids ++ y :: r.ids)).Nodup
    rw [List.nodup_append]
    refine ⟨nC, (nd_nodup (s := false) (c := cz)).2 ⟨nl, nr, ny.1, ny.2, fun m hm hm2 => nlr m hm m hm2 rfl⟩, fun a ha b hb e => ?_⟩
    subst e
    rcases List.mem_append.1 hb with hb | hb
    · exact dl a hb ha
    · rcases List.mem_cons.1 hb with rfl | hb
      · exact dy ha
      · exact dr a hb ha
  · intro m h0 h1 h2 h3 h4
    exact key m h1 h2 h3 (fun e => h4 (e ▸ hlm))

/-- The rules don't hang on which leaf it is. -/
theorem redC_name : ∀ (gs : List Fr) (s c : Bool) (n n' : Int) (b : Bt) (fs : List Fr), redC (gs ++ ⟨s, c, n, b⟩ :: fs) = redC (gs ++ ⟨s, c, n', b⟩ :: fs)
  | [], _, _, _, _, _, _ => rfl
  | g :: gs, _, _, _, _, _, _ => rfl
theorem okC_name : ∀ (gs : List Fr) (s c : Bool) (n n' : Int) (b : Bt) (fs : List Fr) (k : Nat), okC (gs ++ ⟨s, c, n, b⟩ :: fs) k → okC (gs ++ ⟨s, c, n', b⟩ :: fs) k
  | [], s, c, n, n', b, fs, k, h => by
    cases c
    · exact (okC_b rfl).2 ((okC_b (f := ⟨s, false, n, b⟩) rfl).1 h)
    · exact (okC_r rfl).2 ((okC_r (f := ⟨s, true, n, b⟩) rfl).1 h)
  | g :: gs, s, c, n, n', b, fs, k, h => by
    cases hc : g.c
    · obtain ⟨h1, h2⟩ := (okC_b hc).1 h
      exact (okC_b hc).2 ⟨h1, okC_name gs s c n n' b fs _ h2⟩
    · obtain ⟨h1, h2, h3, h4, h5⟩ := (okC_r hc).1 h
      exact (okC_r hc).2 ⟨h1, h2, by have := redC_name gs s c n n' b fs; exact this.symm.trans h3, by simp, okC_name gs s c n n' b fs _ h5⟩
/-- What is handed on to the colors, if a leaf with one child at most went. -/
theorem leaf_next {fs : List Fr} {s : Bool} {z : Int} {c : Bool} {sub : Bt} (H : RB (plug fs (nd s c .nil z sub))) : (c = true → RB (plug fs sub)) ∧ (c = false → Nx fs sub 0) ∧ ∃ k, okC fs k := by
  obtain ⟨k, h1, h2, h3, h4⟩ := unplug H
  refine ⟨fun e => ?_, fun e => ?_, k, h2⟩
  · subst e
    obtain ⟨g1, g2, g3, g4⟩ := ok_r.1 h1
    exact plug_ok h2 g2 (fun e => by rw [g4] at e; cases e) (fun _ => g4)
  · subst e
    obtain ⟨j, rfl, g1, g2⟩ := ok_b' h1
    obtain rfl : j = 0 := g1
    refine ⟨h2, ?_⟩
    cases hr : sub.red
    · exact .inr ⟨rfl, g2⟩
    · refine .inl ⟨rfl, ?_⟩
      obtain ⟨a, m, b, rfl⟩ := nd_of_red false hr
      rw [nd_dye]
      obtain ⟨v1, v2, _⟩ := ok_r.1 g2
      exact ok_b.2 ⟨v1, v2⟩
theorem fin_of {h : Hp} {fs : List Fr} {sub : Bt} {c : Bool} (F : Foc h fs sub) (h1 : c = true → RB (plug fs sub)) (h2 : c = false → Nx fs sub 0) : ∃ h' t', Fin_ h c sub.rt (pn fs) h' ∧ Go_ h fs sub h' [] t' ∧ RB t' := by
  cases c
  · obtain ⟨h', t', a1, a2, a3⟩ := removed_foc fs.length fs h sub 0 (Nat.le_refl _) F (h2 rfl)
    exact ⟨h', t', .inr ⟨rfl, a1⟩, a2, a3⟩
  · exact ⟨h, _, .inl ⟨rfl, rfl⟩, go_all F, h1 rfl⟩
theorem find_leaf : ∀ (t : Bt) (z : Int), z ∈ t.ids → ∃ fs c l r, t = plug fs (.node c l z r)
  | .nil, z, h => by cases h
  | .node c l n r, z, h => by
    simp [Bt.ids] at h
    rcases h with h | rfl | h
    · obtain ⟨fs, c', l', r', e⟩ := find_leaf l z h
      exact ⟨fs ++ [⟨false, c, n, r⟩], c', l', r', by rw [plug_app, ← e]; rfl⟩
    · exact ⟨[], c, l, r, rfl⟩
    · obtain ⟨fs, c', l', r', e⟩ := find_leaf r z h
      exact ⟨fs ++ [⟨true, c, n, l⟩], c', l', r', by rw [plug_app, ← e]; rfl⟩
theorem pre_app : ∀ (gs fs : List Fr), (∀ g ∈ gs, g.s = false) → pre (gs ++ fs) = pre fs
  | [], _, _ => rfl
  | g :: gs, fs, h => by
    show (if g.s then _ else pre (gs ++ fs)) = _
    rw [if_neg (by rw [h g (List.mem_cons_self ..)]; decide), pre_app gs fs (fun x hx => h x (List.mem_cons_of_mem _ hx))]

/-- What holds behind a removal. -/
structure Gone (h : Hp) (t : Bt) (z : Int) (h' : Hp) (t' : Bt) : Prop where
  F : Foc h' [] t'
  rb : RB t'
  ids : t'.ids = t.ids.erase z
  out : ∀ m, m ≠ 0 → m ∉ t.ids → Eqn h h' m
  free : Free h' z

theorem rem_leaf {h : Hp} {fs : List Fr} {s c : Bool} {z : Int} {sub : Bt} (F : Foc h fs (nd s c .nil z sub)) (hr : RB (plug fs (nd s c .nil z sub))) (hs : s = true → h.ch false z ≠ 0) :
    ∃ h' t', RemTr h z h' ∧ Gone h (plug fs (nd s c .nil z sub)) z h' t' := by
  obtain ⟨z1, z2, z3, z4, z5, z6, _, rs⟩ := Rep_nd.1 F.T
  obtain ⟨F1, o1, _⟩ := leaf_out F
  have dz : z ∉ idsC fs := F.dis (nd_mem.2 (.inr (.inl rfl)))
  obtain ⟨_, ns, _, nz, _⟩ := nd_nodup.1 F.ndT
  have F2 := clr_foc F1 dz nz
  obtain ⟨l1, l2, _⟩ := leaf_next hr
  obtain ⟨h', t', a1, a2, a3⟩ := fin_of F2 l1 l2
  have hrz : redH h z = c := by have := redH_rt F.T; rw [nd_rt, nd_red] at this; exact this
  have hzp : z ∉ (plug fs sub).ids := fun e => (plug_mem.1 e).elim dz nz
  refine ⟨h', t', .leaf (s := s) z1 z4 hs z5 (by rw [z6]; exact rs.rt) (by rw [z2]; exact pn_isN F.C) (by rw [z6, z2, hrz]; exact a1), a2.F, a3, ?_, fun m h0 hm => ?_, (clr_free _ z).eqn (a2.out z z1.ne0 hzp)⟩
  · have e1 := a2.ids
    rw [show plug [] t' = t' from rfl] at e1
    rw [e1, plug_io, plug_io]
    have zp : z ∉ pre fs := fun e => dz ((by
      have : z ∈ (plug fs Bt.nil).ids := by rw [plug_io]; simp [e]
      exact (plug_mem.1 this).resolve_right (fun e => by cases e)))
    cases s
    · show pre fs ++ sub.ids ++ post fs = (pre fs ++ ([] ++ z :: sub.ids) ++ post fs).erase z
      rw [List.nil_append, List.append_assoc, List.append_assoc]
      exact (erase_mid zp).symm
    · show pre fs ++ sub.ids ++ post fs = (pre fs ++ (sub.ids ++ z :: []) ++ post fs).erase z
      have hzs : z ∉ pre fs ++ sub.ids := by simp [zp, nz]
      have := erase_mid (A := pre fs ++ sub.ids) (B := post fs) hzs
      simpa [List.append_assoc] using this.symm
  · have hmm : m ∉ idsC fs ∧ m ∉ sub.ids ∧ m ≠ z := by
      refine ⟨fun e => hm (plug_mem.2 (.inl e)), fun e => hm (plug_mem.2 (.inr (nd_mem.2 (.inr (.inr e))))), fun e => hm (plug_mem.2 (.inr (nd_mem.2 (.inr (.inl e)))))⟩
    refine (o1 m hmm.1 (fun e => hmm.2.1 (e ▸ rt_mem (e ▸ h0)))).trans ((clrH_eqn hmm.2.2).trans (a2.out m h0 (fun e => ?_)))
    exact (plug_mem.1 e).elim hmm.1 hmm.2.1

theorem rem_deep {h : Hp} {fs : List Fr} {c : Bool} {z : Int} {l r : Bt} (F : Foc h fs (.node c l z r)) (hr : RB (plug fs (.node c l z r))) (hl0 : l.rt ≠ 0) (hr0 : r.rt ≠ 0) (hlen : r.ids.length ≤ 60) :
    ∃ h' t', RemTr h z h' ∧ Gone h (plug fs (.node c l z r)) z h' t' := by
  obtain ⟨z1, z2, z3, z4, z5, z6, Rl, Rr⟩ := F.T
  have Fr_ : Foc h (⟨true, c, z, l⟩ :: fs) r := Foc.up.2 F
  obtain ⟨gs, cy, y, x, k, a1, a2, a3, a4, a5⟩ := low_foc r _ Fr_ (fun e => hr0 (by rw [e]; rfl))
  have hall : plug fs (.node c l z r) = plug (gs ++ ⟨true, c, z, l⟩ :: fs) (.node cy .nil y x) := by rw [plug_app, ← a2]; rfl
  have hT := a5.T
  obtain ⟨y1, y2, y3, y4, y5, y6, _, Rx⟩ := hT
  have hy : isN y := y1
  have hry : redH h y = cy := redH_rt (t := .node cy .nil y x) a5.T
  have hnd := a5.nd
  -- the ids of the part
  have hrids : r.ids = y :: (plug gs x).ids := by
    rw [a2, plug_io, plug_io]
    have := pre_app gs [] a3
    rw [List.append_nil] at this
    rw [this]
    rfl
  have hndF := F.nd
  rw [show (Bt.node c l z r).ids = l.ids ++ z :: r.ids from rfl, hrids] at hndF
  have hndS : (idsC fs ++ (z :: y :: (l.ids ++ (plug gs x).ids))).Nodup := by
    refine (List.Perm.nodup_iff ?_).1 hndF
    refine List.Perm.append_left _ ?_
    refine List.perm_middle.trans (List.Perm.cons _ ?_)
    exact List.perm_middle
  have hz_ : z ∉ idsC fs ∧ z ≠ y ∧ z ∉ l.ids ∧ z ∉ (plug gs x).ids := by
    rw [List.nodup_append, List.nodup_cons] at hndS
    obtain ⟨_, ⟨n1, _⟩, n3⟩ := hndS
    simp only [List.mem_cons, List.mem_append, not_or] at n1
    exact ⟨fun e => n3 z e z (by simp) rfl, n1.1, n1.2.1, n1.2.2⟩
  have hy_ : y ∉ idsC fs ∧ y ∉ l.ids ∧ y ∉ (plug gs x).ids := by
    rw [List.nodup_append, List.nodup_cons, List.nodup_cons] at hndS
    obtain ⟨_, ⟨_, n1, _⟩, n3⟩ := hndS
    simp only [List.mem_append, not_or] at n1
    exact ⟨fun e => n3 y e y (by simp) rfl, n1.1, n1.2⟩
  -- ahead of the swap
  have mid : ∃ h2 r1, h2 = remMidH h z y ∧ r1 = plug gs x ∧ RepC h2 fs z ∧ h2.P z = pn fs ∧ h2.C z = cI c ∧ h2.ch false z = l.rt ∧ Rep h2 z l ∧ h2.ch true y = r1.rt ∧ h2.O y = 8 ∧ Rep h2 y r1 ∧
      (h.P y ≠ z → isN (h.P y) ∧ isN ((placeH h y (h.ch true y)).ch true z)) ∧ (∀ m, m ≠ 0 → m ∉ idsC fs → m ≠ z → m ≠ y → m ∉ l.ids → m ∉ (plug gs x).ids → Eqn h h2 m) ∧ (gs = [] ↔ h.P y = z) := by
    have hPy : h.P y = pn (gs ++ ⟨true, c, z, l⟩ :: fs) := y2
    cases gs with
    | nil =>
      have hPz : h.P y = z := hPy
      refine ⟨h, x, by unfold remMidH; rw [if_pos hPz], rfl, F.C, z2, z3, z5, Rl, y6, y4, Rx, fun e => absurd hPz e, fun m _ _ _ _ _ _ => Eqn.refl _ _, by simp [hPz]⟩
    | cons g gs =>
      have hgz : h.P y = g.n := hPy
      have hgN : isN g.n := a5.C.1
      have hgm : g.n ∈ (plug (g :: gs) x).ids := plug_mem.2 (.inl (by simp [idsC]))
      have hne : h.P y ≠ z := by rw [hgz]; exact fun e => hz_.2.2.2 (e ▸ hgm)
      obtain ⟨F1, o1, p1⟩ := leaf_out (s := false) (c := cy) (z := y) (sub := x) a5
      -- the part, as it hangs below z
      have F1' : Foc (placeH h y x.rt) ([] ++ (g :: gs) ++ ⟨true, c, z, l⟩ :: fs) x := F1
      have FA := Foc.all.1 F1
      rw [plug_app] at FA
      have F3 : Foc (placeH h y x.rt) (⟨true, c, z, l⟩ :: fs) (plug (g :: gs) x) := Foc.all.2 FA
      have hchz : (placeH h y x.rt).ch true z = (plug (g :: gs) x).rt := F3.C.2.2.2.2.1
      have hr1 : (plug (g :: gs) x).rt ∈ idsC (g :: gs) := plug_rt gs g x
      have hr1m : (plug (g :: gs) x).rt ∈ (plug (g :: gs) x).ids := plug_mem.2 (.inl hr1)
      have hr1N : isN (plug (g :: gs) x).rt := F3.T.isN _ hr1m
      have yx : y ≠ x.rt := fun e => hy_.2.2 (plug_mem.2 (.inr (e ▸ rt_mem (e ▸ hy.ne0))))
      have dyc : y ∉ idsC (g :: gs ++ ⟨true, c, z, l⟩ :: fs) := a5.dis (by simp [Bt.ids])
      have ey := o1 y dyc yx
      have eM : remMidH h z y = joinH (placeH h y x.rt) y true (plug (g :: gs) x).rt := by unfold remMidH; rw [if_neg hne, y6, hchz]
      have key : ∀ m, m ≠ y → m ≠ (plug (g :: gs) x).rt → Eqn (placeH h y x.rt) (remMidH h z y) m := fun m h1 h2 => by rw [eM]; exact joinH_eqn h1 h2
      have hzr : z ≠ (plug (g :: gs) x).rt := fun e => hz_.2.2.2 (e ▸ hr1m)
      have kz := key z hz_.2.1 hzr
      obtain ⟨f1, f2, f3, f4, f5, f6, f7, f8⟩ := F3.C
      refine ⟨_, _, rfl, rfl, ?_, kz.1.trans f2, kz.2.1.trans f3, (kz.2.2.2 false).trans f6, ?_, ?_, ?_, ?_, fun _ => ⟨by rw [hgz]; exact hgN, by rw [y6, hchz]; exact hr1N⟩, ?_, by simp [hne]⟩
      · exact f8.frame (fun m hm => key m (fun e => hy_.1 (e ▸ hm)) (fun e => F3.dis hr1m (by simp [idsC, ← e, hm]))) (by rw [eM]; exact joinH_top)
      · exact f7.frame (fun m hm => key m (fun e => hy_.2.1 (e ▸ hm)) (fun e => F3.dis hr1m (by rw [← e]; simp [idsC, hm])))
      · rw [eM]; exact joinH_ch
      · rw [eM]; exact joinH_O.trans (ey.2.2.1.trans y4)
      · refine F3.T.repar F3.ndT (fun _ => ?_) (fun m hm => ?_) (fun m hm hne2 => ?_)
        · rw [eM]; exact joinH_P hr1N.ne0
        · rw [eM]; exact joinH_eqp (fun e => hy_.2.2 (e ▸ hm))
        · rw [eM]; exact joinH_Pne hne2
      · intro m h0 h1 h2 h3 h4 h5
        have h6 : m ∉ idsC (g :: gs ++ ⟨true, c, z, l⟩ :: fs) := by
          intro e
          have : m ∈ (plug (g :: gs ++ ⟨true, c, z, l⟩ :: fs) Bt.nil).ids := plug_mem.2 (.inl e)
          rw [plug_app] at this
          rcases plug_mem.1 this with e | e
          · simp only [idsC, List.mem_cons, List.mem_append] at e
            rcases e with e | e | e
            · exact h2 e
            · exact h4 e
            · exact h1 e
          · rcases plug_mem.1 e with e | e
            · exact h5 (plug_mem.2 (.inl e))
            · cases e
        refine (o1 m h6 (fun e => h5 (plug_mem.2 (.inr (e ▸ rt_mem (e ▸ h0)))))).trans (key m h3 (fun e => h5 (e ▸ hr1m)))
  obtain ⟨h2, r1, rfl, rfl, m1, m2, m3, m4, m5, m6, m7, m8, m9, m10, m11⟩ := mid
  obtain ⟨F5, o5, e5⟩ := swap_in m1 m2 z1 m3 m4 m5 hl0 hy m6 m7 m8 hndS
  have F6 : Foc _ (⟨true, c, y, l⟩ :: fs) (plug gs x) := Foc.up.2 F5
  have F7 : Foc _ (gs ++ ⟨true, c, y, l⟩ :: fs) x := Foc.all.2 (by rw [plug_app]; exact Foc.all.1 F6)
  rw [hall] at hr
  obtain ⟨l1, l2, _⟩ := leaf_next (s := false) (c := cy) (sub := x) hr
  have hpn : remPH h z y = pn (gs ++ ⟨true, c, y, l⟩ :: fs) := by
    unfold remPH
    by_cases hg : gs = []
    · rw [if_pos (m11.1 hg), hg]; rfl
    · rw [if_neg (fun e => hg (m11.2 e))]
      cases gs with
      | nil => exact absurd rfl hg
      | cons g gs => exact y2
  have hrb2 : cy = true → RB (plug (gs ++ ⟨true, c, y, l⟩ :: fs) x) := fun e => by
    subst e
    obtain ⟨k0, u1, u2, u3, u4⟩ := unplug hr
    obtain ⟨v1, v2, v3, v4⟩ := (ok_r (s := false) (a := .nil) (b := x) (n := y)).1 u1
    exact plug_ok (okC_name gs true c z y l fs _ u2) v2 (fun e => by rw [v4] at e; cases e) (fun _ => v4)
  have hnx2 : cy = false → Nx (gs ++ ⟨true, c, y, l⟩ :: fs) x 0 := fun e => ⟨okC_name gs true c z y l fs _ (l2 e).1, (l2 e).2⟩
  obtain ⟨h', t', b1, b2, b3⟩ := fin_of F7 hrb2 hnx2
  have hrz : (remMidH h z y).P z = 0 ∨ isN ((remMidH h z y).P z) := by rw [m2]; exact pn_isN F.C
  have hxx : h.ch true y = 0 ∨ isN (h.ch true y) := by rw [y6]; exact Rx.rt
  have hids2 : (plug (gs ++ ⟨true, c, y, l⟩ :: fs) x).ids = pre fs ++ (l.ids ++ r.ids) ++ post fs := by
    rw [plug_app, hrids]
    show (plug fs (.node c l y (plug gs x))).ids = _
    rw [plug_io]; rfl
  have hzp : z ∉ (plug (gs ++ ⟨true, c, y, l⟩ :: fs) x).ids := by
    rw [plug_app]
    intro e
    rcases plug_mem.1 e with e | e
    · simp only [idsC, List.mem_cons, List.mem_append] at e
      rcases e with e | e | e
      · exact hz_.2.1 e
      · exact hz_.2.2.1 e
      · exact hz_.1 e
    · exact hz_.2.2.2 e
  refine ⟨h', t', .deep (k := k) (y := y) z1 z4 (by rw [z5]; exact (Rl.rt).resolve_left hl0) (by rw [z6]; exact (Rr.rt).resolve_left hr0) (by omega) (by rw [z6]; exact a1) hy hxx (by rw [y2]; exact pn_isN a5.C) (by rw [z2]; exact pn_isN F.C) m9 hxx hrz (by rw [e5]; exact (Rl.rt).resolve_left hl0) ?_, b2.F, b3, ?_, fun m h0 hm => ?_, (clr_free _ z).eqn (b2.out z z1.ne0 hzp)⟩
  · rw [hry, y6, hpn]; exact b1
  · have e1 := b2.ids
    rw [show plug [] t' = t' from rfl] at e1
    rw [e1, hids2, plug_io]
    have zp : z ∉ pre fs := fun e => hz_.1 ((by
      have : z ∈ (plug fs Bt.nil).ids := by rw [plug_io]; simp [e]
      exact (plug_mem.1 this).resolve_right (fun e => by cases e)))
    show pre fs ++ (l.ids ++ r.ids) ++ post fs = (pre fs ++ (l.ids ++ z :: r.ids) ++ post fs).erase z
    rw [← List.append_assoc (pre fs), ← List.append_assoc (pre fs), List.append_assoc (pre fs ++ l.ids), List.append_assoc (pre fs ++ l.ids)]
    exact (erase_mid (by simp [zp, hz_.2.2.1])).symm
  · have hmm : m ∉ idsC fs ∧ m ∉ l.ids ∧ m ≠ z ∧ m ∉ r.ids := by
      refine ⟨fun e => hm (plug_mem.2 (.inl e)), fun e => hm (plug_mem.2 (.inr (by simp [Bt.ids, e]))), fun e => hm (plug_mem.2 (.inr (by simp [Bt.ids, e]))), fun e => hm (plug_mem.2 (.inr (by simp [Bt.ids, e])))⟩
    rw [hrids] at hmm
    simp only [List.mem_cons, not_or] at hmm
    obtain ⟨q1, q2, q3, q4, q5⟩ := hmm
    refine (m10 m h0 q1 q3 q4 q2 q5).trans ((o5 m h0 q1 q3 q4 q2).trans (b2.out m h0 (fun e => ?_)))
    rw [plug_app] at e
    rcases plug_mem.1 e with e | e
    · simp only [idsC, List.mem_cons, List.mem_append] at e
      rcases e with e | e | e
      · exact q4 e
      · exact q2 e
      · exact q1 e
    · exact q5 e

theorem rem_foc {h : Hp} {t : Bt} {z : Int} (F : Foc h [] t) (hr : RB t) (hz : z ∈ t.ids) (hlen : t.ids.length ≤ 60) : ∃ h' t', RemTr h z h' ∧ Gone h t z h' t' := by
  obtain ⟨fs, c, l, r, rfl⟩ := find_leaf t z hz
  have Ff : Foc h fs (.node c l z r) := Foc.all.2 F
  by_cases hl : l.rt = 0
  · have : l = .nil := Ff.T.2.2.2.2.2.2.1.rt0 hl
    subst this
    exact rem_leaf (s := false) Ff hr (fun e => by cases e)
  · by_cases hr0 : r.rt = 0
    · have : r = .nil := Ff.T.2.2.2.2.2.2.2.rt0 hr0
      subst this
      exact rem_leaf (s := true) Ff hr (fun _ => by rw [Ff.T.2.2.2.2.1]; exact hl)
    · refine rem_deep Ff hr hl hr0 ?_
      have : (plug fs (.node c l z r)).ids.length = (pre fs).length + (l.ids.length + (r.ids.length + 1)) + (post fs).length := by rw [plug_io]; simp [Bt.ids]; omega
      omega
end Go.Proofs.Ythkppnkhiimaeaa
