/- Lemmas of the claim TreePlays. -/
import Derived.Test.YthkppnkhiimaeaaTp7
/- Trees in links (layer 11), plain: none; the example's three leaves; how many, how deep. -/
set_option linter.unusedVariables false
set_option linter.unusedSimpArgs false
namespace Go.Proofs.Ythkppnkhiimaeaa
def hp0 : Hp := ⟨fun _ _ => 0, fun _ => 0, fun _ => 0, fun _ => 0, 0⟩
theorem foc0 : Foc hp0 [] .nil := ⟨rfl, trivial, by simp [idsC, Bt.ids]⟩
theorem free0 (n : Int) : Free hp0 n := ⟨rfl, rfl, rfl, fun _ => rfl⟩
theorem rb0 : RB .nil := ⟨0, rfl, rfl⟩
theorem added_done' {h : Hp} {fs : List Fr} {t : Bt} (F : Foc h fs t) (h0 : t.rt ≠ 0) (hr : redC fs = false) : ∃ h', AddedTr h t.rt h' ∧ Go_ h fs t h' [] ((plug fs t).dye false) := by
  have hx : isN t.rt := F.T.isN _ (rt_mem h0)
  have hP : h.P t.rt = pn fs := by
    cases t with
    | nil => exact absurd rfl h0
    | node c l n r => exact F.T.2.1
  have FA := Foc.all.1 F
  have hA0 : (plug fs t).rt ≠ 0 := by
    intro e
    have := FA.T.rt0 e
    have hm : t.rt ∈ (plug fs t).ids := plug_mem.2 (.inr (rt_mem h0))
    rw [this] at hm; cases hm
  have htop : h.top = (plug fs t).rt := FA.C
  refine ⟨_, AddedTr.done hx (by rw [hP]; exact pn_isN F.C) ?_ (by rw [htop]; exact FA.T.isN _ (rt_mem hA0)), by rw [htop]; exact (go_all F).trans (paint_go false FA hA0)⟩
  rw [hP]
  cases fs with
  | nil => rfl
  | cons f fs => exact (redH_f F.C).trans hr
def t1 : Bt := .node false .nil 32 .nil
def t2 : Bt := .node false .nil 32 (.node true .nil 64 .nil)
def t3 : Bt := .node false (.node true .nil 32 .nil) 64 (.node true .nil 96 .nil)
def t4 : Bt := .node false (.node true .nil 32 .nil) 96 .nil
theorem isN32 : isN 32 := by decide
theorem isN64 : isN 64 := by decide
theorem isN96 : isN 96 := by decide
theorem example_runs {key : Int → Int} (k1 : key 32 = 1) (k2 : key 64 = 2) (k3 : key 96 = 3) :
    ∃ h1 h2 h3 h4, AddTr hp0 key 32 h1 ∧ Foc h1 [] t1 ∧ AddTr h1 key 64 h2 ∧ Foc h2 [] t2 ∧ AddTr h2 key 96 h3 ∧ Foc h3 [] t3 ∧ RemTr h3 64 h4 ∧ Foc h4 [] t4 ∧ h1.O 64 = 0 ∧ h2.O 96 = 0 := by
  -- the first
  obtain ⟨a1, a2⟩ := att_foc (s := false) foc0 isN32 (by simp [idsC]) (fun f hf => by cases hf)
  obtain ⟨h1, b1, b2⟩ := added_done' a1 (by decide) rfl
  have A1 : AddTr hp0 key 32 h1 := .mk isN32 (.inl rfl) (.inl rfl) .done b1
  have F1 : Foc h1 [] t1 := b2.F
  -- the second
  have F1' : Foc h1 [⟨true, false, 32, .nil⟩] .nil := Foc.up.2 F1
  obtain ⟨c1, c2⟩ := att_foc (s := true) F1' isN64 (by simp [idsC, Bt.ids]) (fun f hf => by simp at hf; subst hf; rfl)
  obtain ⟨h2, d1, d2⟩ := added_done' c1 (by decide) rfl
  have e1 : h1.top = 32 := F1.C
  have A2 : AddTr h1 key 64 h2 := by
    refine .mk (q := 32) (s := true) isN64 (by rw [e1]; exact .inr isN32) (.inr isN32) (k := 1) ?_ d1
    rw [e1]
    refine .right isN32 (by rw [k1, k2]; decide) ?_
    rw [show h1.ch true 32 = 0 from F1.T.2.2.2.2.2.1]
    exact .done
  have F2 : Foc h2 [] t2 := d2.F
  -- the third
  have F2' : Foc h2 [⟨true, true, 64, .nil⟩, ⟨true, false, 32, .nil⟩] .nil := Foc.up.2 (Foc.up.2 F2)
  obtain ⟨g1, g2⟩ := att_foc (s := true) F2' isN96 (by simp [idsC, Bt.ids]) (fun f hf => by simp at hf; subst hf; rfl)
  have p1 := paint_up false g1
  have p2 := p1.trans (go_up p1.F)
  have p3 := p2.trans (paint_up true p2.F)
  have p4 := p3.trans (go_up p3.F)
  have p5 := p4.trans (go_eq p4.F (t' := nd false true .nil 32 (nd false false .nil 64 (.node true .nil 96 .nil))) rfl)
  have tv := Tv.of p5.F
  have p6 := p5.trans (turn_go p5.F)
  have p7 := p6.trans (go_eq p6.F (t' := nd true false (.node true .nil 96 .nil) 64 (.node true .nil 32 .nil)) rfl)
  have p8 := p7.trans (go_down p7.F)
  obtain ⟨h3, q1, q2⟩ := added_done' p8.F (by decide) rfl
  have e2 : h2.top = 32 := F2.C
  have F2c : h2.ch true 32 = 64 := F2.T.2.2.2.2.2.1
  have F2d : h2.ch true 64 = 0 := (F2.T.2.2.2.2.2.2.2).2.2.2.2.2.1
  have A3 : AddTr h2 key 96 h3 := by
    refine .mk (q := 64) (s := true) isN96 (by rw [e2]; exact .inr isN32) (.inr isN64) (k := 2) ?_ ?_
    · rw [e2]
      refine .right isN32 (by rw [k1, k3]; decide) ?_
      rw [F2c]
      refine .right isN64 (by rw [k2, k3]; decide) ?_
      rw [F2d]
      exact .done
    · have U := Foc.up.1 g1
      refine .outer (x := 96) (q := 64) (g := 32) (u := 0) (s := true) isN96 g1.T.2.1 isN64 ((redH_f g1.C).trans rfl) g1.C.2.1 isN32 ?_ U.C.2.2.2.2.2.1 (.inl rfl) rfl ?_ tv q1
      · have := sideH_of U.C (by decide); exact this
      · have := sideH_of g1.C (by decide); exact this
  have F3 : Foc h3 [] t3 := q2.F
  -- the second goes
  obtain ⟨z1, z2, z3, z4, z5, z6, Rl, Rr⟩ := F3.T
  obtain ⟨y1, y2, y3, y4, y5, y6, _, _⟩ := Rr
  have hm : remMidH h3 64 96 = h3 := by unfold remMidH; rw [if_pos y2]
  obtain ⟨S1, _, S3⟩ := swap_in (h := h3) (fs := []) (z := 64) (y := 96) (cz := false) (l := .node true .nil 32 .nil) (r := .nil) F3.C z2 isN64 z3 z5 Rl (by decide) isN96 y6 y4 trivial (by decide)
  have hr96 : redH h3 96 = true := by
    show ((96 : Int) != 0 && h3.C 96 == 1) = true
    rw [y3]; rfl
  have A4 : RemTr h3 64 (clrH (remEndH h3 64 96) 64) := by
    have z5' : h3.ch false 64 = 32 := z5
    have z6' : h3.ch true 64 = 96 := z6
    have y6' : h3.ch true 96 = 0 := y6
    have S3' : (placeH h3 64 96).ch false 64 = 32 := S3
    refine .deep (k := 0) (y := 96) isN64 z4 (by rw [z5']; exact isN32) (by rw [z6']; exact isN96) (by omega) (by rw [z6']; exact .here isN96 y5) isN96 (.inl y6') (.inr (by rw [y2]; exact isN64)) (.inl z2) (fun e => absurd y2 e) (.inl y6') ⟨fun _ => y2, fun _ => z6'.symm⟩
      (by rw [hm]; exact .inl z2) (by rw [hm, S3']; exact isN32) ?_
    rw [hm]
    exact .inl ⟨hr96, rfl⟩
  have o1 : Eqn hp0 h1 64 := (a2 64 (by decide) (by simp [idsC]) (by decide)).trans (b2.out 64 (by decide) (by simp [plug, Bt.ids]))
  have o2 : Eqn hp0 h1 96 := (a2 96 (by decide) (by simp [idsC]) (by decide)).trans (b2.out 96 (by decide) (by simp [plug, Bt.ids]))
  have o3 : Eqn h1 h2 96 := (c2 96 (by decide) (by simp [idsC, Bt.ids]) (by decide)).trans (d2.out 96 (by decide) (by simp [plug, nd, Bt.ids]))
  exact ⟨h1, h2, h3, _, A1, F1, A2, F2, A3, F3, A4, S1, o1.2.2.1, (o2.trans o3).2.2.1⟩
end Go.Proofs.Ythkppnkhiimaeaa
