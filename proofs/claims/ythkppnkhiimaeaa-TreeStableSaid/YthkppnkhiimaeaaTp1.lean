/- Trees in links (layer 11), plain: what the links hold of a tree; a turn. No program in sight. -/
import Derived.WalkKit
set_option linter.unusedVariables false
set_option linter.unusedSimpArgs false
namespace Go.Proofs.Ythkppnkhiimaeaa

/-- A leaf's place. -/
def isN (x : Int) : Prop := 32 ≤ x ∧ x ≤ 1280 ∧ x % 32 = 0
instance (x : Int) : Decidable (isN x) := by unfold isN; infer_instance
theorem isN.ne0 {x : Int} (h : isN x) : x ≠ 0 := by unfold isN at h; omega
theorem not_isN0 : ¬ isN 0 := by unfold isN; omega

/-- Links, color, owner of each leaf; the topmost one. -/
structure Hp where
  ch : Bool → Int → Int
  P : Int → Int
  O : Int → Int
  C : Int → Int
  top : Int
def Hp.setCh (h : Hp) (s : Bool) (n v : Int) : Hp := { h with ch := fun s' m => if s' = s ∧ m = n then v else h.ch s' m }
def Hp.setP (h : Hp) (n v : Int) : Hp := { h with P := fun m => if m = n then v else h.P m }
def Hp.setO (h : Hp) (n v : Int) : Hp := { h with O := fun m => if m = n then v else h.O m }
def Hp.setC (h : Hp) (n v : Int) : Hp := { h with C := fun m => if m = n then v else h.C m }
def Hp.setTop (h : Hp) (v : Int) : Hp := { h with top := v }
/-- A color's number. -/
def cI (c : Bool) : Int := if c then 1 else 0
theorem cI_inj {a b : Bool} (h : cI a = cI b) : a = b := by cases a <;> cases b <;> simp [cI] at h <;> rfl

def redH (h : Hp) (n : Int) : Bool := n != 0 && h.C n == 1
def paintH (h : Hp) (n : Int) (c : Bool) : Hp := if n = 0 then h else h.setC n (cI c)
def sideH (h : Hp) (q n : Int) : Bool := !(h.ch false q == n)
def joinH (h : Hp) (q : Int) (s : Bool) (n : Int) : Hp := if n = 0 then h.setCh s q n else (h.setCh s q n).setP n q
def placeH (h : Hp) (o n : Int) : Hp :=
  if h.P o = 0 then (if n = 0 then h.setTop n else (h.setTop n).setP n 0) else joinH h (h.P o) (sideH h (h.P o) o) n
def turnH (h : Hp) (x : Int) (s : Bool) : Hp :=
  joinH (joinH (placeH h x (h.ch (!s) x)) x (!s) ((placeH h x (h.ch (!s) x)).ch s (h.ch (!s) x))) (h.ch (!s) x) s x

/-! ### Trees -/
inductive Bt | nil | node (c : Bool) (l : Bt) (n : Int) (r : Bt)
namespace Bt
def ids : Bt → List Int
  | nil => []
  | node _ l n r => l.ids ++ n :: r.ids
def rt : Bt → Int
  | nil => 0
  | node _ _ n _ => n
def red : Bt → Bool
  | nil => false
  | node c _ _ _ => c
/-- The same, painted. -/
def dye (c : Bool) : Bt → Bt
  | nil => nil
  | node _ l n r => node c l n r
end Bt
/-- A leaf with a tree on that side, another one on the other. -/
def nd (s c : Bool) (near : Bt) (n : Int) (far : Bt) : Bt := if s then .node c far n near else .node c near n far
theorem nd_flip (s c : Bool) (a : Bt) (n : Int) (b : Bt) : nd s c a n b = nd (!s) c b n a := by cases s <;> rfl
theorem nd_rt (s c : Bool) (a : Bt) (n : Int) (b : Bt) : (nd s c a n b).rt = n := by cases s <;> rfl
theorem nd_red (s c : Bool) (a : Bt) (n : Int) (b : Bt) : (nd s c a n b).red = c := by cases s <;> rfl
theorem nd_dye (s c c' : Bool) (a : Bt) (n : Int) (b : Bt) : (nd s c a n b).dye c' = nd s c' a n b := by cases s <;> rfl
theorem nd_mem {s c : Bool} {a : Bt} {n : Int} {b : Bt} {m : Int} : m ∈ (nd s c a n b).ids ↔ m ∈ a.ids ∨ m = n ∨ m ∈ b.ids := by
  cases s
  · simp [nd, Bt.ids]
  · simp [nd, Bt.ids]
    constructor
    · rintro (h | h | h) <;> simp [h]
    · rintro (h | h | h) <;> simp [h]
theorem nd_turn (s cx cy : Bool) (a b c : Bt) (x y : Int) : (nd s cx a x (nd s cy b y c)).ids = (nd s cy (nd s cx a x b) y c).ids := by cases s <;> simp [nd, Bt.ids]
theorem nd_ids_c (s c c' : Bool) (a b : Bt) (n : Int) : (nd s c a n b).ids = (nd s c' a n b).ids := by cases s <;> rfl
theorem dye_ids (c : Bool) : ∀ t : Bt, (t.dye c).ids = t.ids
  | .nil => rfl
  | .node _ _ _ _ => rfl
theorem dye_rt (c : Bool) : ∀ t : Bt, (t.dye c).rt = t.rt
  | .nil => rfl
  | .node _ _ _ _ => rfl
theorem nd_nodup {s c : Bool} {a : Bt} {n : Int} {b : Bt} : (nd s c a n b).ids.Nodup ↔ a.ids.Nodup ∧ b.ids.Nodup ∧ n ∉ a.ids ∧ n ∉ b.ids ∧ ∀ m ∈ a.ids, m ∉ b.ids := by
  have key : ∀ (p q : List Int), (p ++ n :: q).Nodup ↔ p.Nodup ∧ q.Nodup ∧ n ∉ p ∧ n ∉ q ∧ ∀ m ∈ p, m ∉ q := by
    intro p q
    rw [List.nodup_append, List.nodup_cons]
    constructor
    · rintro ⟨h1, ⟨h2, h3⟩, h4⟩
      exact ⟨h1, h3, fun h => h4 n h n (List.mem_cons_self ..) rfl, h2, fun m hm hq => h4 m hm m (List.mem_cons_of_mem _ hq) rfl⟩
    · rintro ⟨h1, h2, h3, h4, h5⟩
      refine ⟨h1, ⟨h4, h2⟩, fun u hu v hv e => ?_⟩
      subst e
      rcases List.mem_cons.1 hv with rfl | hv
      · exact h3 hu
      · exact h5 u hu hv
  cases s
  · exact key _ _
  · refine (key b.ids a.ids).trans ?_
    constructor
    · rintro ⟨h1, h2, h3, h4, h5⟩; exact ⟨h2, h1, h4, h3, fun m hm hb => h5 m hb hm⟩
    · rintro ⟨h1, h2, h3, h4, h5⟩; exact ⟨h2, h1, h4, h3, fun m hm hb => h5 m hb hm⟩

/-- What the links hold of a tree below a leaf. -/
def Rep (h : Hp) : Int → Bt → Prop
  | _, .nil => True
  | p, .node c l n r => isN n ∧ h.P n = p ∧ h.C n = cI c ∧ h.O n = 8 ∧ h.ch false n = l.rt ∧ h.ch true n = r.rt ∧ Rep h n l ∧ Rep h n r
theorem Rep_nd {h : Hp} {p : Int} {s c : Bool} {a : Bt} {n : Int} {b : Bt} : Rep h p (nd s c a n b) ↔ isN n ∧ h.P n = p ∧ h.C n = cI c ∧ h.O n = 8 ∧ h.ch s n = a.rt ∧ h.ch (!s) n = b.rt ∧ Rep h n a ∧ Rep h n b := by
  cases s
  · exact Iff.rfl
  · show (_ ∧ _ ∧ _ ∧ _ ∧ _ ∧ _ ∧ _ ∧ _) ↔ _
    constructor
    · rintro ⟨h1, h2, h3, h4, h5, h6, h7, h8⟩; exact ⟨h1, h2, h3, h4, h6, h5, h8, h7⟩
    · rintro ⟨h1, h2, h3, h4, h5, h6, h7, h8⟩; exact ⟨h1, h2, h3, h4, h6, h5, h8, h7⟩

/-- A leaf is as it was; .. but for its parent. -/
def EqP (h h' : Hp) (m : Int) : Prop := h'.C m = h.C m ∧ h'.O m = h.O m ∧ ∀ s, h'.ch s m = h.ch s m
def Eqn (h h' : Hp) (m : Int) : Prop := h'.P m = h.P m ∧ EqP h h' m
theorem Eqn.refl (h : Hp) (m : Int) : Eqn h h m := ⟨rfl, rfl, rfl, fun _ => rfl⟩
theorem Eqn.trans {h h' h'' : Hp} {m : Int} (a : Eqn h h' m) (b : Eqn h' h'' m) : Eqn h h'' m := ⟨b.1.trans a.1, b.2.1.trans a.2.1, b.2.2.1.trans a.2.2.1, fun s => (b.2.2.2 s).trans (a.2.2.2 s)⟩
theorem EqP.trans {h h' h'' : Hp} {m : Int} (a : EqP h h' m) (b : EqP h' h'' m) : EqP h h'' m := ⟨b.1.trans a.1, b.2.1.trans a.2.1, fun s => (b.2.2 s).trans (a.2.2 s)⟩

theorem Rep.frame {h h' : Hp} : ∀ {t : Bt} {p : Int}, Rep h p t → (∀ m ∈ t.ids, Eqn h h' m) → Rep h' p t
  | .nil, _, _, _ => trivial
  | .node c l n r, p, ⟨h1, h2, h3, h4, h5, h6, h7, h8⟩, hq => by
    obtain ⟨e1, e2, e3, e4⟩ := hq n (by simp [Bt.ids])
    exact ⟨h1, e1.trans h2, e2.trans h3, e3.trans h4, (e4 false).trans h5, (e4 true).trans h6, h7.frame (fun m hm => hq m (by simp [Bt.ids, hm])), h8.frame (fun m hm => hq m (by simp [Bt.ids, hm]))⟩
theorem Rep.isN {h : Hp} : ∀ {t : Bt} {p : Int}, Rep h p t → ∀ m ∈ t.ids, isN m
  | .nil, _, _, m, hm => by cases hm
  | .node c l n r, p, ⟨h1, h2, h3, h4, h5, h6, h7, h8⟩, m, hm => by
    simp [Bt.ids] at hm
    rcases hm with hm | rfl | hm
    · exact h7.isN m hm
    · exact h1
    · exact h8.isN m hm
theorem rt_mem : ∀ {t : Bt}, t.rt ≠ 0 → t.rt ∈ t.ids
  | .nil, h => absurd rfl h
  | .node _ _ _ _, _ => by simp [Bt.ids, Bt.rt]
theorem Rep.rt {h : Hp} {t : Bt} {p : Int} (R : Rep h p t) : t.rt = 0 ∨ Go.Proofs.Ythkppnkhiimaeaa.isN t.rt := by
  cases t with
  | nil => exact .inl rfl
  | node c l n r => exact .inr R.1
theorem Rep.rt0 {h : Hp} {t : Bt} {p : Int} (R : Rep h p t) (h0 : t.rt = 0) : t = .nil := by
  cases t with
  | nil => rfl
  | node c l n r => exact absurd h0 R.1.ne0
/-- A tree that hangs elsewhere now. -/
theorem Rep.repar {h h' : Hp} {t : Bt} {p q : Int} (R : Rep h p t) (hn : t.ids.Nodup) (hr : t.rt ≠ 0 → h'.P t.rt = q) (hp : ∀ m ∈ t.ids, EqP h h' m) (ho : ∀ m ∈ t.ids, m ≠ t.rt → h'.P m = h.P m) : Rep h' q t := by
  cases t with
  | nil => trivial
  | node c l n r =>
    obtain ⟨h1, h2, h3, h4, h5, h6, h7, h8⟩ := R
    obtain ⟨e2, e3, e4⟩ := hp n (by simp [Bt.ids])
    have hnd := (nd_nodup (s := false) (c := c)).1 hn
    refine ⟨h1, hr h1.ne0, e2.trans h3, e3.trans h4, (e4 false).trans h5, (e4 true).trans h6, h7.frame (fun m hm => ⟨ho m (by simp [Bt.ids, hm]) ?_, hp m (by simp [Bt.ids, hm])⟩), h8.frame (fun m hm => ⟨ho m (by simp [Bt.ids, hm]) ?_, hp m (by simp [Bt.ids, hm])⟩)⟩
    · intro e; rw [e] at hm; exact hnd.2.2.1 hm
    · intro e; rw [e] at hm; exact hnd.2.2.2.1 hm

/-! ### A tree with a hole -/
structure Fr where
  s : Bool
  c : Bool
  n : Int
  sib : Bt
def pn : List Fr → Int
  | [] => 0
  | f :: _ => f.n
def redC : List Fr → Bool
  | [] => false
  | f :: _ => f.c
def plug : List Fr → Bt → Bt
  | [], t => t
  | f :: fs, t => plug fs (nd f.s f.c t f.n f.sib)
def idsC : List Fr → List Int
  | [] => []
  | f :: fs => f.n :: (f.sib.ids ++ idsC fs)
def RepC (h : Hp) : List Fr → Int → Prop
  | [], x => h.top = x
  | f :: fs, x => isN f.n ∧ h.P f.n = pn fs ∧ h.C f.n = cI f.c ∧ h.O f.n = 8 ∧ h.ch f.s f.n = x ∧ h.ch (!f.s) f.n = f.sib.rt ∧ Rep h f.n f.sib ∧ RepC h fs f.n
theorem RepC.frame {h h' : Hp} : ∀ {fs : List Fr} {x : Int}, RepC h fs x → (∀ m ∈ idsC fs, Eqn h h' m) → h'.top = h.top → RepC h' fs x
  | [], x, R, _, ht => ht.trans R
  | f :: fs, x, ⟨h1, h2, h3, h4, h5, h6, h7, h8⟩, hq, ht => by
    obtain ⟨e1, e2, e3, e4⟩ := hq f.n (by simp [idsC])
    exact ⟨h1, e1.trans h2, e2.trans h3, e3.trans h4, (e4 _).trans h5, (e4 _).trans h6, h7.frame (fun m hm => hq m (by simp [idsC, hm])), h8.frame (fun m hm => hq m (by simp [idsC, hm])) ht⟩
theorem RepC.isN {h : Hp} : ∀ {fs : List Fr} {x : Int}, RepC h fs x → ∀ m ∈ idsC fs, Go.Proofs.Ythkppnkhiimaeaa.isN m
  | [], x, R, m, hm => by cases hm
  | f :: fs, x, ⟨h1, h2, h3, h4, h5, h6, h7, h8⟩, m, hm => by
    simp [idsC] at hm
    rcases hm with rfl | hm | hm
    · exact h1
    · exact h7.isN m hm
    · exact h8.isN m hm
theorem pn_mem {fs : List Fr} (h : pn fs ≠ 0) : pn fs ∈ idsC fs := by
  cases fs with
  | nil => exact absurd rfl h
  | cons f fs => simp [pn, idsC]

/-- The links hold a tree, of which this part stands in this hole. -/
structure Foc (h : Hp) (fs : List Fr) (t : Bt) : Prop where
  C : RepC h fs t.rt
  T : Rep h (pn fs) t
  nd : (idsC fs ++ t.ids).Nodup
theorem Foc.dis {h : Hp} {fs : List Fr} {t : Bt} (F : Foc h fs t) {m : Int} (hm : m ∈ t.ids) : m ∉ idsC fs := fun hc => (List.nodup_append.1 F.nd).2.2 m hc m hm rfl
theorem Foc.ndC {h : Hp} {fs : List Fr} {t : Bt} (F : Foc h fs t) : (idsC fs).Nodup := (List.nodup_append.1 F.nd).1
theorem Foc.ndT {h : Hp} {fs : List Fr} {t : Bt} (F : Foc h fs t) : t.ids.Nodup := (List.nodup_append.1 F.nd).2.1

theorem perm_up (f : Fr) (fs : List Fr) (t : Bt) : (idsC (f :: fs) ++ t.ids).Perm (idsC fs ++ (nd f.s f.c t f.n f.sib).ids) := by
  have e : (nd f.s f.c t f.n f.sib).ids.Perm (f.n :: (f.sib.ids ++ t.ids)) := by
    unfold Go.Proofs.Ythkppnkhiimaeaa.nd
    split
    · exact List.perm_middle
    · exact List.perm_middle.trans (List.Perm.cons _ List.perm_append_comm)
  refine List.Perm.trans ?_ (List.Perm.append_left _ e.symm)
  show (f.n :: (f.sib.ids ++ idsC fs) ++ t.ids).Perm _
  refine List.Perm.trans ?_ List.perm_middle.symm
  rw [List.cons_append]
  refine List.Perm.cons _ ?_
  rw [← List.append_assoc]
  exact List.Perm.append_right _ List.perm_append_comm
theorem Foc.up {h : Hp} {f : Fr} {fs : List Fr} {t : Bt} : Foc h (f :: fs) t ↔ Foc h fs (Go.Proofs.Ythkppnkhiimaeaa.nd f.s f.c t f.n f.sib) := by
  constructor
  · rintro ⟨⟨h1, h2, h3, h4, h5, h6, h7, h8⟩, hT, hn⟩
    exact ⟨by rw [nd_rt]; exact h8, Rep_nd.2 ⟨h1, h2, h3, h4, h5, h6, hT, h7⟩, (perm_up f fs t).nodup hn⟩
  · rintro ⟨hC, hT, hn⟩
    obtain ⟨h1, h2, h3, h4, h5, h6, h7, h8⟩ := Rep_nd.1 hT
    rw [nd_rt] at hC
    exact ⟨⟨h1, h2, h3, h4, h5, h6, h8, hC⟩, h7, (perm_up f fs t).symm.nodup hn⟩
theorem Foc.all {h : Hp} : ∀ {fs : List Fr} {t : Bt}, Foc h fs t ↔ Foc h [] (plug fs t)
  | [], t => Iff.rfl
  | f :: fs, t => Foc.up.trans Foc.all
theorem perm_plug : ∀ (fs : List Fr) (t : Bt), (idsC fs ++ t.ids).Perm (plug fs t).ids
  | [], t => by simp [idsC, plug]
  | f :: fs, t => (perm_up f fs t).trans (perm_plug fs _)

/-! ### Steps -/
theorem setP_eqn {h : Hp} {n v m : Int} (hm : m ≠ n) : Eqn h (h.setP n v) m := ⟨if_neg hm, rfl, rfl, fun _ => rfl⟩
theorem setP_eqp {h : Hp} {n v m : Int} : EqP h (h.setP n v) m := ⟨rfl, rfl, fun _ => rfl⟩
theorem setCh_eqn {h : Hp} {s : Bool} {n v m : Int} (hm : m ≠ n) : Eqn h (h.setCh s n v) m := ⟨rfl, rfl, rfl, fun s' => if_neg (fun e => hm e.2)⟩
theorem setC_eqn {h : Hp} {n v m : Int} (hm : m ≠ n) : Eqn h (h.setC n v) m := ⟨rfl, if_neg hm, rfl, fun _ => rfl⟩
theorem joinH_eqn {h : Hp} {q : Int} {s : Bool} {n m : Int} (h1 : m ≠ q) (h2 : m ≠ n) : Eqn h (joinH h q s n) m := by
  unfold joinH
  split
  · exact setCh_eqn h1
  · exact (setCh_eqn h1).trans (setP_eqn h2)
theorem joinH_top {h : Hp} {q : Int} {s : Bool} {n : Int} : (joinH h q s n).top = h.top := by unfold joinH; split <;> rfl
theorem joinH_P {h : Hp} {q : Int} {s : Bool} {n : Int} (hn : n ≠ 0) : (joinH h q s n).P n = q := by unfold joinH; rw [if_neg hn]; exact if_pos rfl
theorem joinH_Pne {h : Hp} {q : Int} {s : Bool} {n m : Int} (hm : m ≠ n) : (joinH h q s n).P m = h.P m := by
  unfold joinH; split
  · rfl
  · exact if_neg hm
theorem joinH_ch {h : Hp} {q : Int} {s : Bool} {n : Int} : (joinH h q s n).ch s q = n := by
  unfold joinH; split
  · exact if_pos ⟨rfl, rfl⟩
  · exact if_pos ⟨rfl, rfl⟩
theorem joinH_chne {h : Hp} {q : Int} {s : Bool} {n : Int} {s' : Bool} {m : Int} (hm : s' ≠ s ∨ m ≠ q) : (joinH h q s n).ch s' m = h.ch s' m := by
  have : ¬ (s' = s ∧ m = q) := fun e => by rcases hm with h | h; exact h e.1; exact h e.2
  unfold joinH; split
  · exact if_neg this
  · exact if_neg this
theorem joinH_C {h : Hp} {q : Int} {s : Bool} {n m : Int} : (joinH h q s n).C m = h.C m := by unfold joinH; split <;> rfl
theorem joinH_O {h : Hp} {q : Int} {s : Bool} {n m : Int} : (joinH h q s n).O m = h.O m := by unfold joinH; split <;> rfl
theorem joinH_eqp {h : Hp} {q : Int} {s : Bool} {n m : Int} (hm : m ≠ q) : EqP h (joinH h q s n) m := ⟨joinH_C, joinH_O, fun s' => joinH_chne (.inr hm)⟩

theorem sideH_of {h : Hp} {f : Fr} {fs : List Fr} {x : Int} (R : RepC h (f :: fs) x) (hx : x ≠ f.sib.rt) : sideH h f.n x = f.s := by
  obtain ⟨h1, h2, h3, h4, h5, h6, h7, h8⟩ := R
  unfold sideH
  cases hs : f.s
  · rw [hs] at h5; rw [h5]; simp
  · rw [hs] at h6
    have : h.ch false f.n = f.sib.rt := h6
    rw [this]
    simp only [Bool.not_eq_true', beq_eq_false_iff_ne]
    exact fun e => hx e.symm

/-- Another tree comes into the hole. -/
theorem placeH_C {h : Hp} {fs : List Fr} {o n : Int} (R : RepC h fs o) (hp : h.P o = pn fs) (ho : isN o) (hoc : o ∉ idsC fs) (hnd : (idsC fs).Nodup) (hn : n = 0 ∨ isN n) (hnc : n ∉ idsC fs) :
    RepC (placeH h o n) fs n ∧ (n ≠ 0 → (placeH h o n).P n = pn fs) ∧ (∀ m, m ∉ idsC fs → EqP h (placeH h o n) m) ∧ (∀ m, m ≠ n → (placeH h o n).P m = h.P m) ∧ (∀ m, m ∉ idsC fs → m ≠ n → Eqn h (placeH h o n) m) := by
  cases fs with
  | nil =>
    have hp0 : h.P o = 0 := hp
    unfold placeH
    rw [if_pos hp0]
    by_cases h0 : n = 0
    · rw [if_pos h0]
      exact ⟨rfl, fun hh => absurd h0 hh, fun m _ => ⟨rfl, rfl, fun _ => rfl⟩, fun m _ => rfl, fun m _ _ => ⟨rfl, rfl, rfl, fun _ => rfl⟩⟩
    · rw [if_neg h0]
      exact ⟨rfl, fun _ => if_pos rfl, fun m _ => ⟨rfl, rfl, fun _ => rfl⟩, fun m hm => if_neg hm, fun m _ hm => ⟨if_neg hm, rfl, rfl, fun _ => rfl⟩⟩
  | cons f fs =>
    have R0 := R
    obtain ⟨h1, h2, h3, h4, h5, h6, h7, h8⟩ := R
    have hpf : h.P o = f.n := hp
    have hsib : o ≠ f.sib.rt := fun e => by
      have : f.sib.rt ∈ f.sib.ids := rt_mem (e ▸ ho.ne0)
      exact hoc (by simp [idsC, e, this])
    unfold placeH
    rw [if_neg (by rw [hpf]; exact h1.ne0), hpf, sideH_of R0 hsib]
    rw [show idsC (f :: fs) = f.n :: (f.sib.ids ++ idsC fs) from rfl, List.nodup_cons, List.nodup_append] at hnd
    obtain ⟨n1, n2, n3, n4⟩ := hnd
    simp only [idsC, List.mem_cons, List.mem_append, not_or] at hnc hoc n1
    obtain ⟨c1, c2, c3⟩ := hnc
    refine ⟨⟨h1, (joinH_Pne (fun e => c1 e.symm)).trans h2, joinH_C.trans h3, joinH_O.trans h4, joinH_ch, (joinH_chne (.inl (by cases f.s <;> simp))).trans h6, h7.frame (fun m hm => joinH_eqn (fun e => n1.1 (e ▸ hm)) (fun e => c2 (e ▸ hm))), h8.frame (fun m hm => joinH_eqn (fun e => n1.2 (e ▸ hm)) (fun e => c3 (e ▸ hm))) joinH_top⟩, fun hh => joinH_P hh, ?_, fun m hm => joinH_Pne hm, ?_⟩
    · intro m hm
      simp only [idsC, List.mem_cons, not_or] at hm
      exact joinH_eqp hm.1
    · intro m hm hmn
      simp only [idsC, List.mem_cons, not_or] at hm
      exact joinH_eqn hm.1 hmn

/-- A turn. -/
theorem turn_foc {h : Hp} {fs : List Fr} {s cx cy : Bool} {a b c : Bt} {x y : Int} (F : Foc h fs (nd s cx a x (nd s cy b y c))) :
    Foc (turnH h x s) fs (nd s cy (nd s cx a x b) y c) ∧ ∀ m, m ≠ 0 → m ∉ idsC fs → m ∉ (nd s cx a x (nd s cy b y c)).ids → Eqn h (turnH h x s) m := by
  have hC := F.C
  rw [nd_rt] at hC
  obtain ⟨x1, x2, x3, x4, x5, x6, xa, xy⟩ := Rep_nd.1 F.T
  rw [nd_rt] at x6
  obtain ⟨y1, y2, y3, y4, y5, y6, yb, yc⟩ := Rep_nd.1 xy
  obtain ⟨na, ny, nxa, nxy, nay⟩ := nd_nodup.1 F.ndT
  obtain ⟨nb, nc, nyb, nyc, nbc⟩ := nd_nodup.1 ny
  have hxy : x ≠ y := fun e => nxy (nd_mem.2 (.inr (.inl e)))
  have hya : y ∉ a.ids := fun hh => nay y hh (nd_mem.2 (.inr (.inl rfl)))
  have hxb : x ∉ b.ids := fun hh => nxy (nd_mem.2 (.inl hh))
  have hxc : x ∉ c.ids := fun hh => nxy (nd_mem.2 (.inr (.inr hh)))
  have hab : ∀ m ∈ a.ids, m ∉ b.ids := fun m hm hh => nay m hm (nd_mem.2 (.inl hh))
  have hac : ∀ m ∈ a.ids, m ∉ c.ids := fun m hm hh => nay m hm (nd_mem.2 (.inr (.inr hh)))
  have dx : x ∉ idsC fs := F.dis (nd_mem.2 (.inr (.inl rfl)))
  have dy : y ∉ idsC fs := F.dis (nd_mem.2 (.inr (.inr (nd_mem.2 (.inr (.inl rfl))))))
  have da : ∀ m ∈ a.ids, m ∉ idsC fs := fun m hm => F.dis (nd_mem.2 (.inl hm))
  have db : ∀ m ∈ b.ids, m ∉ idsC fs := fun m hm => F.dis (nd_mem.2 (.inr (.inr (nd_mem.2 (.inl hm)))))
  have dc : ∀ m ∈ c.ids, m ∉ idsC fs := fun m hm => F.dis (nd_mem.2 (.inr (.inr (nd_mem.2 (.inr (.inr hm))))))
  obtain ⟨p1, p2, p3, p4, p5⟩ := placeH_C hC x2 x1 dx F.ndC (.inr y1) dy
  have yb0 : y ≠ b.rt := fun e => nyb (e ▸ rt_mem (e ▸ y1.ne0))
  have xb0 : x ≠ b.rt := fun e => hxb (e ▸ rt_mem (e ▸ x1.ne0))
  unfold turnH
  rw [x6]
  have hb1 : (placeH h x y).ch s y = b.rt := ((p3 y dy).2.2 s).trans y5
  rw [hb1]
  -- one after the other
  have brt : b.rt ∉ idsC fs := by
    intro e
    by_cases h0 : b.rt = 0
    · exact not_isN0 (h0 ▸ F.C.isN _ e)
    · exact db _ (rt_mem h0) e
  have fC : RepC (joinH (joinH (placeH h x y) x (!s) b.rt) y s x) fs y := by
    refine p1.frame (fun m hm => ?_) (joinH_top.trans joinH_top)
    have e1 : m ≠ x := fun e => dx (e ▸ hm)
    have e2 : m ≠ y := fun e => dy (e ▸ hm)
    have e3 : m ≠ b.rt := fun e => brt (e ▸ hm)
    exact (joinH_eqn e1 e3).trans (joinH_eqn e2 e1)
  have eqo : ∀ m, m ∉ idsC fs → m ≠ x → m ≠ y → m ≠ b.rt → Eqn h (joinH (joinH (placeH h x y) x (!s) b.rt) y s x) m := fun m hm e1 e2 e3 =>
    (p5 m hm e2).trans ((joinH_eqn e1 e3).trans (joinH_eqn e2 e1))
  have hss : (!s) ≠ s := by cases s <;> simp
  refine ⟨⟨by rw [nd_rt]; exact fC, Rep_nd.2 ⟨y1, ?_, ?_, ?_, ?_, ?_, ?_, ?_⟩, ?_⟩, ?_⟩
  · rw [joinH_Pne (fun e => hxy e.symm), joinH_Pne yb0]; exact p2 y1.ne0
  · exact joinH_C.trans (joinH_C.trans ((p3 y dy).1.trans y3))
  · exact joinH_O.trans (joinH_O.trans ((p3 y dy).2.1.trans y4))
  · rw [joinH_ch, nd_rt]
  · rw [joinH_chne (.inl hss), joinH_chne (.inr (fun e => hxy e.symm))]; exact ((p3 y dy).2.2 _).trans y6
  · refine Rep_nd.2 ⟨x1, joinH_P x1.ne0, ?_, ?_, ?_, ?_, ?_, ?_⟩
    · exact joinH_C.trans (joinH_C.trans ((p3 x dx).1.trans x3))
    · exact joinH_O.trans (joinH_O.trans ((p3 x dx).2.1.trans x4))
    · rw [joinH_chne (.inr hxy), joinH_chne (.inl (fun e => hss e.symm))]; exact ((p3 x dx).2.2 _).trans x5
    · rw [joinH_chne (.inr hxy), joinH_ch]
    · exact xa.frame (fun m hm => eqo m (da m hm) (fun e => nxa (e ▸ hm)) (fun e => hya (e ▸ hm)) (fun e => hab m hm (by
        have h0 : b.rt ≠ 0 := e ▸ (xa.isN m hm).ne0
        exact e ▸ rt_mem h0)))
    · refine yb.repar nb (fun h0 => ?_) (fun m hm => ?_) (fun m hm hne => ?_)
      · rw [joinH_Pne (fun e => xb0 e.symm)]; exact joinH_P h0
      · exact ((p3 m (db m hm)).trans (joinH_eqp (fun e => hxb (by rw [← e]; exact hm)))).trans (joinH_eqp (fun e => nyb (by rw [← e]; exact hm)))
      · rw [joinH_Pne (fun e => hxb (by rw [← e]; exact hm)), joinH_Pne hne]; exact p4 m (fun e => nyb (by rw [← e]; exact hm))
  · exact yc.frame (fun m hm => eqo m (dc m hm) (fun e => hxc (e ▸ hm)) (fun e => nyc (e ▸ hm)) (fun e => nbc b.rt (rt_mem (e ▸ (yc.isN m hm).ne0)) (e ▸ hm)))
  · rw [← nd_turn]; exact F.nd
  · intro m hm0 hm hmt
    simp only [nd_mem, not_or] at hmt
    refine eqo m hm hmt.2.1 hmt.2.2.2.1 (fun e => hmt.2.2.1 (e ▸ rt_mem (e ▸ hm0)))
end Go.Proofs.Ythkppnkhiimaeaa
