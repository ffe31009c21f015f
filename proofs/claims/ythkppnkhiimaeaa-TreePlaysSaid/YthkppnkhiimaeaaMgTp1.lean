/- Lemmas of the claim TreePlays. -/
import Derived.WalkKit
/- Trees in links (layer 11), plain: what the links hold of a tree; a turn. No program in sight. -/
set_option linter.unusedVariables false
set_option linter.unusedSimpArgs false
namespace Go.Proofs.Ythkppnkhiimaeaa
def isN (x : Int) : Prop := 32 ≤ x ∧ x ≤ 1280 ∧ x % 32 = 0
instance (x : Int) : Decidable (isN x) := by unfold isN; infer_instance
theorem isN.ne0 {x : Int} (h : isN x) : x ≠ 0 := by unfold isN at h; omega
theorem not_isN0 : ¬ isN 0 := by unfold isN; omega
structure Hp where
  ch : Bool → Int → Int
  P : Int → Int
  O : Int → Int
  C : Int → Int
  top : Int
def Hp.setCh (h : Hp) (s : Bool) (n v : Int) : Hp := { h with ch := fun s' m => if s' = s ∧ m = n then v else h.ch s' m }
def Hp.setP (h : Hp) (n v : Int) : Hp := { h with P := fun m => if m = n then v else h.P m }
def Hp.setO (h : Hp) (n v : Int) : Hp := { h with O := fun m => if m = n then v else h.O m }
def Hp.setC (h : Hp) (n v : Int) : Hp := { h with C := fun m => if m = n then v else h.C m }
def Hp.setTop (h : Hp) (v : Int) : Hp := { h with top := v }
def cI (c : Bool) : Int := if c then 1 else 0
def redH (h : Hp) (n : Int) : Bool := n != 0 && h.C n == 1
def paintH (h : Hp) (n : Int) (c : Bool) : Hp := if n = 0 then h else h.setC n (cI c)
def sideH (h : Hp) (q n : Int) : Bool := !(h.ch false q == n)
def joinH (h : Hp) (q : Int) (s : Bool) (n : Int) : Hp := if n = 0 then h.setCh s q n else (h.setCh s q n).setP n q
def placeH (h : Hp) (o n : Int) : Hp :=
  if h.P o = 0 then (if n = 0 then h.setTop n else (h.setTop n).setP n 0) else joinH h (h.P o) (sideH h (h.P o) o) n
def turnH (h : Hp) (x : Int) (s : Bool) : Hp :=
  joinH (joinH (placeH h x (h.ch (!s) x)) x (!s) ((placeH h x (h.ch (!s) x)).ch s (h.ch (!s) x))) (h.ch (!s) x) s x
/-! ### Trees -/
inductive Bt | nil | node (c : Bool) (l : Bt) (n : Int) (r : Bt)
namespace Bt
def ids : Bt → List Int
  | nil => []
  | node _ l n r => l.ids ++ n :: r.ids
def rt : Bt → Int
  | nil => 0
  | node _ _ n _ => n
def red : Bt → Bool
  | nil => false
  | node c _ _ _ => c
def dye (c : Bool) : Bt → Bt
  | nil => nil
  | node _ l n r => node c l n r
end Bt
def nd (s c : Bool) (near : Bt) (n : Int) (far : Bt) : Bt := if s then .node c far n near else .node c near n far
theorem nd_flip (s c : Bool) (a : Bt) (n : Int) (b : Bt) : nd s c a n b = nd (!s) c b n a := by cases s <;> rfl
theorem nd_rt (s c : Bool) (a : Bt) (n : Int) (b : Bt) : (nd s c a n b).rt = n := by cases s <;> rfl
theorem nd_red (s c : Bool) (a : Bt) (n : Int) (b : Bt) : (nd s c a n b).red = c := by cases s <;> rfl
theorem nd_dye (s c c' : Bool) (a : Bt) (n : Int) (b : Bt) : (nd s c a n b).dye c' = nd s c' a n b := by cases s <;> rfl
theorem nd_mem {s c : Bool} {a : Bt} {n : Int} {b : Bt} {m : Int} : m ∈ (nd s c a n b).ids ↔ m ∈ a.ids ∨ m = n ∨ m ∈ b.ids := by
  cases s
  · simp [nd, Bt.ids]
  · simp [nd, Bt.ids]
    constructor
    · rintro (h | h | h) <;> simp [h]
    · rintro (h | h | h) <;> simp [h]
theorem nd_turn (s cx cy : Bool) (a b c : Bt) (x y : Int) : (nd s cx a x (nd s cy b y c)).ids = (nd s cy (nd s cx a x b) y c).ids := by cases s <;> simp [nd, Bt.ids]
theorem dye_ids (c : Bool) : ∀ t : Bt, (t.dye c).ids = t.ids
  | .nil => rfl
  | .node _ _ _ _ => rfl
theorem dye_rt (c : Bool) : ∀ t : Bt, (t.dye c).rt = t.rt
  | .nil => rfl
  | .node _ _ _ _ => rfl
theorem nd_nodup {s c : Bool} {a : Bt} {n : Int} {b : Bt} : (nd s c a n b).ids.Nodup ↔ a.ids.Nodup ∧ b.ids.Nodup ∧ n ∉ a.ids ∧ n ∉ b.ids ∧ ∀ m ∈ a.ids, m ∉ b.ids := by
  have key : ∀ (p q : List Int), (p ++ n :: q).Nodup ↔ p.Nodup ∧ q.Nodup ∧ n ∉ p ∧ n ∉ q ∧ ∀ m ∈ p, m ∉ q := by
    intro p q
    rw [List.nodup_append, List.nodup_cons]
    constructor
    · rintro ⟨h1, ⟨h2, h3⟩, h4⟩
      exact ⟨h1, h3, fun h => h4 n h n (List.mem_cons_self ..) rfl, h2, fun m hm hq => h4 m hm m (List.mem_cons_of_mem _ hq) rfl⟩
    · rintro ⟨h1, h2, h3, h4, h5⟩
      refine ⟨h1, ⟨h4, h2⟩, fun u hu v hv e => ?_⟩
      subst e
      rcases List.mem_cons.1 hv with rfl | hv
      · exact h3 hu
      · exact h5 u hu hv
  cases s
  · exact key _ _
  · refine (key b.ids a.ids).trans ?_
    constructor
    · rintro ⟨h1, h2, h3, h4, h5⟩; exact ⟨h2, h1, h4, h3, fun m hm hb => h5 m hb hm⟩
    · rintro ⟨h1, h2, h3, h4, h5⟩; exact ⟨h2, h1, h4, h3, fun m hm hb => h5 m hb hm⟩
def Rep (h : Hp) : Int → Bt → Prop
  | _, .nil => True
  | p, .node c l n r => isN n ∧ h.P n = p ∧ h.C n = cI c ∧ h.O n = 8 ∧ h.ch false n = l.rt ∧ h.ch true n = r.rt ∧ Rep h n l ∧ Rep h n r
theorem Rep_nd {h : Hp} {p : Int} {s c : Bool} {a : Bt} {n : Int} {b : Bt} : Rep h p (nd s c a n b) ↔ isN n ∧ h.P n = p ∧ h.C n = cI c ∧ h.O n = 8 ∧ h.ch s n = a.rt ∧ h.ch (!s) n = b.rt ∧ Rep h n a ∧ Rep h n b := by
  cases s
  · exact Iff.rfl
  · show (_ ∧ _ ∧ _ ∧ _ ∧ _ ∧ _ ∧ _ ∧ _) ↔ _
    constructor
    · rintro ⟨h1, h2, h3, h4, h5, h6, h7, h8⟩; exact ⟨h1, h2, h3, h4, h6, h5, h8, h7⟩
    · rintro ⟨h1, h2, h3, h4, h5, h6, h7, h8⟩; exact ⟨h1, h2, h3, h4, h6, h5, h8, h7⟩
def EqP (h h' : Hp) (m : Int) : Prop := h'.C m = h.C m ∧ h'.O m = h.O m ∧ ∀ s, h'.ch s m = h.ch s m
def Eqn (h h' : Hp) (m : Int) : Prop := h'.P m = h.P m ∧ EqP h h' m
theorem Eqn.refl (h : Hp) (m : Int) : Eqn h h m := ⟨rfl, rfl, rfl, fun _ => rfl⟩
theorem Eqn.trans {h h' h'' : Hp} {m : Int} (a : Eqn h h' m) (b : Eqn h' h'' m) : Eqn h h'' m := ⟨b.1.trans a.1, b.2.1.trans a.2.1, b.2.2.1.trans a.2.2.1, fun s => (b.2.2.2 s).trans (a.2.2.2 s)⟩
theorem EqP.trans {h h' h'' : Hp} {m : Int} (a : EqP h h' m) (b : EqP h' h'' m) : EqP h h'' m := ⟨b.1.trans a.1, b.2.1.trans a.2.1, fun s => (b.2.2 s).trans (a.2.2 s)⟩
theorem Rep.frame {h h' : Hp} : ∀ {t : Bt} {p : Int}, Rep h p t → (∀ m ∈ t.ids, Eqn h h' m) → Rep h' p t
  | .nil, _, _, _ => trivial
  | .node c l n r, p, ⟨h1, h2, h3, h4, h5, h6, h7, h8⟩, hq => by
    obtain ⟨e1, e2, e3, e4⟩ := hq n (by simp [Bt.ids])
    exact ⟨h1, e1.trans h2, e2.trans h3, e3.trans h4, (e4 false).trans h5, (e4 true).trans h6, h7.frame (fun m hm => hq m (by simp [Bt.ids, hm])), h8.frame (fun m hm => hq m (by simp [Bt.ids, hm]))⟩
theorem Rep.isN {h : Hp} : ∀ {t : Bt} {p : Int}, Rep h p t → ∀ m ∈ t.ids, isN m
  | .nil, _, _, m, hm => by cases hm
  | .node c l n r, p, ⟨h1, h2, h3, h4, h5, h6, h7, h8⟩, m, hm => by
    simp [Bt.ids] at hm
    rcases hm with hm | rfl | hm
    · exact h7.isN m hm
    · exact h1
    · exact h8.isN m hm
theorem rt_mem : ∀ {t : Bt}, t.rt ≠ 0 → t.rt ∈ t.ids
  | .nil, h => absurd rfl h
  | .node _ _ _ _, _ => by simp [Bt.ids, Bt.rt]
theorem Rep.rt {h : Hp} {t : Bt} {p : Int} (R : Rep h p t) : t.rt = 0 ∨ Go.Proofs.Ythkppnkhiimaeaa.isN t.rt := by
  cases t with
  | nil => exact .inl rfl
  | node c l n r => exact .inr R.1
theorem Rep.rt0 {h : Hp} {t : Bt} {p : Int} (R : Rep h p t) (h0 : t.rt = 0) : t = .nil := by
  cases t with
  | nil => rfl
  | node c l n r => exact absurd h0 R.1.ne0
theorem Rep.repar {h h' : Hp} {t : Bt} {p q : Int} (R : Rep h p t) (hn : t.ids.Nodup) (hr : t.rt ≠ 0 → h'.P t.rt = q) (hp : ∀ m ∈ t.ids, EqP h h' m) (ho : ∀ m ∈ t.ids, m ≠ t.rt → h'.P m = h.P m) : Rep h' q t := by
  cases t with
  | nil => trivial
  | node c l n r =>
    obtain ⟨h1, h2, h3, h4, h5, h6, h7, h8⟩ := R
    obtain ⟨e2, e3, e4⟩ := hp n (by simp [Bt.ids])
    have hnd := (nd_nodup (s := false) (c := c)).1 hn
    refine ⟨h1, hr h1.ne0, e2.trans h3, e3.trans h4, (e4 false).trans h5, (e4 true).trans h6, h7.frame (fun m hm => ⟨ho m (by simp [Bt.ids, hm]) ?_, hp m (by simp [Bt.ids, hm])⟩), h8.frame (fun m hm => ⟨ho m (by simp [Bt.ids, hm]) ?_, hp m (by simp [Bt.ids, hm])⟩)⟩
    · intro e; rw [e] at hm; exact hnd.2.2.1 hm
    · intro e; rw [e] at hm; exact hnd.2.2.2.1 hm
/-! ### A tree with a hole -/
structure Fr where
  s : Bool
  c : Bool
  n : Int
  sib : Bt
def pn : List Fr → Int
  | [] => 0
  | f :: _ => f.n
def redC : List Fr → Bool
  | [] => false
  | f :: _ => f.c
def plug : List Fr → Bt → Bt
  | [], t => t
  | f :: fs, t => plug fs (nd f.s f.c t f.n f.sib)
def idsC : List Fr → List Int
  | [] => []
  | f :: fs => f.n :: (f.sib.ids ++ idsC fs)
def RepC (h : Hp) : List Fr → Int → Prop
  | [], x => h.top = x
  | f :: fs, x => isN f.n ∧ h.P f.n = pn fs ∧ h.C f.n = cI f.c ∧ h.O f.n = 8 ∧ h.ch f.s f.n = x ∧ h.ch (!f.s) f.n = f.sib.rt ∧ Rep h f.n f.sib ∧ RepC h fs f.n
theorem RepC.frame {h h' : Hp} : ∀ {fs : List Fr} {x : Int}, RepC h fs x → (∀ m ∈ idsC fs, Eqn h h' m) → h'.top = h.top → RepC h' fs x
  | [], x, R, _, ht => ht.trans R
  | f :: fs, x, ⟨h1, h2, h3, h4, h5, h6, h7, h8⟩, hq, ht => by
    obtain ⟨e1, e2, e3, e4⟩ := hq f.n (by simp [idsC])
    exact ⟨h1, e1.trans h2, e2.trans h3, e3.trans h4, (e4 _).trans h5, (e4 _).trans h6, h7.frame (fun m hm => hq m (by simp [idsC, hm])), h8.frame (fun m hm => hq m (by simp [idsC, hm])) ht⟩
theorem RepC.isN {h : Hp} : ∀ {fs : List Fr} {x : Int}, RepC h fs x → ∀ m ∈ idsC fs, Go.Proofs.Ythkppnkhiimaeaa.isN m
  | [], x, R, m, hm => by cases hm
  | f :: fs, x, ⟨h1, h2, h3, h4, h5, h6, h7, h8⟩, m, hm => by
    simp [idsC] at hm
    rcases hm with rfl | hm | hm
    · exact h1
    · exact h7.isN m hm
    · exact h8.isN m hm
structure Foc (h : Hp) (fs : List Fr) (t : Bt) : Prop where
  C : RepC h fs t.rt
  T : Rep h (pn fs) t
  nd : (idsC fs ++ t.ids).Nodup
theorem Foc.dis {h : Hp} {fs : List Fr} {t : Bt} (F : Foc h fs t) {m : Int} (hm : m ∈ t.ids) : m ∉ idsC fs := fun hc => (List.nodup_append.1 F.nd).2.2 m hc m hm rfl
theorem Foc.ndC {h : Hp} {fs : List Fr} {t : Bt} (F : Foc h fs t) : (idsC fs).Nodup := (List.nodup_append.1 F.nd).1
theorem Foc.ndT {h : Hp} {fs : List Fr} {t : Bt} (F : Foc h fs t) : t.ids.Nodup := (List.nodup_append.1 F.nd).2.1
theorem perm_up (f : Fr) (fs : List Fr) (t : Bt) : (idsC (f :: fs) ++ t.ids).Perm (idsC fs ++ (nd f.s f.c t f.n f.sib).ids) := by
  have e : (nd f.s f.c t f.n f.sib).ids.Perm (f.n :: (f.sib.ids ++ t.ids)) := by
    unfold Go.Proofs.Ythkppnkhiimaeaa.nd
    split
    · exact List.perm_middle
    · exact List.perm_middle.trans (List.Perm.cons _ List.perm_append_comm)
  refine List.Perm.trans ?_ (List.Perm.append_left _ e.symm)
  show (f.n :: (f.sib.ids ++ idsC fs) ++ t.ids).Perm _
  refine List.Perm.trans ?_ List.perm_middle.symm
  rw [List.cons_append]
  refine List.Perm.cons _ ?_
  rw [← List.append_assoc]
  exact List.Perm.append_right _ List.perm_append_comm
theorem Foc.up {h : Hp} {f : Fr} {fs : List Fr} {t : Bt} : Foc h (f :: fs) t ↔ Foc h fs (Go.Proofs.Ythkppnkhiimaeaa.nd f.s f.c t f.n f.sib) := by
  constructor
  · rintro ⟨⟨h1, h2, h3, h4, h5, h6, h7, h8⟩, hT, hn⟩
    exact ⟨by rw [nd_rt]; exact h8, Rep_nd.2 ⟨h1, h2, h3, h4, h5, h6, hT, h7⟩, (perm_up f fs t).nodup hn⟩
  · rintro ⟨hC, hT, hn⟩
    obtain ⟨h1, h2, h3, h4, h5, h6, h7, h8⟩ := Rep_nd.1 hT
    rw [nd_rt] at hC
    exact ⟨⟨h1, h2, h3, h4, h5, h6, h8, hC⟩, h7, (perm_up f fs t).symm.nodup hn⟩
theorem Foc.all {h : Hp} : ∀ {fs : List Fr} {t : Bt}, Foc h fs t ↔ Foc h [] (plug fs t)
  | [], t => Iff.rfl
  | f :: fs, t => Foc.up.trans Foc.all
theorem perm_plug : ∀ (fs : List Fr) (t : Bt), (idsC fs ++ t.ids).Perm (plug fs t).ids
  | [], t => by simp [idsC, plug]
  | f :: fs, t => (perm_up f fs t).trans (perm_plug fs _)
/-! ### Steps -/
theorem setP_eqn {h : Hp} {n v m : Int} (hm : m ≠ n) : Eqn h (h.setP n v) m := ⟨if_neg hm, rfl, rfl, fun _ => rfl⟩
theorem setCh_eqn {h : Hp} {s : Bool} {n v m : Int} (hm : m ≠ n) : Eqn h (h.setCh s n v) m := ⟨rfl, rfl, rfl, fun s' => if_neg (fun e => hm e.2)⟩
theorem setC_eqn {h : Hp} {n v m : Int} (hm : m ≠ n) : Eqn h (h.setC n v) m := ⟨rfl, if_neg hm, rfl, fun _ => rfl⟩
theorem joinH_eqn {h : Hp} {q : Int} {s : Bool} {n m : Int} (h1 : m ≠ q) (h2 : m ≠ n) : Eqn h (joinH h q s n) m := by
  unfold joinH
  split
  · exact setCh_eqn h1
  · exact (setCh_eqn h1).trans (setP_eqn h2)
theorem joinH_top {h : Hp} {q : Int} {s : Bool} {n : Int} : (joinH h q s n).top = h.top := by unfold joinH; split <;> rfl
theorem joinH_P {h : Hp} {q : Int} {s : Bool} {n : Int} (hn : n ≠ 0) : (joinH h q s n).P n = q := by unfold joinH; rw [if_neg hn]; exact if_pos rfl
theorem joinH_Pne {h : Hp} {q : Int} {s : Bool} {n m : Int} (hm : m ≠ n) : (joinH h q s n).P m = h.P m := by
  unfold joinH; split
  · rfl
  · exact if_neg hm
theorem joinH_ch {h : Hp} {q : Int} {s : Bool} {n : Int} : (joinH h q s n).ch s q = n := by
  unfold joinH; split
  · exact if_pos ⟨rfl, rfl⟩
  · exact if_pos ⟨rfl, rfl⟩
theorem joinH_chne {h : Hp} {q : Int} {s : Bool} {n : Int} {s' : Bool} {m : Int} (hm : s' ≠ s ∨ m ≠ q) : (joinH h q s n).ch s' m = h.ch s' m := by
  have : ¬ (s' = s ∧ m = q) := fun e => by rcases hm with h | h; exact h e.1; exact h e.2
  unfold joinH; split
  · exact if_neg this
  · exact if_neg this
theorem joinH_C {h : Hp} {q : Int} {s : Bool} {n m : Int} : (joinH h q s n).C m = h.C m := by unfold joinH; split <;> rfl
theorem joinH_O {h : Hp} {q : Int} {s : Bool} {n m : Int} : (joinH h q s n).O m = h.O m := by unfold joinH; split <;> rfl
theorem joinH_eqp {h : Hp} {q : Int} {s : Bool} {n m : Int} (hm : m ≠ q) : EqP h (joinH h q s n) m := ⟨joinH_C, joinH_O, fun s' => joinH_chne (.inr hm)⟩
theorem sideH_of {h : Hp} {f : Fr} {fs : List Fr} {x : Int} (R : RepC h (f :: fs) x) (hx : x ≠ f.sib.rt) : sideH h f.n x = f.s := by
  obtain ⟨h1, h2, h3, h4, h5, h6, h7, h8⟩ := R
  unfold sideH
  cases hs : f.s
  · rw [hs] at h5; rw [h5]; simp
  · rw [hs] at h6
    have : h.ch false f.n = f.sib.rt := h6
    rw [this]
    simp only [Bool.not_eq_true', beq_eq_false_iff_ne]
    exact fun e => hx e.symm
theorem placeH_C {h : Hp} {fs : List Fr} {o n : Int} (R : RepC h fs o) (hp : h.P o = pn fs) (ho : isN o) (hoc : o ∉ idsC fs) (hnd : (idsC fs).Nodup) (hn : n = 0 ∨ isN n) (hnc : n ∉ idsC fs) :
    RepC (placeH h o n) fs n ∧ (n ≠ 0 → (placeH h o n).P n = pn fs) ∧ (∀ m, m ∉ idsC fs → EqP h (placeH h o n) m) ∧ (∀ m, m ≠ n → (placeH h o n).P m = h.P m) ∧ (∀ m, m ∉ idsC fs → m ≠ n → Eqn h (placeH h o n) m) := by
  cases fs with
  | nil =>
    have hp0 : h.P o = 0 := hp
    unfold placeH
    rw [if_pos hp0]
    by_cases h0 : n = 0
    · rw [if_pos h0]
      exact ⟨rfl, fun hh => absurd h0 hh, fun m _ => ⟨rfl, rfl, fun _ => rfl⟩, fun m _ => rfl, fun m _ _ => ⟨rfl, rfl, rfl, fun _ => rfl⟩⟩
    · rw [if_neg h0]
      exact ⟨rfl, fun _ => if_pos rfl, fun m _ => ⟨rfl, rfl, fun _ => rfl⟩, fun m hm => if_neg hm, fun m _ hm => ⟨if_neg hm, rfl, rfl, fun _ => rfl⟩⟩
  | cons f fs =>
    have R0 := R
    obtain ⟨h1, h2, h3, h4, h5, h6, h7, h8⟩ := R
    have hpf : h.P o = f.n := hp
    have hsib : o ≠ f.sib.rt := fun e => by
      have : f.sib.rt ∈ f.sib.ids := rt_mem (e ▸ ho.ne0)
      exact hoc (by simp [idsC, e, this])
    unfold placeH
    rw [if_neg (by rw [hpf]; exact h1.ne0), hpf, sideH_of R0 hsib]
    rw [show idsC (f :: fs) = f.n :: (f.sib.ids ++ idsC fs) from rfl, List.nodup_cons, List.nodup_append] at hnd
    obtain ⟨n1, n2, n3, n4⟩ := hnd
    simp only [idsC, List.mem_cons, List.mem_append, not_or] at hnc hoc n1
    obtain ⟨c1, c2, c3⟩ := hnc
    refine ⟨⟨h1, (joinH_Pne (fun e => c1 e.symm)).trans h2, joinH_C.trans h3, joinH_O.trans h4, joinH_ch, (joinH_chne (.inl (by cases f.s <;> simp))).trans h6, h7.frame (fun m hm => joinH_eqn (fun e => n1.1 (e ▸ hm)) (fun e => c2 (e ▸ hm))), h8.frame (fun m hm => joinH_eqn (fun e => n1.2 (e ▸ hm)) (fun e => c3 (e ▸ hm))) joinH_top⟩, fun hh => joinH_P hh, ?_, fun m hm => joinH_Pne hm, ?_⟩
    · intro m hm
      simp only [idsC, List.mem_cons, not_or] at hm
      exact joinH_eqp hm.1
    · intro m hm hmn
      simp only [idsC, List.mem_cons, not_or] at hm
      exact joinH_eqn hm.1 hmn
theorem turn_foc {h : Hp} {fs : List Fr} {s cx cy : Bool} {a b c : Bt} {x y : Int} (F : Foc h fs (nd s cx a x (nd s cy b y c))) :
    Foc (turnH h x s) fs (nd s cy (nd s cx a x b) y c) ∧ ∀ m, m ≠ 0 → m ∉ idsC fs → m ∉ (nd s cx a x (nd s cy b y c)).ids → Eqn h (turnH h x s) m := by
  have hC := F.C
  rw [nd_rt] at hC
  obtain ⟨x1, x2, x3, x4, x5, x6, xa, xy⟩ := Rep_nd.1 F.T
  rw [nd_rt] at x6
  obtain ⟨y1, y2, y3, y4, y5, y6, yb, yc⟩ := Rep_nd.1 xy
  obtain ⟨na, ny, nxa, nxy, nay⟩ := nd_nodup.1 F.ndT
  obtain ⟨nb, nc, nyb, nyc, nbc⟩ := nd_nodup.1 ny
  have hxy : x ≠ y := fun e => nxy (nd_mem.2 (.inr (.inl e)))
  have hya : y ∉ a.ids := fun hh => nay y hh (nd_mem.2 (.inr (.inl rfl)))
  have hxb : x ∉ b.ids := fun hh => nxy (nd_mem.2 (.inl hh))
  have hxc : x ∉ c.ids := fun hh => nxy (nd_mem.2 (.inr (.inr hh)))
  have hab : ∀ m ∈ a.ids, m ∉ b.ids := fun m hm hh => nay m hm (nd_mem.2 (.inl hh))
  have hac : ∀ m ∈ a.ids, m ∉ c.ids := fun m hm hh => nay m hm (nd_mem.2 (.inr (.inr hh)))
  have dx : x ∉ idsC fs := F.dis (nd_mem.2 (.inr (.inl rfl)))
  have dy : y ∉ idsC fs := F.dis (nd_mem.2 (.inr (.inr (nd_mem.2 (.inr (.inl rfl))))))
  have da : ∀ m ∈ a.ids, m ∉ idsC fs := fun m hm => F.dis (nd_mem.2 (.inl hm))
  have db : ∀ m ∈ b.ids, m ∉ idsC fs := fun m hm => F.dis (nd_mem.2 (.inr (.inr (nd_mem.2 (.inl hm)))))
  have dc : ∀ m ∈ c.ids, m ∉ idsC fs := fun m hm => F.dis (nd_mem.2 (.inr (.inr (nd_mem.2 (.inr (.inr hm))))))
  obtain ⟨p1, p2, p3, p4, p5⟩ := placeH_C hC x2 x1 dx F.ndC (.inr y1) dy
  have yb0 : y ≠ b.rt := fun e => nyb (e ▸ rt_mem (e ▸ y1.ne0))
  have xb0 : x ≠ b.rt := fun e => hxb (e ▸ rt_mem (e ▸ x1.ne0))
  unfold turnH
  rw [x6]
  have hb1 : (placeH h x y).ch s y = b.rt := ((p3 y dy).2.2 s).trans y5
  rw [hb1]
  -- one after the other
  have brt : b.rt ∉ idsC fs := by
    intro e
    by_cases h0 : b.rt = 0
    · exact not_isN0 (h0 ▸ F.C.isN _ e)
    · exact db _ (rt_mem h0) e
  have fC : RepC (joinH (joinH (placeH h x y) x (!s) b.rt) y s x) fs y := by
    refine p1.frame (fun m hm => ?_) (joinH_top.trans joinH_top)
    have e1 : m ≠ x := fun e => dx (e ▸ hm)
    have e2 : m ≠ y := fun e => dy (e ▸ hm)
    have e3 : m ≠ b.rt := fun e => brt (e ▸ hm)
    exact (joinH_eqn e1 e3).trans (joinH_eqn e2 e1)
  have eqo : ∀ m, m ∉ idsC fs → m ≠ x → m ≠ y → m ≠ b.rt → Eqn h (joinH (joinH (placeH h x y) x (!s) b.rt) y s x) m := fun m hm e1 e2 e3 =>
    (p5 m hm e2).trans ((joinH_eqn e1 e3).trans (joinH_eqn e2 e1))
  have hss : (!s) ≠ s := by cases s <;> simp
  refine ⟨⟨by rw [nd_rt]; exact fC, Rep_nd.2 ⟨y1, ?_, ?_, ?_, ?_, ?_, ?_, ?_⟩, ?_⟩, ?_⟩
  · rw [joinH_Pne (fun e => hxy e.symm), joinH_Pne yb0]; exact p2 y1.ne0
  · exact joinH_C.trans (joinH_C.trans ((p3 y dy).1.trans y3))
  · exact joinH_O.trans (joinH_O.trans ((p3 y dy).2.1.trans y4))
  · rw [joinH_ch, nd_rt]
  · rw [joinH_chne (.inl hss), joinH_chne (.inr (fun e => hxy e.symm))]; exact ((p3 y dy).2.2 _).trans y6
  · refine Rep_nd.2 ⟨x1, joinH_P x1.ne0, ?_, ?_, ?_, ?_, ?_, ?_⟩
    · exact joinH_C.trans (joinH_C.trans ((p3 x dx).1.trans x3))
    · exact joinH_O.trans (joinH_O.trans ((p3 x dx).2.1.trans x4))
    · rw [joinH_chne (.inr hxy), joinH_chne (.inl (fun e => hss e.symm))]; exact ((p3 x dx).2.2 _).trans x5
    · rw [joinH_chne (.inr hxy), joinH_ch]
    · exact xa.frame (fun m hm => eqo m (da m hm) (fun e => nxa (e ▸ hm)) (fun e => hya (e ▸ hm)) (fun e => hab m hm (by
        have h0 : b.rt ≠ 0 := e ▸ (xa.isN m hm).ne0
        exact e ▸ rt_mem h0)))
    · refine yb.repar nb (fun h0 => ?_) (fun m hm => ?_) (fun m hm hne => ?_)
      · rw [joinH_Pne (fun e => xb0 e.symm)]; exact joinH_P h0
      · exact ((p3 m (db m hm)).trans (joinH_eqp (fun e => hxb (by rw [← e]; exact hm)))).trans (joinH_eqp (fun e => nyb (by rw [← e]; exact hm)))
      · rw [joinH_Pne (fun e => hxb (by rw [← e]; exact hm)), joinH_Pne hne]; exact p4 m (fun e => nyb (by rw [← e]; exact hm))
  · exact yc.frame (fun m hm => eqo m (dc m hm) (fun e => hxc (e ▸ hm)) (fun e => nyc (e ▸ hm)) (fun e => nbc b.rt (rt_mem (e ▸ (yc.isN m hm).ne0)) (e ▸ hm)))
  · rw [← nd_turn]; exact F.nd
  · intro m hm0 hm hmt
    simp only [nd_mem, not_or] at hmt
    refine eqo m hm hmt.2.1 hmt.2.2.2.1 (fun e => hmt.2.2.1 (e ▸ rt_mem (e ▸ hm0)))
end Go.Proofs.Ythkppnkhiimaeaa

/- Trees in links (layer 11), plain: colors right behind an addition. -/
set_option linter.unusedVariables false
set_option linter.unusedSimpArgs false
namespace Go.Proofs.Ythkppnkhiimaeaa
/-! ### The rules -/
def ok : Bt → Nat → Prop
  | .nil, k => k = 0
  | .node true l _ r, k => ok l k ∧ ok r k ∧ l.red = false ∧ r.red = false
  | .node false l _ r, k => ∃ j, k = j + 1 ∧ ok l j ∧ ok r j
theorem ok_r {s : Bool} {a b : Bt} {n : Int} {k : Nat} : ok (nd s true a n b) k ↔ ok a k ∧ ok b k ∧ a.red = false ∧ b.red = false := by
  cases s
  · exact Iff.rfl
  · exact ⟨fun ⟨h1, h2, h3, h4⟩ => ⟨h2, h1, h4, h3⟩, fun ⟨h1, h2, h3, h4⟩ => ⟨h2, h1, h4, h3⟩⟩
theorem ok_b {s : Bool} {a b : Bt} {n : Int} {k : Nat} : ok (nd s false a n b) (k + 1) ↔ ok a k ∧ ok b k := by
  cases s
  · constructor
    · rintro ⟨j, e, h1, h2⟩; obtain rfl : k = j := by omega
      exact ⟨h1, h2⟩
    · rintro ⟨h1, h2⟩; exact ⟨k, rfl, h1, h2⟩
  · constructor
    · rintro ⟨j, e, h1, h2⟩; obtain rfl : k = j := by omega
      exact ⟨h2, h1⟩
    · rintro ⟨h1, h2⟩; exact ⟨k, rfl, h2, h1⟩
theorem ok_b' {s : Bool} {a b : Bt} {n : Int} {k : Nat} (h : ok (nd s false a n b) k) : ∃ j, k = j + 1 ∧ ok a j ∧ ok b j := by
  cases s
  · exact h
  · obtain ⟨j, e, h1, h2⟩ := h; exact ⟨j, e, h2, h1⟩
def okC : List Fr → Nat → Prop
  | [], _ => True
  | f :: fs, k => if f.c then ok f.sib k ∧ f.sib.red = false ∧ redC fs = false ∧ fs ≠ [] ∧ okC fs k else ok f.sib k ∧ okC fs (k + 1)
theorem okC_r {f : Fr} {fs : List Fr} {k : Nat} (hc : f.c = true) : okC (f :: fs) k ↔ ok f.sib k ∧ f.sib.red = false ∧ redC fs = false ∧ fs ≠ [] ∧ okC fs k := by
  show (if f.c then _ else _) ↔ _
  rw [if_pos hc]
theorem okC_b {f : Fr} {fs : List Fr} {k : Nat} (hc : f.c = false) : okC (f :: fs) k ↔ ok f.sib k ∧ okC fs (k + 1) := by
  show (if f.c then _ else _) ↔ _
  rw [if_neg (by rw [hc]; decide)]
def RB (t : Bt) : Prop := ∃ k, ok t k ∧ t.red = false
theorem plug_ok : ∀ {fs : List Fr} {t : Bt} {k : Nat}, okC fs k → ok t k → (t.red = true → redC fs = false) → (fs = [] → t.red = false) → RB (plug fs t)
  | [], t, k, _, h, _, h0 => ⟨k, h, h0 rfl⟩
  | f :: fs, t, k, hC, h, hr, h0 => by
    show RB (plug fs _)
    cases hc : f.c
    · obtain ⟨h1, h2⟩ := (okC_b hc).1 hC
      exact plug_ok h2 (ok_b.2 ⟨h, h1⟩) (fun e => (by rw [nd_red] at e; cases e)) (fun _ => nd_red ..)
    · obtain ⟨h1, h2, h3, h4, h5⟩ := (okC_r hc).1 hC
      have htr : t.red = false := by
        cases e : t.red
        · rfl
        · have := hr e; rw [show redC (f :: fs) = f.c from rfl, hc] at this; cases this
      exact plug_ok h5 (ok_r.2 ⟨h, h1, htr, h2⟩) (fun _ => h3) (fun e => absurd e h4)
theorem unplug : ∀ {fs : List Fr} {t : Bt}, RB (plug fs t) → ∃ k, ok t k ∧ okC fs k ∧ (t.red = true → redC fs = false) ∧ (fs = [] → t.red = false)
  | [], t, ⟨k, h, hr⟩ => ⟨k, h, trivial, fun _ => rfl, fun _ => hr⟩
  | f :: fs, t, H => by
    obtain ⟨k, h1, h2, h3, h4⟩ := unplug (fs := fs) (t := nd f.s f.c t f.n f.sib) H
    cases hc : f.c
    · rw [hc] at h1
      obtain ⟨j, rfl, g1, g2⟩ := ok_b' h1
      exact ⟨j, g1, (okC_b hc).2 ⟨g2, h2⟩, fun _ => hc, fun e => (by cases e)⟩
    · rw [hc] at h1
      obtain ⟨g1, g2, g3, g4⟩ := ok_r.1 h1
      rw [nd_red] at h3 h4
      exact ⟨k, g1, (okC_r hc).2 ⟨g2, g4, h3 hc, fun e => (by rw [h4 e] at hc; cases hc), h2⟩, fun e => (by rw [g3] at e; cases e), fun e => (by cases e)⟩
theorem dye_self : ∀ {t : Bt}, t.red = false → t.dye false = t
  | .nil, _ => rfl
  | .node false _ _ _, _ => rfl
  | .node true _ _ _, h => by cases h
theorem nd_of_ok {t : Bt} (s : Bool) {k : Nat} (h : ok t (k + 1)) : ∃ c a n b, t = nd s c a n b := by
  cases t with
  | nil => exact absurd h (by simp [ok])
  | node c l n r => cases s; exact ⟨c, l, n, r, rfl⟩; exact ⟨c, r, n, l, rfl⟩
theorem nd_of_red {t : Bt} (s : Bool) (h : t.red = true) : ∃ a n b, t = nd s true a n b := by
  cases t with
  | nil => cases h
  | node c l n r => simp [Bt.red] at h; subst h; cases s; exact ⟨l, n, r, rfl⟩; exact ⟨r, n, l, rfl⟩
/-! ### Paint -/
theorem redH_rt {h : Hp} {p : Int} {t : Bt} (R : Rep h p t) : redH h t.rt = t.red := by
  cases t with
  | nil => rfl
  | node c l n r =>
    obtain ⟨h1, h2, h3, _⟩ := R
    show (n != 0 && h.C n == 1) = c
    rw [h3, show (n != 0) = true from by rw [bne_iff_ne]; exact h1.ne0]
    cases c <;> rfl
theorem paintH_eqn {h : Hp} {n : Int} {c : Bool} {m : Int} (hm : m ≠ n) : Eqn h (paintH h n c) m := by
  unfold paintH; split
  · exact Eqn.refl _ _
  · exact setC_eqn hm
theorem paintH_top {h : Hp} {n : Int} {c : Bool} : (paintH h n c).top = h.top := by unfold paintH; split <;> rfl
def Out (h h' : Hp) (S : List Int) : Prop := ∀ m, m ≠ 0 → m ∉ S → Eqn h h' m
theorem Out.trans {h h' h'' : Hp} {S : List Int} (a : Out h h' S) (b : Out h' h'' S) : Out h h'' S := fun m h0 hm => (a m h0 hm).trans (b m h0 hm)
theorem Out.refl (h : Hp) (S : List Int) : Out h h S := fun m _ _ => Eqn.refl _ _
theorem plug_mem {fs : List Fr} {t : Bt} {m : Int} : m ∈ (plug fs t).ids ↔ m ∈ idsC fs ∨ m ∈ t.ids := by
  rw [← (perm_plug fs t).mem_iff, List.mem_append]
theorem plug_ids : ∀ (fs : List Fr) {t t' : Bt}, t.ids = t'.ids → (plug fs t).ids = (plug fs t').ids
  | [], _, _, h => h
  | f :: fs, t, t', h => by
    refine plug_ids fs ?_
    cases hs : f.s
    · show t.ids ++ _ = t'.ids ++ _; rw [h]
    · show _ ++ _ :: t.ids = _ ++ _ :: t'.ids; rw [h]
structure Go_ (h : Hp) (fs : List Fr) (t : Bt) (h' : Hp) (fs' : List Fr) (t' : Bt) : Prop where
  F : Foc h' fs' t'
  ids : (plug fs' t').ids = (plug fs t).ids
  out : Out h h' (plug fs t).ids
theorem Go_.trans {h h' h'' : Hp} {fs fs' fs'' : List Fr} {t t' t'' : Bt} (a : Go_ h fs t h' fs' t') (b : Go_ h' fs' t' h'' fs'' t'') : Go_ h fs t h'' fs'' t'' :=
  ⟨b.F, b.ids.trans a.ids, a.out.trans (by rw [← a.ids]; exact b.out)⟩
theorem Go_.refl {h : Hp} {fs : List Fr} {t : Bt} (F : Foc h fs t) : Go_ h fs t h fs t := ⟨F, rfl, Out.refl _ _⟩
theorem turn_go {h : Hp} {fs : List Fr} {s cx cy : Bool} {a b c : Bt} {x y : Int} (F : Foc h fs (nd s cx a x (nd s cy b y c))) :
    Go_ h fs (nd s cx a x (nd s cy b y c)) (turnH h x s) fs (nd s cy (nd s cx a x b) y c) := by
  obtain ⟨h1, h2⟩ := turn_foc F
  exact ⟨h1, (plug_ids fs (nd_turn s cx cy a b c x y)).symm, fun m h0 hm => h2 m h0 (fun e => hm (plug_mem.2 (.inl e))) (fun e => hm (plug_mem.2 (.inr e)))⟩
theorem paint_go {h : Hp} {fs : List Fr} {t : Bt} (c : Bool) (F : Foc h fs t) (h0 : t.rt ≠ 0) : Go_ h fs t (paintH h t.rt c) fs (t.dye c) := by
  have hd := F.dis (rt_mem h0)
  refine ⟨⟨by rw [dye_rt]; exact F.C.frame (fun m hm => paintH_eqn (fun e => hd (e ▸ hm))) paintH_top, ?_, by rw [dye_ids]; exact F.nd⟩, plug_ids fs (dye_ids c t), fun m _ hm => paintH_eqn (fun e => hm (plug_mem.2 (.inr (e ▸ rt_mem h0))))⟩
  cases t with
  | nil => exact absurd rfl h0
  | node c0 l n r =>
    obtain ⟨h1, h2, h3, h4, h5, h6, h7, h8⟩ := F.T
    have hnd := (nd_nodup (s := false) (c := c0)).1 F.ndT
    have e : paintH h (Bt.node c0 l n r).rt c = h.setC n (cI c) := if_neg h1.ne0
    rw [e]
    exact ⟨h1, h2, if_pos rfl, h4, h5, h6, h7.frame (fun m hm => setC_eqn (fun e => hnd.2.2.1 (e ▸ hm))), h8.frame (fun m hm => setC_eqn (fun e => hnd.2.2.2.1 (e ▸ hm)))⟩
theorem paint_nd {h : Hp} {fs : List Fr} {s c0 : Bool} {a : Bt} {n : Int} {b : Bt} (c : Bool) (F : Foc h fs (nd s c0 a n b)) : Go_ h fs (nd s c0 a n b) (paintH h n c) fs (nd s c a n b) := by
  have h0 : (nd s c0 a n b).rt ≠ 0 := by rw [nd_rt]; exact (Rep_nd.1 F.T).1.ne0
  have := paint_go c F h0
  rw [nd_rt, nd_dye] at this
  exact this
theorem go_up {h : Hp} {f : Fr} {fs : List Fr} {t : Bt} (F : Foc h (f :: fs) t) : Go_ h (f :: fs) t h fs (nd f.s f.c t f.n f.sib) := ⟨Foc.up.1 F, rfl, Out.refl _ _⟩
theorem go_down {h : Hp} {s c : Bool} {a : Bt} {n : Int} {b : Bt} {fs : List Fr} (F : Foc h fs (nd s c a n b)) : Go_ h fs (nd s c a n b) h (⟨s, c, n, b⟩ :: fs) a := ⟨Foc.up.2 F, rfl, Out.refl _ _⟩
theorem go_eq {h : Hp} {fs : List Fr} {t t' : Bt} (F : Foc h fs t) (e : t = t') : Go_ h fs t h fs t' := by subst e; exact Go_.refl F
theorem paint_sib {h : Hp} {f : Fr} {fs : List Fr} {t : Bt} (c : Bool) (F : Foc h (f :: fs) t) (h0 : f.sib.rt ≠ 0) : Go_ h (f :: fs) t (paintH h f.sib.rt c) (⟨f.s, f.c, f.n, f.sib.dye c⟩ :: fs) t := by
  have g1 := go_up F
  have g2 := g1.trans (go_eq g1.F (nd_flip ..))
  have g3 := g2.trans (go_down g2.F)
  have g4 := g3.trans (paint_go c g3.F h0)
  have g5 := g4.trans (go_up g4.F)
  have g6 := g5.trans (go_eq g5.F (t' := nd f.s f.c t f.n (f.sib.dye c)) (by rw [nd_flip, Bool.not_not]))
  exact g6.trans (go_down g6.F)
theorem paint_up {h : Hp} {f : Fr} {fs : List Fr} {t : Bt} (c : Bool) (F : Foc h (f :: fs) t) : Go_ h (f :: fs) t (paintH h f.n c) (⟨f.s, c, f.n, f.sib⟩ :: fs) t := by
  have g1 := go_up F
  have g2 := g1.trans (paint_nd c g1.F)
  exact g2.trans (go_down g2.F)
/-! ### Right behind an addition -/
structure Tv (h : Hp) (x : Int) (s : Bool) : Prop where
  hx : isN x
  hy : isN (h.ch (!s) x)
  hp : h.P x = 0 ∨ isN (h.P x)
  hz : (placeH h x (h.ch (!s) x)).ch s (h.ch (!s) x) = 0 ∨ isN ((placeH h x (h.ch (!s) x)).ch s (h.ch (!s) x))
  hq : (placeH h x (h.ch (!s) x)).ch s (h.ch (!s) x) = h.ch s (h.ch (!s) x)
theorem pn_isN {h : Hp} {fs : List Fr} {x : Int} (R : RepC h fs x) : pn fs = 0 ∨ isN (pn fs) := by
  cases fs with
  | nil => exact .inl rfl
  | cons f fs => exact .inr R.1
theorem Tv.of {h : Hp} {fs : List Fr} {s cx cy : Bool} {a b c : Bt} {x y : Int} (F : Foc h fs (nd s cx a x (nd s cy b y c))) : Tv h x s := by
  have hC := F.C
  rw [nd_rt] at hC
  obtain ⟨x1, x2, x3, x4, x5, x6, xa, xy⟩ := Rep_nd.1 F.T
  rw [nd_rt] at x6
  obtain ⟨y1, y2, y3, y4, y5, y6, yb, yc⟩ := Rep_nd.1 xy
  have dx : x ∉ idsC fs := F.dis (nd_mem.2 (.inr (.inl rfl)))
  have dy : y ∉ idsC fs := F.dis (nd_mem.2 (.inr (.inr (nd_mem.2 (.inr (.inl rfl))))))
  obtain ⟨p1, p2, p3, p4, p5⟩ := placeH_C hC x2 x1 dx F.ndC (.inr y1) dy
  refine ⟨x1, by rw [x6]; exact y1, by rw [x2]; exact pn_isN F.C, ?_, by rw [x6]; exact (p3 y dy).2.2 s⟩
  rw [x6, (p3 y dy).2.2 s, y5]
  exact yb.rt
inductive AddedTr : Hp → Int → Hp → Prop
  | done {h : Hp} {x : Int} : isN x → (h.P x = 0 ∨ isN (h.P x)) → redH h (h.P x) = false → isN h.top → AddedTr h x (paintH h h.top false)
  | uncle {h h' : Hp} {x q g u : Int} {s : Bool} : isN x → h.P x = q → isN q → redH h q = true → h.P q = g → isN g → sideH h g q = s → h.ch (!s) g = u → isN u → redH h u = true →
      AddedTr (paintH (paintH (paintH h q false) u false) g true) g h' → AddedTr h x h'
  | outer {h h' : Hp} {x q g u : Int} {s : Bool} : isN x → h.P x = q → isN q → redH h q = true → h.P q = g → isN g → sideH h g q = s → h.ch (!s) g = u → (u = 0 ∨ isN u) → redH h u = false → sideH h q x = s →
      Tv (paintH (paintH h q false) g true) g (!s) → AddedTr (turnH (paintH (paintH h q false) g true) g (!s)) x h' → AddedTr h x h'
  | inner {h h' : Hp} {x q g u : Int} {s : Bool} : isN x → h.P x = q → isN q → redH h q = true → h.P q = g → isN g → sideH h g q = s → h.ch (!s) g = u → (u = 0 ∨ isN u) → redH h u = false → sideH h q x ≠ s →
      Tv h q s → Tv (paintH (paintH (turnH h q s) x false) g true) g (!s) → AddedTr (turnH (paintH (paintH (turnH h q s) x false) g true) g (!s)) q h' → AddedTr h x h'
theorem added_done {h : Hp} {fs : List Fr} {t : Bt} (F : Foc h fs t) (h0 : t.rt ≠ 0) (hr : redC fs = false) (hk : fs = [] ∨ RB (plug fs t)) {k : Nat} (hok : ok t k) (hred : t.red = true) :
    ∃ h' t', AddedTr h t.rt h' ∧ Go_ h fs t h' [] t' ∧ RB t' := by
  have hx : isN t.rt := F.T.isN _ (rt_mem h0)
  have hP : h.P t.rt = pn fs := by
    cases t with
    | nil => exact absurd rfl h0
    | node c l n r => exact F.T.2.1
  have FA := Foc.all.1 F
  have gA : Go_ h fs t h [] (plug fs t) := ⟨FA, rfl, Out.refl _ _⟩
  have hA0 : (plug fs t).rt ≠ 0 := by
    intro e
    have := FA.T.rt0 e
    have hm : t.rt ∈ (plug fs t).ids := plug_mem.2 (.inr (rt_mem h0))
    rw [this] at hm; cases hm
  have htop : h.top = (plug fs t).rt := FA.C
  have g := gA.trans (paint_go false FA hA0)
  refine ⟨_, _, AddedTr.done hx (by rw [hP]; exact pn_isN F.C) ?_ (by rw [htop]; exact FA.T.isN _ (rt_mem hA0)), by rw [htop]; exact g, ?_⟩
  · rw [hP]
    cases fs with
    | nil => rfl
    | cons f fs =>
      obtain ⟨h1, h2, h3, _⟩ := F.C
      have hc : f.c = false := hr
      show (f.n != 0 && h.C f.n == 1) = false
      rw [h3, hc]; simp [cI]
  · rcases hk with rfl | hk
    · show RB (t.dye false)
      obtain ⟨a, n, b, rfl⟩ := nd_of_red false hred
      rw [nd_dye]
      obtain ⟨g1, g2, _⟩ := ok_r.1 hok
      exact ⟨k + 1, ok_b.2 ⟨g1, g2⟩, nd_red ..⟩
    · obtain ⟨k', hk1, hk2⟩ := hk
      rw [dye_self hk2]
      exact ⟨k', hk1, hk2⟩
theorem rt_ne_sib {h : Hp} {f : Fr} {fs : List Fr} {t : Bt} (F : Foc h (f :: fs) t) (h0 : t.rt ≠ 0) : t.rt ≠ f.sib.rt := fun e => by
  have h1 : f.sib.rt ∈ f.sib.ids := rt_mem (e ▸ h0)
  exact F.dis (rt_mem h0) (by rw [e]; simp [idsC, h1])
theorem redH_f {h : Hp} {f : Fr} {fs : List Fr} {x : Int} (R : RepC h (f :: fs) x) : redH h f.n = f.c := by
  obtain ⟨h1, h2, h3, _⟩ := R
  show (f.n != 0 && h.C f.n == 1) = f.c
  rw [h3, show (f.n != 0) = true from by rw [bne_iff_ne]; exact h1.ne0]
  cases f.c <;> rfl
theorem added_foc : ∀ (N : Nat) (fs : List Fr) (h : Hp) (t : Bt) (k : Nat), fs.length ≤ N → Foc h fs t → t.red = true → ok t k → okC fs k → ∃ h' t', AddedTr h t.rt h' ∧ Go_ h fs t h' [] t' ∧ RB t' := by
  intro N
  induction N using Nat.strongRecOn with
  | _ N ih =>
    intro fs h t k hN F hred hk hC
    have h0 : t.rt ≠ 0 := by cases t with
      | nil => cases hred
      | node c l n r => exact F.T.1.ne0
    cases fs with
    | nil => exact added_done F h0 rfl (.inl rfl) hk hred
    | cons f fs =>
      cases hfc : f.c
      · exact added_done F h0 hfc (.inr (plug_ok hC hk (fun _ => hfc) (fun e => by cases e))) hk hred
      · obtain ⟨s1, s2, s3, s4, s5⟩ := (okC_r hfc).1 hC
        cases fs with
        | nil => exact absurd rfl s4
        | cons g fs =>
          have hgc : g.c = false := s3
          obtain ⟨u1, u2⟩ := (okC_b hgc).1 s5
          have hx : isN t.rt := F.T.isN _ (rt_mem h0)
          have hP : h.P t.rt = f.n := by cases t with
            | nil => cases hred
            | node c l n r => exact F.T.2.1
          have FU := Foc.up.1 F
          have hq : isN f.n := F.C.1
          have hPq : h.P f.n = g.n := F.C.2.1
          have hg : isN g.n := FU.C.1
          have hs : sideH h g.n f.n = g.s := by
            have := sideH_of FU.C (by have := rt_ne_sib FU (by rw [nd_rt]; exact hq.ne0); exact this)
            rw [nd_rt] at this; exact this
          have hu : h.ch (!g.s) g.n = g.sib.rt := FU.C.2.2.2.2.2.1
          have hru : redH h g.sib.rt = g.sib.red := redH_rt FU.C.2.2.2.2.2.2.1
          have hrq : redH h f.n = true := (redH_f F.C).trans hfc
          cases hgr : g.sib.red
          · -- the uncle is black
            rw [hgr] at hru
            by_cases hfs : f.s = g.s
            · -- outer
              have hsx : sideH h f.n t.rt = g.s := (sideH_of F.C (rt_ne_sib F h0)).trans hfs
              have g1 := paint_up false F
              have g2 := g1.trans (go_up g1.F)
              have g3 := g2.trans (paint_up true g2.F)
              have g4 := g3.trans (go_up g3.F)
              have g5 := g4.trans (go_eq g4.F (t' := nd (!g.s) true g.sib g.n (nd (!g.s) false f.sib f.n t)) (by
                show nd g.s true (nd f.s false t f.n f.sib) g.n g.sib = _
                rw [nd_flip g.s, nd_flip f.s, hfs]))
              have tv := Tv.of g5.F
              have g6 := g5.trans (turn_go g5.F)
              have g7 := g6.trans (go_eq g6.F (t' := nd g.s false t f.n (nd (!g.s) true g.sib g.n f.sib)) (by rw [nd_flip (!g.s) false, Bool.not_not]))
              have g8 := g7.trans (go_down g7.F)
              obtain ⟨h', t', a1, a2, a3⟩ := ih (fs.length + 1) (by simp at hN; omega) (⟨g.s, false, f.n, nd (!g.s) true g.sib g.n f.sib⟩ :: fs) _ t k (by simp) g8.F hred hk ((okC_b rfl).2 ⟨ok_r.2 ⟨u1, s1, hgr, s2⟩, u2⟩)
              exact ⟨h', t', .outer hx hP hq hrq hPq hg hs hu (FU.C.2.2.2.2.2.2.1.rt) hru hsx tv a1, g8.trans a2, a3⟩
            · -- inner
              have hsx : sideH h f.n t.rt ≠ g.s := by rw [sideH_of F.C (rt_ne_sib F h0)]; exact hfs
              have hfs' : f.s = !g.s := by cases hf : f.s <;> cases hg' : g.s <;> simp_all
              obtain ⟨na, xn, nb, rfl⟩ := nd_of_red g.s hred
              rw [nd_rt] at hP hsx hx h0
              rw [nd_rt]
              obtain ⟨k1, k2, k3, k4⟩ := ok_r.1 hk
              have g1 := go_up F
              have g2 := g1.trans (go_eq g1.F (t' := nd g.s true f.sib f.n (nd g.s true na xn nb)) (by rw [nd_flip f.s, hfs', hfc, Bool.not_not]))
              have tv1 := Tv.of g2.F
              have g3 := g2.trans (turn_go g2.F)
              have g4 := g3.trans (paint_nd false g3.F)
              have g5 := g4.trans (paint_up true g4.F)
              have g6 := g5.trans (go_up g5.F)
              have g7 := g6.trans (go_eq g6.F (t' := nd (!g.s) true g.sib g.n (nd (!g.s) false nb xn (nd g.s true f.sib f.n na))) (by
                show nd g.s true (nd g.s false (nd g.s true f.sib f.n na) xn nb) g.n g.sib = _
                rw [nd_flip g.s true _ g.n, nd_flip g.s false]))
              have tv2 := Tv.of g7.F
              have g8 := g7.trans (turn_go g7.F)
              have g9 := g8.trans (go_eq g8.F (t' := nd g.s false (nd g.s true f.sib f.n na) xn (nd (!g.s) true g.sib g.n nb)) (by rw [nd_flip (!g.s) false, Bool.not_not]))
              have g10 := g9.trans (go_down g9.F)
              obtain ⟨h', t', a1, a2, a3⟩ := ih (fs.length + 1) (by simp at hN; omega) (⟨g.s, false, xn, nd (!g.s) true g.sib g.n nb⟩ :: fs) _ (nd g.s true f.sib f.n na) k (by simp) g10.F (nd_red ..) (ok_r.2 ⟨s1, k1, s2, k3⟩) ((okC_b rfl).2 ⟨ok_r.2 ⟨u1, k2, hgr, k4⟩, u2⟩)
              rw [nd_rt] at a1
              exact ⟨h', t', .inner hx hP hq hrq hPq hg hs hu (FU.C.2.2.2.2.2.2.1.rt) hru hsx tv1 tv2 a1, g10.trans a2, a3⟩
          · -- the uncle is red
            rw [hgr] at hru
            obtain ⟨ua, un, ub, hus⟩ := nd_of_red false hgr
            have hun : g.sib.rt ≠ 0 := by
              intro e
              have := FU.C.2.2.2.2.2.2.1.rt0 e
              rw [this] at hgr; cases hgr
            have g1 := paint_up false F
            have g2 := g1.trans (go_up g1.F)
            have g3 := g2.trans (paint_sib false g2.F hun)
            have g4 := g3.trans (paint_up true g3.F)
            have g5 := g4.trans (go_up g4.F)
            have hku : ok (g.sib.dye false) (k + 1) := by
              rw [hus] at u1 ⊢
              rw [nd_dye]
              obtain ⟨v1, v2, _⟩ := ok_r.1 u1
              exact ok_b.2 ⟨v1, v2⟩
            have hdr : (g.sib.dye false).red = false := by rw [hus, nd_dye, nd_red]
            obtain ⟨h', t', a1, a2, a3⟩ := ih fs.length (by simp at hN; omega) fs _ _ (k + 1) (Nat.le_refl _) g5.F (nd_red ..) (ok_r.2 ⟨ok_b.2 ⟨hk, s1⟩, hku, nd_red .., hdr⟩) u2
            rw [nd_rt] at a1
            exact ⟨h', t', .uncle hx hP hq hrq hPq hg hs hu ((FU.C.2.2.2.2.2.2.1.rt).resolve_left hun) hru a1, g5.trans a2, a3⟩
end Go.Proofs.Ythkppnkhiimaeaa

/- Trees in links (layer 11), plain: colors right behind a removal. -/
set_option linter.unusedVariables false
set_option linter.unusedSimpArgs false
namespace Go.Proofs.Ythkppnkhiimaeaa
def remAH (h : Hp) (q : Int) (s : Bool) (v : Int) : Hp := turnH (paintH (paintH h v false) q true) q s
def remBH (h : Hp) (s : Bool) (v : Int) : Hp := turnH (paintH (paintH h (h.ch s v) false) v true) v (!s)
def remC1H (h : Hp) (q v : Int) : Hp := paintH (paintH h v (redH h q)) q false
def remCH (h : Hp) (q : Int) (s : Bool) (v : Int) : Hp := turnH (paintH (remC1H h q v) ((remC1H h q v).ch (!s) v) false) q s
structure CV (h : Hp) (q : Int) (s : Bool) (v : Int) : Prop where
  hq : isN q
  hv : isN v
  hf : isN ((remC1H h q v).ch (!s) v)
  ht : Tv (paintH (remC1H h q v) ((remC1H h q v).ch (!s) v) false) q s
inductive Rs2 (h : Hp) (q : Int) (s : Bool) (v : Int) : Hp → Int → Int → Prop
  | both : isN q → isN v → (h.ch false v = 0 ∨ isN (h.ch false v)) → (h.ch true v = 0 ∨ isN (h.ch true v)) → redH h (h.ch false v) = false → redH h (h.ch true v) = false →
      Rs2 h q s v (paintH h v true) q ((paintH h v true).P q)
  | far : (h.ch false v = 0 ∨ isN (h.ch false v)) → (h.ch true v = 0 ∨ isN (h.ch true v)) → ¬ (redH h (h.ch false v) = false ∧ redH h (h.ch true v) = false) → redH h (h.ch (!s) v) = true → CV h q s v →
      Rs2 h q s v (remCH h q s v) (remCH h q s v).top q
  | near {v2 : Int} : (h.ch false v = 0 ∨ isN (h.ch false v)) → (h.ch true v = 0 ∨ isN (h.ch true v)) → ¬ (redH h (h.ch false v) = false ∧ redH h (h.ch true v) = false) → redH h (h.ch (!s) v) = false →
      isN v → isN (h.ch s v) → Tv (paintH (paintH h (h.ch s v) false) v true) v (!s) → (remBH h s v).ch (!s) q = v2 → CV (remBH h s v) q s v2 →
      Rs2 h q s v (remCH (remBH h s v) q s v2) (remCH (remBH h s v) q s v2).top q
inductive RemovedTr : Hp → Int → Int → Hp → Prop
  | done {h : Hp} {x q : Int} : (x = 0 ∨ isN x) → (x = h.top ∨ redH h x = true) → RemovedTr h x q (paintH h x false)
  | black {h h1 h' : Hp} {x q v x1 q1 : Int} {s : Bool} : (x = 0 ∨ isN x) → x ≠ h.top → redH h x = false → isN q → sideH h q x = s → h.ch (!s) q = v → isN v → redH h v = false → Rs2 h q s v h1 x1 q1 → RemovedTr h1 x1 q1 h' → RemovedTr h x q h'
  | red {h h1 h' : Hp} {x q v v1 x1 q1 : Int} {s : Bool} : (x = 0 ∨ isN x) → x ≠ h.top → redH h x = false → isN q → sideH h q x = s → h.ch (!s) q = v → isN v → redH h v = true →
      Tv (paintH (paintH h v false) q true) q s → (remAH h q s v).ch (!s) q = v1 → isN v1 → Rs2 (remAH h q s v) q s v1 h1 x1 q1 → RemovedTr h1 x1 q1 h' → RemovedTr h x q h'
theorem go_over {h : Hp} {s c : Bool} {n : Int} {sib : Bt} {fs : List Fr} {t : Bt} (F : Foc h (⟨s, c, n, sib⟩ :: fs) t) : Go_ h (⟨s, c, n, sib⟩ :: fs) t h (⟨!s, c, n, t⟩ :: fs) sib := by
  have g1 := go_up F
  have g2 := g1.trans (go_eq g1.F (nd_flip ..))
  exact g2.trans (go_down g2.F)
theorem go_over' {h : Hp} {s c : Bool} {n : Int} {sib : Bt} {fs : List Fr} {t : Bt} (F : Foc h (⟨!s, c, n, t⟩ :: fs) sib) : Go_ h (⟨!s, c, n, t⟩ :: fs) sib h (⟨s, c, n, sib⟩ :: fs) t := by
  have := go_over F
  rw [Bool.not_not] at this
  exact this
theorem go_all {h : Hp} {fs : List Fr} {t : Bt} (F : Foc h fs t) : Go_ h fs t h [] (plug fs t) := ⟨Foc.all.1 F, rfl, Out.refl _ _⟩
theorem ch_s {h : Hp} {p : Int} {s c : Bool} {a : Bt} {n : Int} {b : Bt} (R : Rep h p (nd s c a n b)) : h.ch s n = a.rt ∧ h.ch (!s) n = b.rt := by
  obtain ⟨h1, h2, h3, h4, h5, h6, _⟩ := Rep_nd.1 R
  exact ⟨h5, h6⟩
theorem kids {h : Hp} {p : Int} {s c : Bool} {a : Bt} {n : Int} {b : Bt} (R : Rep h p (nd s c a n b)) :
    (h.ch false n = 0 ∨ isN (h.ch false n)) ∧ (h.ch true n = 0 ∨ isN (h.ch true n)) ∧ ((redH h (h.ch false n) = false ∧ redH h (h.ch true n) = false) ↔ (a.red = false ∧ b.red = false)) := by
  obtain ⟨h1, h2, h3, h4, h5, h6, h7, h8⟩ := Rep_nd.1 R
  cases s
  · rw [h5, show h.ch true n = b.rt from h6]
    exact ⟨h7.rt, h8.rt, by rw [redH_rt h7, redH_rt h8]⟩
  · rw [h5, show h.ch false n = b.rt from h6]
    exact ⟨h8.rt, h7.rt, by rw [redH_rt h7, redH_rt h8]; exact And.comm⟩
theorem stepC {h : Hp} {s c : Bool} {q v : Int} {near far t : Bt} {fs : List Fr} {k : Nat} (F : Foc h (⟨s, c, q, nd s false near v far⟩ :: fs) t) (hf : far.red = true) (hn : ok near k) (hfar : ok far k) (ht : ok t k)
    (hC : okC (⟨s, c, q, nd s false near v far⟩ :: fs) (k + 1)) : CV h q s v ∧ ∃ t1, Go_ h (⟨s, c, q, nd s false near v far⟩ :: fs) t (remCH h q s v) [] t1 ∧ RB t1 := by
  have hq : isN q := F.C.1
  have hrq : redH h q = c := redH_f F.C
  have RS := F.C.2.2.2.2.2.2.1
  have hv : isN v := (Rep_nd.1 RS).1
  have hv0 : (nd s false near v far).rt ≠ 0 := by rw [nd_rt]; exact hv.ne0
  have hf0 : far.rt ≠ 0 := by
    have := (Rep_nd.1 RS).2.2.2.2.2.2.2
    intro e; have := this.rt0 e; rw [this] at hf; cases hf
  have e1 : remC1H h q v = paintH (paintH h v c) q false := by unfold remC1H; rw [hrq]
  have g1 := paint_sib c F hv0
  rw [nd_rt, nd_dye] at g1
  have g2 := g1.trans (paint_up false g1.F)
  rw [← e1] at g2
  have hch : (remC1H h q v).ch (!s) v = far.rt := (ch_s g2.F.C.2.2.2.2.2.2.1).2
  have g3 := g2.trans (go_over g2.F)
  have g4 := g3.trans (go_eq g3.F (t' := nd (!s) c far v near) (nd_flip ..))
  have g5 := g4.trans (go_down g4.F)
  have hfN : isN far.rt := g5.F.T.isN _ (rt_mem hf0)
  have g6 := g5.trans (paint_go false g5.F hf0)
  have g7 := g6.trans (go_up g6.F)
  have g8 := g7.trans (go_eq g7.F (t' := nd s c near v (far.dye false)) (by rw [nd_flip, Bool.not_not]))
  have g9 := g8.trans (go_over' g8.F)
  have g10 := g9.trans (go_up g9.F)
  have tv : Tv _ q s := Tv.of g10.F
  have g11 := g10.trans (turn_go g10.F)
  have g12 := g11.trans (go_all g11.F)
  refine ⟨⟨hq, hv, by rw [hch]; exact hfN, by rw [hch]; exact tv⟩, _, by unfold remCH; rw [hch]; exact g12, ?_⟩
  have kf : ok (far.dye false) (k + 1) ∧ (far.dye false).red = false := by
    obtain ⟨fa, fn, fb, rfl⟩ := nd_of_red false hf
    rw [nd_dye]
    obtain ⟨v1, v2, _⟩ := ok_r.1 hfar
    exact ⟨ok_b.2 ⟨v1, v2⟩, nd_red ..⟩
  cases c
  · obtain ⟨_, u2⟩ := (okC_b rfl).1 hC
    exact plug_ok u2 (ok_b.2 ⟨ok_b.2 ⟨ht, hn⟩, kf.1⟩) (fun e => by rw [nd_red] at e; cases e) (fun _ => nd_red ..)
  · obtain ⟨_, _, u3, u4, u5⟩ := (okC_r rfl).1 hC
    exact plug_ok u5 (ok_r.2 ⟨ok_b.2 ⟨ht, hn⟩, kf.1, nd_red .., kf.2⟩) (fun _ => u3) (fun e => absurd e u4)
def Nx (fs : List Fr) (t : Bt) (k : Nat) : Prop := okC fs (k + 1) ∧ ((t.red = true ∧ ok (t.dye false) (k + 1)) ∨ (t.red = false ∧ ok t k))
theorem step2 {h : Hp} {s c : Bool} {q : Int} {sib t : Bt} {fs : List Fr} {k : Nat} (F : Foc h (⟨s, c, q, sib⟩ :: fs) t) (hs : sib.red = false) (hk : ok sib (k + 1)) (ht : ok t k) (htr : t.red = false) (hC : okC (⟨s, c, q, sib⟩ :: fs) (k + 1)) :
    ∃ h1 x1 q1, Rs2 h q s sib.rt h1 x1 q1 ∧ ((∃ t1 k1, x1 = t1.rt ∧ q1 = pn fs ∧ Go_ h (⟨s, c, q, sib⟩ :: fs) t h1 fs t1 ∧ Nx fs t1 k1 ∧ (c = true → t1.red = true)) ∨ (∃ t1, Go_ h (⟨s, c, q, sib⟩ :: fs) t h1 [] t1 ∧ RB t1 ∧ x1 = h1.top)) := by
  obtain ⟨c0, near, v, far, rfl⟩ := nd_of_ok s hk
  rw [nd_red] at hs
  subst hs
  rw [nd_rt]
  obtain ⟨hn, hf⟩ := ok_b.1 hk
  have hq : isN q := F.C.1
  have RS := F.C.2.2.2.2.2.2.1
  have hv : isN v := (Rep_nd.1 RS).1
  have hv0 : (nd s false near v far).rt ≠ 0 := by rw [nd_rt]; exact hv.ne0
  obtain ⟨kf, kt, kk⟩ := kids RS
  obtain ⟨cs1, cs2⟩ := ch_s RS
  have Rn := (Rep_nd.1 RS).2.2.2.2.2.2.1
  have Rf := (Rep_nd.1 RS).2.2.2.2.2.2.2
  cases hfr : far.red
  · cases hnr : near.red
    · -- both black
      have hb := kk.2 ⟨hnr, hfr⟩
      have g1 := paint_sib true F hv0
      rw [nd_rt, nd_dye] at g1
      have hP : (paintH h v true).P q = pn fs := g1.F.C.2.1
      have g2 := g1.trans (go_up g1.F)
      refine ⟨_, _, _, .both hq hv kf kt hb.1 hb.2, .inl ⟨_, (if c then k else k + 1), (nd_rt ..).symm, hP, g2, ?_⟩⟩
      have kw : ok (nd s true near v far) k := ok_r.2 ⟨hn, hf, hnr, hfr⟩
      cases c
      · obtain ⟨_, u2⟩ := (okC_b rfl).1 hC
        exact ⟨⟨u2, .inr ⟨nd_red .., ok_b.2 ⟨ht, kw⟩⟩⟩, fun e => by cases e⟩
      · obtain ⟨_, _, u3, u4, u5⟩ := (okC_r rfl).1 hC
        exact ⟨⟨u5, .inl ⟨nd_red .., by rw [nd_dye]; exact ok_b.2 ⟨ht, kw⟩⟩⟩, fun _ => nd_red ..⟩
    · -- the near one is red
      have hnb : ¬ (redH h (h.ch false v) = false ∧ redH h (h.ch true v) = false) := fun e => by have := (kk.1 e).1; rw [hnr] at this; cases this
      have hfb : redH h (h.ch (!s) v) = false := by rw [cs2, redH_rt Rf]; exact hfr
      obtain ⟨n1, m, n2, rfl⟩ := nd_of_red s hnr
      have hm : isN m := (Rep_nd.1 Rn).1
      rw [nd_rt] at cs1
      obtain ⟨k1, k2, k3, k4⟩ := ok_r.1 hn
      have g1 := go_over F
      have g2 := g1.trans (go_down g1.F)
      have g3 := g2.trans (paint_nd false g2.F)
      have g4 := g3.trans (paint_up true g3.F)
      have g5 := g4.trans (go_up g4.F)
      have g6 := g5.trans (go_eq g5.F (t' := nd (!s) true far v (nd (!s) false n2 m n1)) (by
        show nd s true (nd s false n1 m n2) v far = _
        rw [nd_flip s true, nd_flip s false]))
      have tv := Tv.of g6.F
      have g7 := g6.trans (turn_go g6.F)
      have g8 := g7.trans (go_eq g7.F (t' := nd s false n1 m (nd s true n2 v far)) (by rw [nd_flip (!s) false, nd_flip (!s) true, Bool.not_not]))
      have g9 := g8.trans (go_over' g8.F)
      have eB : remBH h s v = turnH (paintH (paintH h m false) v true) v (!s) := by unfold remBH; rw [cs1]
      rw [← eB] at g9
      have hv2 : (remBH h s v).ch (!s) q = m := by have := g9.F.C.2.2.2.2.2.1; rw [nd_rt] at this; exact this
      have hC2 : okC (⟨s, c, q, nd s false n1 m (nd s true n2 v far)⟩ :: fs) (k + 1) := by
        have e3 : ok (nd s false n1 m (nd s true n2 v far)) (k + 1) := ok_b.2 ⟨k1, ok_r.2 ⟨k2, hf, k4, hfr⟩⟩
        cases c
        · obtain ⟨_, u2⟩ := (okC_b rfl).1 hC
          exact (okC_b rfl).2 ⟨e3, u2⟩
        · obtain ⟨_, _, u3, u4, u5⟩ := (okC_r rfl).1 hC
          exact (okC_r rfl).2 ⟨e3, nd_red .., u3, u4, u5⟩
      obtain ⟨cv, t1, gC, hrb⟩ := stepC g9.F (nd_red ..) k1 (ok_r.2 ⟨k2, hf, k4, hfr⟩) ht hC2
      refine ⟨_, _, _, .near kf kt hnb hfb hv (by rw [cs1]; exact hm) (by rw [cs1]; exact tv) hv2 cv, .inr ⟨t1, g9.trans gC, hrb, rfl⟩⟩
  · -- the far one is red
    have hnb : ¬ (redH h (h.ch false v) = false ∧ redH h (h.ch true v) = false) := fun e => by have := (kk.1 e).2; rw [hfr] at this; cases this
    have hfb : redH h (h.ch (!s) v) = true := by rw [cs2, redH_rt Rf]; exact hfr
    obtain ⟨cv, t1, gC, hrb⟩ := stepC F hfr hn hf ht hC
    exact ⟨_, _, _, .far kf kt hnb hfb cv, .inr ⟨t1, gC, hrb, rfl⟩⟩
theorem plug_rt : ∀ (fs : List Fr) (f : Fr) (t : Bt), (plug (f :: fs) t).rt ∈ idsC (f :: fs)
  | [], f, t => by show (nd f.s f.c t f.n f.sib).rt ∈ _; rw [nd_rt]; simp [idsC]
  | g :: fs, f, t => by
    have := plug_rt fs g (nd f.s f.c t f.n f.sib)
    show (plug (g :: fs) (nd f.s f.c t f.n f.sib)).rt ∈ _
    simp only [idsC, List.mem_cons, List.mem_append] at this ⊢
    exact .inr (.inr this)
theorem top_ne {h : Hp} {f : Fr} {fs : List Fr} {t : Bt} (F : Foc h (f :: fs) t) : t.rt ≠ h.top := by
  have htop : h.top = (plug (f :: fs) t).rt := (Foc.all.1 F).C
  rw [htop]
  intro e
  have hm := plug_rt fs f t
  rw [← e] at hm
  have hN := F.C.isN _ hm
  exact F.dis (rt_mem hN.ne0) hm
theorem done_top {h : Hp} {t : Bt} {q : Int} (F : Foc h [] t) (hr : RB t) : RemovedTr h h.top q (paintH h h.top false) ∧ Go_ h [] t (paintH h h.top false) [] t := by
  have htop : h.top = t.rt := F.C
  rw [htop]
  refine ⟨.done F.T.rt (.inl htop.symm), ?_⟩
  by_cases h0 : t.rt = 0
  · rw [h0]; exact Go_.refl F
  · have := paint_go false F h0
    obtain ⟨k, _, hk⟩ := hr
    rw [dye_self hk] at this
    exact this
theorem removed_foc : ∀ (N : Nat) (fs : List Fr) (h : Hp) (t : Bt) (k : Nat), fs.length ≤ N → Foc h fs t → Nx fs t k → ∃ h' t', RemovedTr h t.rt (pn fs) h' ∧ Go_ h fs t h' [] t' ∧ RB t' := by
  intro N
  induction N using Nat.strongRecOn with
  | _ N ih =>
    rintro fs h t k hN F ⟨hC, hT⟩
    rcases hT with ⟨hr, hk⟩ | ⟨hr, hk⟩
    · -- red: paint it
      have h0 : t.rt ≠ 0 := by cases t with
        | nil => cases hr
        | node c l n r => exact F.T.1.ne0
      have g1 := paint_go false F h0
      have g2 := g1.trans (go_all g1.F)
      have hd : (t.dye false).red = false := by cases t <;> rfl
      exact ⟨_, _, .done F.T.rt (.inr ((redH_rt F.T).trans hr)), g2, plug_ok hC hk (fun e => by rw [hd] at e; cases e) (fun _ => hd)⟩
    · cases fs with
      | nil =>
        have hrb : RB t := ⟨k, hk, hr⟩
        have htop : h.top = t.rt := F.C
        obtain ⟨d1, d2⟩ := done_top (q := pn []) F hrb
        rw [htop] at d1 d2
        exact ⟨_, _, d1, d2, hrb⟩
      | cons f fs =>
        have hks : ok f.sib (k + 1) := by
          cases hc : f.c
          · exact ((okC_b hc).1 hC).1
          · exact ((okC_r hc).1 hC).1
        have hq : isN f.n := F.C.1
        have RS := F.C.2.2.2.2.2.2.1
        have hv0 : f.sib.rt ≠ 0 := by
          obtain ⟨c0, a, n, b, e⟩ := nd_of_ok false hks
          rw [e] at RS ⊢
          rw [nd_rt]; exact (Rep_nd.1 RS).1.ne0
        have hv : isN f.sib.rt := RS.rt.resolve_left hv0
        have hside : sideH h f.n t.rt = f.s := by
          refine sideH_of F.C (fun e => ?_)
          exact F.dis (rt_mem (e ▸ hv0)) (by rw [e]; simp [idsC, rt_mem hv0])
        have hch : h.ch (!f.s) f.n = f.sib.rt := F.C.2.2.2.2.2.1
        have htop := top_ne F
        have hrx : redH h t.rt = false := (redH_rt F.T).trans hr
        cases hsr : f.sib.red
        · obtain ⟨h1, x1, q1, r2, hor⟩ := step2 (s := f.s) (c := f.c) (q := f.n) (sib := f.sib) F hsr hks hk hr hC
          have hrv : redH h f.sib.rt = false := (redH_rt RS).trans hsr
          rcases hor with ⟨t1, k1, rfl, rfl, g1, nx, _⟩ | ⟨t1, g1, hrb, rfl⟩
          · obtain ⟨h', t', a1, a2, a3⟩ := ih fs.length (by simp at hN; omega) fs h1 t1 k1 (Nat.le_refl _) g1.F nx
            exact ⟨h', t', .black F.T.rt htop hrx hq hside hch hv hrv r2 a1, g1.trans a2, a3⟩
          · obtain ⟨d1, d2⟩ := done_top (q := q1) g1.F hrb
            exact ⟨_, _, .black F.T.rt htop hrx hq hside hch hv hrv r2 d1, g1.trans d2, hrb⟩
        · -- the sibling is red
          have hfc : f.c = false := by
            cases hc : f.c
            · rfl
            · have := ((okC_r hc).1 hC).2.1; rw [hsr] at this; cases this
          obtain ⟨_, u2⟩ := (okC_b hfc).1 hC
          obtain ⟨near, w, far, hsib⟩ := nd_of_red f.s hsr
          have hw : f.sib.rt = w := by rw [hsib, nd_rt]
          rw [hsib] at hks
          obtain ⟨k1, k2, k3, k4⟩ := ok_r.1 hks
          have g1 := paint_sib false F hv0
          have g2 := g1.trans (paint_up true g1.F)
          have g3 := g2.trans (go_up g2.F)
          have g4 := g3.trans (go_eq g3.F (t' := nd f.s true t f.n (nd f.s false near w far)) (by show nd f.s true t f.n (f.sib.dye false) = _; rw [hsib, nd_dye]))
          have tv := Tv.of g4.F
          have g5 := g4.trans (turn_go g4.F)
          have g6 := g5.trans (go_down g5.F)
          have g7 := g6.trans (go_down g6.F)
          have hC7 : okC (⟨f.s, true, f.n, near⟩ :: ⟨f.s, false, w, far⟩ :: fs) (k + 1) := (okC_r rfl).2 ⟨k1, k3, rfl, by simp, (okC_b rfl).2 ⟨k2, u2⟩⟩
          obtain ⟨h1, x1, q1, r2, hor⟩ := step2 (s := f.s) (c := true) (q := f.n) (sib := near) g7.F k3 k1 hk hr hC7
          have hrv : redH h f.sib.rt = true := (redH_rt RS).trans hsr
          have hv1 : (remAH h f.n f.s f.sib.rt).ch (!f.s) f.n = near.rt := g7.F.C.2.2.2.2.2.1
          have hvn : isN near.rt := by
            obtain ⟨c0, a, n, b, e⟩ := nd_of_ok false k1
            have R7 := g7.F.C.2.2.2.2.2.2.1
            refine R7.rt.resolve_left ?_
            show near.rt ≠ 0
            have : Rep _ _ near := R7
            rw [e] at this ⊢
            rw [nd_rt]; exact (Rep_nd.1 this).1.ne0
          rcases hor with ⟨t1, k1', rfl, rfl, g8, nx, hred1⟩ | ⟨t1, g8, hrb, rfl⟩
          · -- below a red one: t1 is red: painted at once
            have gg := g7.trans g8
            rcases nx with ⟨nxC, ⟨n1, n2⟩ | ⟨n1, n2⟩⟩
            · have h0 : t1.rt ≠ 0 := by cases t1 with
                | nil => cases n1
                | node c l n r => exact gg.F.T.1.ne0
              have g9 := gg.trans (paint_go false gg.F h0)
              have g10 := g9.trans (go_all g9.F)
              have hd : (t1.dye false).red = false := by cases t1 <;> rfl
              exact ⟨_, _, .red F.T.rt htop hrx hq hside hch hv hrv tv hv1 hvn r2 (.done gg.F.T.rt (.inr ((redH_rt gg.F.T).trans n1))), g10, plug_ok nxC n2 (fun e => by rw [hd] at e; cases e) (fun _ => hd)⟩
            · rw [hred1 rfl] at n1; cases n1
          · obtain ⟨d1, d2⟩ := done_top (q := q1) g8.F hrb
            exact ⟨_, _, .red F.T.rt htop hrx hq hside hch hv hrv tv hv1 hvn r2 d1, (g7.trans g8).trans d2, hrb⟩
end Go.Proofs.Ythkppnkhiimaeaa

/- Trees in links (layer 11), plain: an addition; a removal. -/
set_option linter.unusedVariables false
set_option linter.unusedSimpArgs false
namespace Go.Proofs.Ythkppnkhiimaeaa
/-! ### In order -/
def pre : List Fr → List Int
  | [] => []
  | f :: fs => if f.s then pre fs ++ f.sib.ids ++ [f.n] else pre fs
def post : List Fr → List Int
  | [] => []
  | f :: fs => if f.s then post fs else f.n :: (f.sib.ids ++ post fs)
theorem plug_io : ∀ (fs : List Fr) (t : Bt), (plug fs t).ids = pre fs ++ t.ids ++ post fs
  | [], t => by simp [plug, pre, post]
  | f :: fs, t => by
    show (plug fs _).ids = _
    rw [plug_io fs]
    cases hs : f.s
    · simp [pre, post, hs, nd, Bt.ids]
    · simp [pre, post, hs, nd, Bt.ids]
theorem plug_app : ∀ (gs fs : List Fr) (t : Bt), plug (gs ++ fs) t = plug fs (plug gs t)
  | [], fs, t => rfl
  | g :: gs, fs, t => plug_app gs fs _
/-! ### Cleared -/
def clrH (h : Hp) (z : Int) : Hp := { h with ch := fun s m => if m = z then 0 else h.ch s m, P := fun m => if m = z then 0 else h.P m, O := fun m => if m = z then 0 else h.O m, C := fun m => if m = z then 0 else h.C m }
theorem clrH_eqn {h : Hp} {z m : Int} (hm : m ≠ z) : Eqn h (clrH h z) m := ⟨if_neg hm, if_neg hm, if_neg hm, fun _ => if_neg hm⟩
theorem clr_foc {h : Hp} {fs : List Fr} {t : Bt} {z : Int} (F : Foc h fs t) (h1 : z ∉ idsC fs) (h2 : z ∉ t.ids) : Foc (clrH h z) fs t :=
  ⟨F.C.frame (fun m hm => clrH_eqn (fun e => h1 (e ▸ hm))) rfl, F.T.frame (fun m hm => clrH_eqn (fun e => h2 (e ▸ hm))), F.nd⟩
def Free (h : Hp) (n : Int) : Prop := h.P n = 0 ∧ h.O n = 0 ∧ h.C n = 0 ∧ ∀ s, h.ch s n = 0
theorem clr_free (h : Hp) (z : Int) : Free (clrH h z) z := ⟨if_pos rfl, if_pos rfl, if_pos rfl, fun _ => if_pos rfl⟩
theorem Free.eqn {h h' : Hp} {n : Int} (F : Free h n) (e : Eqn h h' n) : Free h' n := ⟨e.1.trans F.1, e.2.2.1.trans F.2.1, e.2.1.trans F.2.2.1, fun s => (e.2.2.2 s).trans (F.2.2.2 s)⟩
/-! ### An addition -/
def freshH (h : Hp) (n : Int) : Hp := paintH ((clrH h n).setO n 8) n true
def attH (h : Hp) (n q : Int) (s : Bool) : Hp := if q = 0 then (freshH h n).setTop n else joinH (freshH h n) q s n
theorem setO_eqn {h : Hp} {n v m : Int} (hm : m ≠ n) : Eqn h (h.setO n v) m := ⟨rfl, rfl, if_neg hm, fun _ => rfl⟩
theorem freshH_eqn {h : Hp} {n m : Int} (hm : m ≠ n) : Eqn h (freshH h n) m := (clrH_eqn hm).trans ((setO_eqn hm).trans (paintH_eqn hm))
theorem freshH_self {h : Hp} {n : Int} (hn : n ≠ 0) : (freshH h n).P n = 0 ∧ (freshH h n).O n = 8 ∧ (freshH h n).C n = 1 ∧ ∀ s, (freshH h n).ch s n = 0 := by
  have e : freshH h n = ((clrH h n).setO n 8).setC n (cI true) := if_neg hn
  rw [e]
  exact ⟨if_pos rfl, if_pos rfl, if_pos rfl, fun _ => if_pos rfl⟩
theorem freshH_top {h : Hp} {n : Int} : (freshH h n).top = h.top := paintH_top
theorem att_foc {h : Hp} {fs : List Fr} {n : Int} {s : Bool} (F : Foc h fs .nil) (hn : isN n) (hnc : n ∉ idsC fs) (hs : ∀ f ∈ fs.head?, f.s = s) :
    Foc (attH h n (pn fs) s) fs (.node true .nil n .nil) ∧ ∀ m, m ≠ 0 → m ∉ idsC fs → m ≠ n → Eqn h (attH h n (pn fs) s) m := by
  obtain ⟨f1, f2, f3, f4⟩ := freshH_self (h := h) hn.ne0
  have hnd : (idsC fs ++ (Bt.node true .nil n .nil).ids).Nodup := by
    show (idsC fs ++ [n]).Nodup
    rw [List.nodup_append]
    exact ⟨F.ndC, by simp, fun a ha b hb e => by simp at hb; subst hb; subst e; exact hnc ha⟩
  cases fs with
  | nil =>
    have e : attH h n (pn []) s = (freshH h n).setTop n := if_pos rfl
    rw [e]
    exact ⟨⟨rfl, ⟨hn, f1, f3, f2, f4 false, f4 true, trivial, trivial⟩, hnd⟩, fun m _ _ hm => freshH_eqn hm⟩
  | cons f fs =>
    have hfs : f.s = s := hs f rfl
    have hq : isN f.n := F.C.1
    have e : attH h n (pn (f :: fs)) s = joinH (freshH h n) f.n s n := if_neg hq.ne0
    rw [e]
    simp only [idsC, List.mem_cons, List.mem_append, not_or] at hnc
    obtain ⟨c1, c2, c3⟩ := hnc
    obtain ⟨h1, h2, h3, h4, h5, h6, h7, h8⟩ := F.C
    have ndC := F.ndC
    rw [show idsC (f :: fs) = f.n :: (f.sib.ids ++ idsC fs) from rfl, List.nodup_cons, List.nodup_append] at ndC
    obtain ⟨n1, n2, n3, n4⟩ := ndC
    simp only [List.mem_append, not_or] at n1
    have fe := freshH_eqn (h := h) (n := n) (m := f.n) (fun e => c1 e.symm)
    have key : ∀ m, m ≠ f.n → m ≠ n → Eqn h (joinH (freshH h n) f.n s n) m := fun m hm1 hm2 => (freshH_eqn hm2).trans (joinH_eqn hm1 hm2)
    refine ⟨⟨⟨h1, ?_, ?_, ?_, ?_, ?_, h7.frame (fun m hm => key m (fun e => n1.1 (e ▸ hm)) (fun e => c2 (e ▸ hm))), h8.frame (fun m hm => key m (fun e => n1.2 (e ▸ hm)) (fun e => c3 (e ▸ hm))) (joinH_top.trans freshH_top)⟩, ⟨hn, joinH_P hn.ne0, joinH_C.trans f3, joinH_O.trans f2, ?_, ?_, trivial, trivial⟩, hnd⟩, ?_⟩
    · rw [joinH_Pne (fun e => c1 e.symm)]; exact fe.1.trans h2
    · exact joinH_C.trans (fe.2.1.trans h3)
    · exact joinH_O.trans (fe.2.2.1.trans h4)
    · rw [hfs]; exact joinH_ch
    · rw [joinH_chne (.inl (by rw [hfs]; cases s <;> simp))]; exact (fe.2.2.2 _).trans h6
    · rw [joinH_chne (.inr c1)]; exact f4 false
    · rw [joinH_chne (.inr c1)]; exact f4 true
    · intro m _ hm hmn
      simp only [idsC, List.mem_cons, not_or] at hm
      exact key m hm.1 hmn
inductive DescTr (h : Hp) (key : Int → Int) (kn : Int) : Nat → Int → Int → Bool → Int → Bool → Prop
  | done {q : Int} {s : Bool} : DescTr h key kn 0 0 q s q s
  | left {k : Nat} {m q q' : Int} {s s' : Bool} : isN m → kn < key m → DescTr h key kn k (h.ch false m) m false q' s' → DescTr h key kn (k + 1) m q s q' s'
  | right {k : Nat} {m q q' : Int} {s s' : Bool} : isN m → ¬ kn < key m → DescTr h key kn k (h.ch true m) m true q' s' → DescTr h key kn (k + 1) m q s q' s'
def Srt (key : Int → Int) (L : List Int) : Prop := L.Pairwise (fun a b => key a ≤ key b)
theorem desc_foc {h : Hp} {key : Int → Int} {kn : Int} : ∀ (t : Bt) (fs : List Fr) (s0 : Bool), Foc h fs t → Srt key t.ids → (∀ f ∈ fs.head?, f.s = s0) → (∀ a ∈ pre fs, key a ≤ kn) → (∀ a ∈ post fs, kn < key a) →
    ∃ k fs' s', DescTr h key kn k t.rt (pn fs) s0 (pn fs') s' ∧ Foc h fs' .nil ∧ plug fs' .nil = plug fs t ∧ (∀ f ∈ fs'.head?, f.s = s') ∧ (∀ a ∈ pre fs', key a ≤ kn) ∧ (∀ a ∈ post fs', kn < key a)
  | .nil, fs, s0, F, hS, hs, h1, h2 => ⟨0, fs, s0, .done, F, rfl, hs, h1, h2⟩
  | .node c l n r, fs, s0, F, hS, hs, h1, h2 => by
    have hS' : (l.ids ++ n :: r.ids).Pairwise (fun a b => key a ≤ key b) := hS
    rw [List.pairwise_append, List.pairwise_cons] at hS'
    obtain ⟨sl, ⟨snr, sr⟩, slr⟩ := hS'
    have hn : isN n := F.T.1
    by_cases hk : kn < key n
    · have F2 : Foc h (⟨false, c, n, r⟩ :: fs) l := Foc.up.2 F
      have hch : h.ch false n = l.rt := F.T.2.2.2.2.1
      obtain ⟨k, fs', s', a1, a2, a3, a4, a5, a6⟩ := desc_foc l (⟨false, c, n, r⟩ :: fs) false F2 sl (fun f hf => by simp at hf; subst hf; rfl) h1 (fun a ha => by
        have e : post (⟨false, c, n, r⟩ :: fs) = n :: (r.ids ++ post fs) := rfl
        rw [e] at ha
        simp only [List.mem_cons, List.mem_append] at ha
        rcases ha with rfl | ha | ha
        · exact hk
        · exact Int.lt_of_lt_of_le hk (snr a ha)
        · exact h2 a ha)
      have a1' : DescTr h key kn k (h.ch false n) n false (pn fs') s' := by rw [hch]; exact a1
      exact ⟨k + 1, fs', s', .left hn hk a1', a2, a3, a4, a5, a6⟩
    · have F2 : Foc h (⟨true, c, n, l⟩ :: fs) r := Foc.up.2 F
      have hch : h.ch true n = r.rt := F.T.2.2.2.2.2.1
      obtain ⟨k, fs', s', a1, a2, a3, a4, a5, a6⟩ := desc_foc r (⟨true, c, n, l⟩ :: fs) true F2 sr (fun f hf => by simp at hf; subst hf; rfl) (fun a ha => by
        have e : pre (⟨true, c, n, l⟩ :: fs) = pre fs ++ l.ids ++ [n] := rfl
        rw [e] at ha
        simp only [List.mem_append, List.mem_singleton] at ha
        rcases ha with (ha | ha) | rfl
        · exact h1 a ha
        · have := slr a ha n (List.mem_cons_self ..); omega
        · omega) h2
      have a1' : DescTr h key kn k (h.ch true n) n true (pn fs') s' := by rw [hch]; exact a1
      exact ⟨k + 1, fs', s', .right hn hk a1', a2, a3, a4, a5, a6⟩
inductive AddTr (h : Hp) (key : Int → Int) (n : Int) : Hp → Prop
  | mk {k : Nat} {q : Int} {s : Bool} {h' : Hp} : isN n → (h.top = 0 ∨ isN h.top) → (q = 0 ∨ isN q) → DescTr h key (key n) k h.top 0 false q s → AddedTr (attH h n q s) n h' → AddTr h key n h'
def ins (key : Int → Int) (n : Int) : List Int → List Int
  | [] => [n]
  | a :: L => if key n < key a then n :: a :: L else a :: ins key n L
theorem ins_split {key : Int → Int} {n : Int} : ∀ {A B : List Int}, (∀ a ∈ A, key a ≤ key n) → (∀ b ∈ B, key n < key b) → ins key n (A ++ B) = A ++ n :: B
  | [], [], _, _ => rfl
  | [], b :: B, _, h2 => if_pos (h2 b (List.mem_cons_self ..))
  | a :: A, B, h1, h2 => by
    show (if key n < key a then n :: a :: (A ++ B) else a :: ins key n (A ++ B)) = a :: (A ++ n :: B)
    rw [if_neg (by have := h1 a (List.mem_cons_self ..); omega), ins_split (fun x hx => h1 x (List.mem_cons_of_mem _ hx)) h2]
theorem add_foc {h : Hp} {key : Int → Int} {n : Int} {t : Bt} (F : Foc h [] t) (hr : RB t) (hS : Srt key t.ids) (hn : isN n) (hnt : n ∉ t.ids) :
    ∃ h' t', AddTr h key n h' ∧ Foc h' [] t' ∧ RB t' ∧ t'.ids = ins key n t.ids ∧ ∀ m, m ≠ 0 → m ∉ t.ids → m ≠ n → Eqn h h' m := by
  obtain ⟨k, fs, s, d1, d2, d3, d4, d5, d6⟩ := desc_foc (h := h) (key := key) (kn := key n) t [] false F hS (fun f hf => by cases hf) (fun a ha => by cases ha) (fun a ha => by cases ha)
  have d3' : plug fs .nil = t := d3
  have hids : t.ids = pre fs ++ post fs := by rw [← d3', plug_io]; simp [Bt.ids]
  have hm : ∀ m, m ∈ t.ids ↔ m ∈ idsC fs := fun m => by rw [← d3', plug_mem]; simp [Bt.ids]
  have hnc : n ∉ idsC fs := fun e => hnt ((hm n).2 e)
  obtain ⟨a1, a2⟩ := att_foc d2 hn hnc d4
  obtain ⟨j, o1, o2, _, _⟩ := unplug (fs := fs) (t := .nil) (by rw [d3']; exact hr)
  have hj : j = 0 := o1
  subst hj
  obtain ⟨h', t', b1, b2, b3⟩ := added_foc fs.length fs _ _ 0 (Nat.le_refl _) a1 rfl ⟨rfl, rfl, rfl, rfl⟩ o2
  have htop : h.top = t.rt := F.C
  refine ⟨h', t', .mk hn (by rw [htop]; exact F.T.rt) (pn_isN d2.C) (by rw [htop]; exact d1) b1, b2.F, b3, ?_, fun m h0 hmt hmn => ?_⟩
  · have := b2.ids
    rw [show (plug [] t') = t' from rfl] at this
    rw [this, plug_io, hids, ins_split d5 d6]
    simp [Bt.ids]
  · refine (a2 m h0 (fun e => hmt ((hm m).2 e)) hmn).trans (b2.out m h0 (fun e => ?_))
    rcases plug_mem.1 e with e | e
    · exact hmt ((hm m).2 e)
    · simp [Bt.ids] at e; exact hmn e
end Go.Proofs.Ythkppnkhiimaeaa

/- Trees in links (layer 11), plain: a removal. -/
set_option linter.unusedVariables false
set_option linter.unusedSimpArgs false
namespace Go.Proofs.Ythkppnkhiimaeaa
/-! ### The leftmost leaf -/
inductive LowTr (h : Hp) : Nat → Int → Int → Prop
  | here {n : Int} : isN n → h.ch false n = 0 → LowTr h 0 n n
  | down {k : Nat} {n y : Int} : isN n → isN (h.ch false n) → LowTr h k (h.ch false n) y → LowTr h (k + 1) n y
theorem low_foc {h : Hp} : ∀ (t : Bt) (fs : List Fr), Foc h fs t → t ≠ .nil → ∃ gs c y x k, LowTr h k t.rt y ∧ t = plug gs (.node c .nil y x) ∧ (∀ g ∈ gs, g.s = false) ∧ k < t.ids.length ∧ Foc h (gs ++ fs) (.node c .nil y x)
  | .nil, fs, F, h0 => absurd rfl h0
  | .node c .nil n r, fs, F, _ => ⟨[], c, n, r, 0, .here F.T.1 F.T.2.2.2.2.1, rfl, fun g hg => (by cases hg), (by simp [Bt.ids]), F⟩
  | .node c (.node c2 l2 n2 r2) n r, fs, F, _ => by
    have hch : h.ch false n = n2 := F.T.2.2.2.2.1
    have F2 : Foc h (⟨false, c, n, r⟩ :: fs) (.node c2 l2 n2 r2) := Foc.up.2 F
    obtain ⟨gs, cy, y, x, k, a1, a2, a3, a4, a5⟩ := low_foc (.node c2 l2 n2 r2) _ F2 (by simp)
    have a1' : LowTr h k (h.ch false n) y := by rw [hch]; exact a1
    have hN : isN (h.ch false n) := by rw [hch]; exact F2.T.1
    refine ⟨gs ++ [⟨false, c, n, r⟩], cy, y, x, k + 1, .down F.T.1 hN a1', ?_, ?_, ?_, ?_⟩
    · rw [plug_app, ← a2]; rfl
    · intro g hg
      rcases List.mem_append.1 hg with hg | hg
      · exact a3 g hg
      · simp at hg; subst hg; rfl
    · simp [Bt.ids] at a4 ⊢; omega
    · rw [List.append_assoc]; exact a5
/-! ### What Remove does ahead of the colors -/
def remMidH (h : Hp) (z y : Int) : Hp := if h.P y = z then h else joinH (placeH h y (h.ch true y)) y true ((placeH h y (h.ch true y)).ch true z)
def remJoinH (h : Hp) (z y : Int) : Hp := joinH (placeH h z y) y false ((placeH h z y).ch false z)
def remEndH (h : Hp) (z y : Int) : Hp := paintH (remJoinH h z y) y (redH (remJoinH h z y) z)
def remPH (h : Hp) (z y : Int) : Int := if h.P y = z then y else h.P y
def Fin_ (h1 : Hp) (red : Bool) (x q : Int) (h' : Hp) : Prop := (red = true ∧ h' = h1) ∨ (red = false ∧ RemovedTr h1 x q h')
inductive RemTr (h : Hp) (z : Int) : Hp → Prop
  | leaf {s : Bool} {h' : Hp} : isN z → h.O z = 8 → (s = true → h.ch false z ≠ 0) → h.ch s z = 0 → (h.ch (!s) z = 0 ∨ isN (h.ch (!s) z)) → (h.P z = 0 ∨ isN (h.P z)) →
      Fin_ (clrH (placeH h z (h.ch (!s) z)) z) (redH h z) (h.ch (!s) z) (h.P z) h' → RemTr h z h'
  | deep {k : Nat} {y : Int} {h' : Hp} : isN z → h.O z = 8 → isN (h.ch false z) → isN (h.ch true z) → k ≤ 60 → LowTr h k (h.ch true z) y → isN y → (h.ch true y = 0 ∨ isN (h.ch true y)) → (h.P y = 0 ∨ isN (h.P y)) → (h.P z = 0 ∨ isN (h.P z)) →
      (h.P y ≠ z → isN (h.P y) ∧ isN ((placeH h y (h.ch true y)).ch true z)) → (h.ch true y = 0 ∨ isN (h.ch true y)) → (y = h.ch true z ↔ h.P y = z) →
      ((remMidH h z y).P z = 0 ∨ isN ((remMidH h z y).P z)) → isN ((placeH (remMidH h z y) z y).ch false z) →
      Fin_ (clrH (remEndH (remMidH h z y) z y) z) (redH h y) (h.ch true y) (remPH h z y) h' → RemTr h z h'
theorem erase_mid {z : Int} {A B : List Int} (h : z ∉ A) : (A ++ z :: B).erase z = A ++ B := by
  rw [List.erase_append_right _ h, List.erase_cons_head]
theorem leaf_out {h : Hp} {fs : List Fr} {s c : Bool} {z : Int} {sub : Bt} (F : Foc h fs (nd s c .nil z sub)) :
    Foc (placeH h z sub.rt) fs sub ∧ (∀ m, m ∉ idsC fs → m ≠ sub.rt → Eqn h (placeH h z sub.rt) m) ∧ (∀ m, m ∉ idsC fs → EqP h (placeH h z sub.rt) m) := by
  obtain ⟨z1, z2, z3, z4, z5, z6, _, rs⟩ := Rep_nd.1 F.T
  have hC := F.C
  rw [nd_rt] at hC
  have dz : z ∉ idsC fs := F.dis (nd_mem.2 (.inr (.inl rfl)))
  have ds : ∀ m ∈ sub.ids, m ∉ idsC fs := fun m hm => F.dis (nd_mem.2 (.inr (.inr hm)))
  obtain ⟨_, ns, _, nz, _⟩ := nd_nodup.1 F.ndT
  have drt : sub.rt ∉ idsC fs := fun e => by
    have h0 : sub.rt ≠ 0 := (F.C.isN _ e).ne0
    exact ds _ (rt_mem h0) e
  obtain ⟨p1, p2, p3, p4, p5⟩ := placeH_C hC z2 z1 dz F.ndC rs.rt drt
  refine ⟨⟨p1, rs.repar ns p2 (fun m hm => p3 m (ds m hm)) (fun m hm hne => p4 m hne), ?_⟩, p5, p3⟩
  rw [List.nodup_append]
  exact ⟨F.ndC, ns, fun a ha b hb e => ds b hb (e ▸ ha)⟩
theorem swap_in {h : Hp} {fs : List Fr} {z y : Int} {cz : Bool} {l r : Bt} (hC : RepC h fs z) (hP : h.P z = pn fs) (hz : isN z) (hc : h.C z = cI cz) (hl : h.ch false z = l.rt) (Rl : Rep h z l) (hl0 : l.rt ≠ 0)
    (hy : isN y) (hr : h.ch true y = r.rt) (hO : h.O y = 8) (Rr : Rep h y r) (hnd : (idsC fs ++ (z :: y :: (l.ids ++ r.ids))).Nodup) :
    Foc (clrH (remEndH h z y) z) fs (.node cz l y r) ∧ (∀ m, m ≠ 0 → m ∉ idsC fs → m ≠ z → m ≠ y → m ∉ l.ids → Eqn h (clrH (remEndH h z y) z) m) ∧ (placeH h z y).ch false z = l.rt := by
  rw [List.nodup_append, List.nodup_cons, List.nodup_cons, List.nodup_append] at hnd
  obtain ⟨nC, ⟨nz, ny, nl, nr, nlr⟩, nd3⟩ := hnd
  simp only [List.mem_cons, List.mem_append, not_or] at nz ny
  have dz : z ∉ idsC fs := fun e => nd3 z e z (by simp) rfl
  have dy : y ∉ idsC fs := fun e => nd3 y e y (by simp) rfl
  have dl : ∀ m ∈ l.ids, m ∉ idsC fs := fun m hm e => nd3 m e m (by simp [hm]) rfl
  have dr : ∀ m ∈ r.ids, m ∉ idsC fs := fun m hm e => nd3 m e m (by simp [hm]) rfl
  obtain ⟨p1, p2, p3, p4, p5⟩ := placeH_C hC hP hz dz nC (.inr hy) dy
  have hlz : (placeH h z y).ch false z = l.rt := ((p3 z dz).2.2 false).trans hl
  have hlm := rt_mem hl0
  have e1 : y ≠ l.rt := fun e => ny.1 (e ▸ hlm)
  have e2 : z ≠ l.rt := fun e => nz.2.1 (e ▸ hlm)
  have ej : remJoinH h z y = joinH (placeH h z y) y false l.rt := by unfold remJoinH; rw [hlz]
  have hcz : redH (remJoinH h z y) z = cz := by
    rw [ej]
    show (z != 0 && (joinH (placeH h z y) y false l.rt).C z == 1) = cz
    rw [joinH_C, (p3 z dz).1, hc, show (z != 0) = true from by rw [bne_iff_ne]; exact hz.ne0]
    cases cz <;> rfl
  have ee : remEndH h z y = (joinH (placeH h z y) y false l.rt).setC y (cI cz) := by
    unfold remEndH
    rw [hcz, ej]
    exact if_neg hy.ne0
  have key : ∀ m, m ∉ idsC fs → m ≠ z → m ≠ y → m ≠ l.rt → Eqn h (clrH (remEndH h z y) z) m := fun m hm h1 h2 h3 => by
    rw [ee]; exact (p5 m hm h2).trans ((joinH_eqn h2 h3).trans ((setC_eqn h2).trans (clrH_eqn h1)))
  have keyp : ∀ m, m ∉ idsC fs → m ≠ z → m ≠ y → EqP h (clrH (remEndH h z y) z) m := fun m hm h1 h2 => by
    rw [ee]; exact (p3 m hm).trans ((joinH_eqp h2).trans ((setC_eqn h2).2.trans (clrH_eqn h1).2))
  have at_y : ∀ m, m = y → Eqn ((joinH (placeH h z y) y false l.rt).setC y (cI cz)) (clrH (remEndH h z y) z) m := fun m hm => by rw [ee]; exact clrH_eqn (fun e => nz.1 (e ▸ hm))
  obtain ⟨y1, y2, y3, y4⟩ := at_y y rfl
  refine ⟨⟨?_, ⟨hy, ?_, ?_, ?_, ?_, ?_, ?_, ?_⟩, ?_⟩, ?_, hlz⟩
  · refine p1.frame (fun m hm => ?_) (by rw [ee]; exact joinH_top)
    have h1 : m ≠ z := fun e => dz (e ▸ hm)
    have h2 : m ≠ y := fun e => dy (e ▸ hm)
    have h3 : m ≠ l.rt := fun e => dl _ hlm (e ▸ hm)
    rw [ee]; exact (joinH_eqn h2 h3).trans ((setC_eqn h2).trans (clrH_eqn h1))
  · exact y1.trans ((joinH_Pne e1).trans (p2 hy.ne0))
  · exact y2.trans (if_pos rfl)
  · exact y3.trans (joinH_O.trans ((p3 y dy).2.1.trans hO))
  · exact (y4 false).trans joinH_ch
  · exact (y4 true).trans ((joinH_chne (.inl (by decide))).trans (((p3 y dy).2.2 true).trans hr))
  · refine Rl.repar nl (fun _ => ?_) (fun m hm => keyp m (dl m hm) (fun e => nz.2.1 (e ▸ hm)) (fun e => ny.1 (e ▸ hm))) (fun m hm hne => ?_)
    · rw [ee]
      exact ((clrH_eqn (fun e => e2 e.symm)).1).trans (((setC_eqn (fun e => e1 e.symm)).1).trans (joinH_P hl0))
    · exact (key m (dl m hm) (fun e => nz.2.1 (e ▸ hm)) (fun e => ny.1 (e ▸ hm)) hne).1
  · exact Rr.frame (fun m hm => key m (dr m hm) (fun e => nz.2.2 (e ▸ hm)) (fun e => ny.2 (e ▸ hm)) (fun e => nlr m (e ▸ hlm) m hm rfl))
  · show (idsC fs ++ (l.ids ++ y :: r.ids)).Nodup
    rw [List.nodup_append]
    refine ⟨nC, (nd_nodup (s := false) (c := cz)).2 ⟨nl, nr, ny.1, ny.2, fun m hm hm2 => nlr m hm m hm2 rfl⟩, fun a ha b hb e => ?_⟩
    subst e
    rcases List.mem_append.1 hb with hb | hb
    · exact dl a hb ha
    · rcases List.mem_cons.1 hb with rfl | hb
      · exact dy ha
      · exact dr a hb ha
  · intro m h0 h1 h2 h3 h4
    exact key m h1 h2 h3 (fun e => h4 (e ▸ hlm))
theorem redC_name : ∀ (gs : List Fr) (s c : Bool) (n n' : Int) (b : Bt) (fs : List Fr), redC (gs ++ ⟨s, c, n, b⟩ :: fs) = redC (gs ++ ⟨s, c, n', b⟩ :: fs)
  | [], _, _, _, _, _, _ => rfl
  | g :: gs, _, _, _, _, _, _ => rfl
theorem okC_name : ∀ (gs : List Fr) (s c : Bool) (n n' : Int) (b : Bt) (fs : List Fr) (k : Nat), okC (gs ++ ⟨s, c, n, b⟩ :: fs) k → okC (gs ++ ⟨s, c, n', b⟩ :: fs) k
  | [], s, c, n, n', b, fs, k, h => by
    cases c
    · exact (okC_b rfl).2 ((okC_b (f := ⟨s, false, n, b⟩) rfl).1 h)
    · exact (okC_r rfl).2 ((okC_r (f := ⟨s, true, n, b⟩) rfl).1 h)
  | g :: gs, s, c, n, n', b, fs, k, h => by
    cases hc : g.c
    · obtain ⟨h1, h2⟩ := (okC_b hc).1 h
      exact (okC_b hc).2 ⟨h1, okC_name gs s c n n' b fs _ h2⟩
    · obtain ⟨h1, h2, h3, h4, h5⟩ := (okC_r hc).1 h
      exact (okC_r hc).2 ⟨h1, h2, by have := redC_name gs s c n n' b fs; exact this.symm.trans h3, by simp, okC_name gs s c n n' b fs _ h5⟩
theorem leaf_next {fs : List Fr} {s : Bool} {z : Int} {c : Bool} {sub : Bt} (H : RB (plug fs (nd s c .nil z sub))) : (c = true → RB (plug fs sub)) ∧ (c = false → Nx fs sub 0) ∧ ∃ k, okC fs k := by
  obtain ⟨k, h1, h2, h3, h4⟩ := unplug H
  refine ⟨fun e => ?_, fun e => ?_, k, h2⟩
  · subst e
    obtain ⟨g1, g2, g3, g4⟩ := ok_r.1 h1
    exact plug_ok h2 g2 (fun e => by rw [g4] at e; cases e) (fun _ => g4)
  · subst e
    obtain ⟨j, rfl, g1, g2⟩ := ok_b' h1
    obtain rfl : j = 0 := g1
    refine ⟨h2, ?_⟩
    cases hr : sub.red
    · exact .inr ⟨rfl, g2⟩
    · refine .inl ⟨rfl, ?_⟩
      obtain ⟨a, m, b, rfl⟩ := nd_of_red false hr
      rw [nd_dye]
      obtain ⟨v1, v2, _⟩ := ok_r.1 g2
      exact ok_b.2 ⟨v1, v2⟩
theorem fin_of {h : Hp} {fs : List Fr} {sub : Bt} {c : Bool} (F : Foc h fs sub) (h1 : c = true → RB (plug fs sub)) (h2 : c = false → Nx fs sub 0) : ∃ h' t', Fin_ h c sub.rt (pn fs) h' ∧ Go_ h fs sub h' [] t' ∧ RB t' := by
  cases c
  · obtain ⟨h', t', a1, a2, a3⟩ := removed_foc fs.length fs h sub 0 (Nat.le_refl _) F (h2 rfl)
    exact ⟨h', t', .inr ⟨rfl, a1⟩, a2, a3⟩
  · exact ⟨h, _, .inl ⟨rfl, rfl⟩, go_all F, h1 rfl⟩
theorem find_leaf : ∀ (t : Bt) (z : Int), z ∈ t.ids → ∃ fs c l r, t = plug fs (.node c l z r)
  | .nil, z, h => by cases h
  | .node c l n r, z, h => by
    simp [Bt.ids] at h
    rcases h with h | rfl | h
    · obtain ⟨fs, c', l', r', e⟩ := find_leaf l z h
      exact ⟨fs ++ [⟨false, c, n, r⟩], c', l', r', by rw [plug_app, ← e]; rfl⟩
    · exact ⟨[], c, l, r, rfl⟩
    · obtain ⟨fs, c', l', r', e⟩ := find_leaf r z h
      exact ⟨fs ++ [⟨true, c, n, l⟩], c', l', r', by rw [plug_app, ← e]; rfl⟩
theorem pre_app : ∀ (gs fs : List Fr), (∀ g ∈ gs, g.s = false) → pre (gs ++ fs) = pre fs
  | [], _, _ => rfl
  | g :: gs, fs, h => by
    show (if g.s then _ else pre (gs ++ fs)) = _
    rw [if_neg (by rw [h g (List.mem_cons_self ..)]; decide), pre_app gs fs (fun x hx => h x (List.mem_cons_of_mem _ hx))]
structure Gone (h : Hp) (t : Bt) (z : Int) (h' : Hp) (t' : Bt) : Prop where
  F : Foc h' [] t'
  rb : RB t'
  ids : t'.ids = t.ids.erase z
  out : ∀ m, m ≠ 0 → m ∉ t.ids → Eqn h h' m
  free : Free h' z
theorem rem_leaf {h : Hp} {fs : List Fr} {s c : Bool} {z : Int} {sub : Bt} (F : Foc h fs (nd s c .nil z sub)) (hr : RB (plug fs (nd s c .nil z sub))) (hs : s = true → h.ch false z ≠ 0) :
    ∃ h' t', RemTr h z h' ∧ Gone h (plug fs (nd s c .nil z sub)) z h' t' := by
  obtain ⟨z1, z2, z3, z4, z5, z6, _, rs⟩ := Rep_nd.1 F.T
  obtain ⟨F1, o1, _⟩ := leaf_out F
  have dz : z ∉ idsC fs := F.dis (nd_mem.2 (.inr (.inl rfl)))
  obtain ⟨_, ns, _, nz, _⟩ := nd_nodup.1 F.ndT
  have F2 := clr_foc F1 dz nz
  obtain ⟨l1, l2, _⟩ := leaf_next hr
  obtain ⟨h', t', a1, a2, a3⟩ := fin_of F2 l1 l2
  have hrz : redH h z = c := by have := redH_rt F.T; rw [nd_rt, nd_red] at this; exact this
  have hzp : z ∉ (plug fs sub).ids := fun e => (plug_mem.1 e).elim dz nz
  refine ⟨h', t', .leaf (s := s) z1 z4 hs z5 (by rw [z6]; exact rs.rt) (by rw [z2]; exact pn_isN F.C) (by rw [z6, z2, hrz]; exact a1), a2.F, a3, ?_, fun m h0 hm => ?_, (clr_free _ z).eqn (a2.out z z1.ne0 hzp)⟩
  · have e1 := a2.ids
    rw [show plug [] t' = t' from rfl] at e1
    rw [e1, plug_io, plug_io]
    have zp : z ∉ pre fs := fun e => dz ((by
      have : z ∈ (plug fs Bt.nil).ids := by rw [plug_io]; simp [e]
      exact (plug_mem.1 this).resolve_right (fun e => by cases e)))
    cases s
    · show pre fs ++ sub.ids ++ post fs = (pre fs ++ ([] ++ z :: sub.ids) ++ post fs).erase z
      rw [List.nil_append, List.append_assoc, List.append_assoc]
      exact (erase_mid zp).symm
    · show pre fs ++ sub.ids ++ post fs = (pre fs ++ (sub.ids ++ z :: []) ++ post fs).erase z
      have hzs : z ∉ pre fs ++ sub.ids := by simp [zp, nz]
      have := erase_mid (A := pre fs ++ sub.ids) (B := post fs) hzs
      simpa [List.append_assoc] using this.symm
  · have hmm : m ∉ idsC fs ∧ m ∉ sub.ids ∧ m ≠ z := by
      refine ⟨fun e => hm (plug_mem.2 (.inl e)), fun e => hm (plug_mem.2 (.inr (nd_mem.2 (.inr (.inr e))))), fun e => hm (plug_mem.2 (.inr (nd_mem.2 (.inr (.inl e)))))⟩
    refine (o1 m hmm.1 (fun e => hmm.2.1 (e ▸ rt_mem (e ▸ h0)))).trans ((clrH_eqn hmm.2.2).trans (a2.out m h0 (fun e => ?_)))
    exact (plug_mem.1 e).elim hmm.1 hmm.2.1
theorem rem_deep {h : Hp} {fs : List Fr} {c : Bool} {z : Int} {l r : Bt} (F : Foc h fs (.node c l z r)) (hr : RB (plug fs (.node c l z r))) (hl0 : l.rt ≠ 0) (hr0 : r.rt ≠ 0) (hlen : r.ids.length ≤ 60) :
    ∃ h' t', RemTr h z h' ∧ Gone h (plug fs (.node c l z r)) z h' t' := by
  obtain ⟨z1, z2, z3, z4, z5, z6, Rl, Rr⟩ := F.T
  have Fr_ : Foc h (⟨true, c, z, l⟩ :: fs) r := Foc.up.2 F
  obtain ⟨gs, cy, y, x, k, a1, a2, a3, a4, a5⟩ := low_foc r _ Fr_ (fun e => hr0 (by rw [e]; rfl))
  have hall : plug fs (.node c l z r) = plug (gs ++ ⟨true, c, z, l⟩ :: fs) (.node cy .nil y x) := by rw [plug_app, ← a2]; rfl
  have hT := a5.T
  obtain ⟨y1, y2, y3, y4, y5, y6, _, Rx⟩ := hT
  have hy : isN y := y1
  have hry : redH h y = cy := redH_rt (t := .node cy .nil y x) a5.T
  have hnd := a5.nd
  -- the ids of the part
  have hrids : r.ids = y :: (plug gs x).ids := by
    rw [a2, plug_io, plug_io]
    have := pre_app gs [] a3
    rw [List.append_nil] at this
    rw [this]
    rfl
  have hndF := F.nd
  rw [show (Bt.node c l z r).ids = l.ids ++ z :: r.ids from rfl, hrids] at hndF
  have hndS : (idsC fs ++ (z :: y :: (l.ids ++ (plug gs x).ids))).Nodup := by
    refine (List.Perm.nodup_iff ?_).1 hndF
    refine List.Perm.append_left _ ?_
    refine List.perm_middle.trans (List.Perm.cons _ ?_)
    exact List.perm_middle
  have hz_ : z ∉ idsC fs ∧ z ≠ y ∧ z ∉ l.ids ∧ z ∉ (plug gs x).ids := by
    rw [List.nodup_append, List.nodup_cons] at hndS
    obtain ⟨_, ⟨n1, _⟩, n3⟩ := hndS
    simp only [List.mem_cons, List.mem_append, not_or] at n1
    exact ⟨fun e => n3 z e z (by simp) rfl, n1.1, n1.2.1, n1.2.2⟩
  have hy_ : y ∉ idsC fs ∧ y ∉ l.ids ∧ y ∉ (plug gs x).ids := by
    rw [List.nodup_append, List.nodup_cons, List.nodup_cons] at hndS
    obtain ⟨_, ⟨_, n1, _⟩, n3⟩ := hndS
    simp only [List.mem_append, not_or] at n1
    exact ⟨fun e => n3 y e y (by simp) rfl, n1.1, n1.2⟩
  -- ahead of the swap
  have mid : ∃ h2 r1, h2 = remMidH h z y ∧ r1 = plug gs x ∧ RepC h2 fs z ∧ h2.P z = pn fs ∧ h2.C z = cI c ∧ h2.ch false z = l.rt ∧ Rep h2 z l ∧ h2.ch true y = r1.rt ∧ h2.O y = 8 ∧ Rep h2 y r1 ∧
      (h.P y ≠ z → isN (h.P y) ∧ isN ((placeH h y (h.ch true y)).ch true z)) ∧ (∀ m, m ≠ 0 → m ∉ idsC fs → m ≠ z → m ≠ y → m ∉ l.ids → m ∉ (plug gs x).ids → Eqn h h2 m) ∧ (gs = [] ↔ h.P y = z) := by
    have hPy : h.P y = pn (gs ++ ⟨true, c, z, l⟩ :: fs) := y2
    cases gs with
    | nil =>
      have hPz : h.P y = z := hPy
      refine ⟨h, x, by unfold remMidH; rw [if_pos hPz], rfl, F.C, z2, z3, z5, Rl, y6, y4, Rx, fun e => absurd hPz e, fun m _ _ _ _ _ _ => Eqn.refl _ _, by simp [hPz]⟩
    | cons g gs =>
      have hgz : h.P y = g.n := hPy
      have hgN : isN g.n := a5.C.1
      have hgm : g.n ∈ (plug (g :: gs) x).ids := plug_mem.2 (.inl (by simp [idsC]))
      have hne : h.P y ≠ z := by rw [hgz]; exact fun e => hz_.2.2.2 (e ▸ hgm)
      obtain ⟨F1, o1, p1⟩ := leaf_out (s := false) (c := cy) (z := y) (sub := x) a5
      -- the part, as it hangs below z
      have F1' : Foc (placeH h y x.rt) ([] ++ (g :: gs) ++ ⟨true, c, z, l⟩ :: fs) x := F1
      have FA := Foc.all.1 F1
      rw [plug_app] at FA
      have F3 : Foc (placeH h y x.rt) (⟨true, c, z, l⟩ :: fs) (plug (g :: gs) x) := Foc.all.2 FA
      have hchz : (placeH h y x.rt).ch true z = (plug (g :: gs) x).rt := F3.C.2.2.2.2.1
      have hr1 : (plug (g :: gs) x).rt ∈ idsC (g :: gs) := plug_rt gs g x
      have hr1m : (plug (g :: gs) x).rt ∈ (plug (g :: gs) x).ids := plug_mem.2 (.inl hr1)
      have hr1N : isN (plug (g :: gs) x).rt := F3.T.isN _ hr1m
      have yx : y ≠ x.rt := fun e => hy_.2.2 (plug_mem.2 (.inr (e ▸ rt_mem (e ▸ hy.ne0))))
      have dyc : y ∉ idsC (g :: gs ++ ⟨true, c, z, l⟩ :: fs) := a5.dis (by simp [Bt.ids])
      have ey := o1 y dyc yx
      have eM : remMidH h z y = joinH (placeH h y x.rt) y true (plug (g :: gs) x).rt := by unfold remMidH; rw [if_neg hne, y6, hchz]
      have key : ∀ m, m ≠ y → m ≠ (plug (g :: gs) x).rt → Eqn (placeH h y x.rt) (remMidH h z y) m := fun m h1 h2 => by rw [eM]; exact joinH_eqn h1 h2
      have hzr : z ≠ (plug (g :: gs) x).rt := fun e => hz_.2.2.2 (e ▸ hr1m)
      have kz := key z hz_.2.1 hzr
      obtain ⟨f1, f2, f3, f4, f5, f6, f7, f8⟩ := F3.C
      refine ⟨_, _, rfl, rfl, ?_, kz.1.trans f2, kz.2.1.trans f3, (kz.2.2.2 false).trans f6, ?_, ?_, ?_, ?_, fun _ => ⟨by rw [hgz]; exact hgN, by rw [y6, hchz]; exact hr1N⟩, ?_, by simp [hne]⟩
      · exact f8.frame (fun m hm => key m (fun e => hy_.1 (e ▸ hm)) (fun e => F3.dis hr1m (by simp [idsC, ← e, hm]))) (by rw [eM]; exact joinH_top)
      · exact f7.frame (fun m hm => key m (fun e => hy_.2.1 (e ▸ hm)) (fun e => F3.dis hr1m (by rw [← e]; simp [idsC, hm])))
      · rw [eM]; exact joinH_ch
      · rw [eM]; exact joinH_O.trans (ey.2.2.1.trans y4)
      · refine F3.T.repar F3.ndT (fun _ => ?_) (fun m hm => ?_) (fun m hm hne2 => ?_)
        · rw [eM]; exact joinH_P hr1N.ne0
        · rw [eM]; exact joinH_eqp (fun e => hy_.2.2 (e ▸ hm))
        · rw [eM]; exact joinH_Pne hne2
      · intro m h0 h1 h2 h3 h4 h5
        have h6 : m ∉ idsC (g :: gs ++ ⟨true, c, z, l⟩ :: fs) := by
          intro e
          have : m ∈ (plug (g :: gs ++ ⟨true, c, z, l⟩ :: fs) Bt.nil).ids := plug_mem.2 (.inl e)
          rw [plug_app] at this
          rcases plug_mem.1 this with e | e
          · simp only [idsC, List.mem_cons, List.mem_append] at e
            rcases e with e | e | e
            · exact h2 e
            · exact h4 e
            · exact h1 e
          · rcases plug_mem.1 e with e | e
            · exact h5 (plug_mem.2 (.inl e))
            · cases e
        refine (o1 m h6 (fun e => h5 (plug_mem.2 (.inr (e ▸ rt_mem (e ▸ h0)))))).trans (key m h3 (fun e => h5 (e ▸ hr1m)))
  obtain ⟨h2, r1, rfl, rfl, m1, m2, m3, m4, m5, m6, m7, m8, m9, m10, m11⟩ := mid
  obtain ⟨F5, o5, e5⟩ := swap_in m1 m2 z1 m3 m4 m5 hl0 hy m6 m7 m8 hndS
  have F6 : Foc _ (⟨true, c, y, l⟩ :: fs) (plug gs x) := Foc.up.2 F5
  have F7 : Foc _ (gs ++ ⟨true, c, y, l⟩ :: fs) x := Foc.all.2 (by rw [plug_app]; exact Foc.all.1 F6)
  rw [hall] at hr
  obtain ⟨l1, l2, _⟩ := leaf_next (s := false) (c := cy) (sub := x) hr
  have hpn : remPH h z y = pn (gs ++ ⟨true, c, y, l⟩ :: fs) := by
    unfold remPH
    by_cases hg : gs = []
    · rw [if_pos (m11.1 hg), hg]; rfl
    · rw [if_neg (fun e => hg (m11.2 e))]
      cases gs with
      | nil => exact absurd rfl hg
      | cons g gs => exact y2
  have hrb2 : cy = true → RB (plug (gs ++ ⟨true, c, y, l⟩ :: fs) x) := fun e => by
    subst e
    obtain ⟨k0, u1, u2, u3, u4⟩ := unplug hr
    obtain ⟨v1, v2, v3, v4⟩ := (ok_r (s := false) (a := .nil) (b := x) (n := y)).1 u1
    exact plug_ok (okC_name gs true c z y l fs _ u2) v2 (fun e => by rw [v4] at e; cases e) (fun _ => v4)
  have hnx2 : cy = false → Nx (gs ++ ⟨true, c, y, l⟩ :: fs) x 0 := fun e => ⟨okC_name gs true c z y l fs _ (l2 e).1, (l2 e).2⟩
  obtain ⟨h', t', b1, b2, b3⟩ := fin_of F7 hrb2 hnx2
  have hrz : (remMidH h z y).P z = 0 ∨ isN ((remMidH h z y).P z) := by rw [m2]; exact pn_isN F.C
  have hxx : h.ch true y = 0 ∨ isN (h.ch true y) := by rw [y6]; exact Rx.rt
  have hyz : y = h.ch true z ↔ h.P y = z := by
    rw [z6]
    refine Iff.trans ?_ m11
    constructor
    · intro e
      cases gs with
      | nil => rfl
      | cons g gs =>
        have h1 : (plug (g :: gs) (Bt.node cy .nil y x)).rt ∈ idsC (g :: gs) := plug_rt gs g _
        rw [← a2, ← e] at h1
        exact absurd (plug_mem.2 (.inl h1)) hy_.2.2
    · intro e
      rw [a2, e]
      rfl
  have hids2 : (plug (gs ++ ⟨true, c, y, l⟩ :: fs) x).ids = pre fs ++ (l.ids ++ r.ids) ++ post fs := by
    rw [plug_app, hrids]
    show (plug fs (.node c l y (plug gs x))).ids = _
    rw [plug_io]; rfl
  have hzp : z ∉ (plug (gs ++ ⟨true, c, y, l⟩ :: fs) x).ids := by
    rw [plug_app]
    intro e
    rcases plug_mem.1 e with e | e
    · simp only [idsC, List.mem_cons, List.mem_append] at e
      rcases e with e | e | e
      · exact hz_.2.1 e
      · exact hz_.2.2.1 e
      · exact hz_.1 e
    · exact hz_.2.2.2 e
  refine ⟨h', t', .deep (k := k) (y := y) z1 z4 (by rw [z5]; exact (Rl.rt).resolve_left hl0) (by rw [z6]; exact (Rr.rt).resolve_left hr0) (by omega) (by rw [z6]; exact a1) hy hxx (by rw [y2]; exact pn_isN a5.C) (by rw [z2]; exact pn_isN F.C) m9 hxx hyz hrz (by rw [e5]; exact (Rl.rt).resolve_left hl0) ?_, b2.F, b3, ?_, fun m h0 hm => ?_, (clr_free _ z).eqn (b2.out z z1.ne0 hzp)⟩
  · rw [hry, y6, hpn]; exact b1
  · have e1 := b2.ids
    rw [show plug [] t' = t' from rfl] at e1
    rw [e1, hids2, plug_io]
    have zp : z ∉ pre fs := fun e => hz_.1 ((by
      have : z ∈ (plug fs Bt.nil).ids := by rw [plug_io]; simp [e]
      exact (plug_mem.1 this).resolve_right (fun e => by cases e)))
    show pre fs ++ (l.ids ++ r.ids) ++ post fs = (pre fs ++ (l.ids ++ z :: r.ids) ++ post fs).erase z
    rw [← List.append_assoc (pre fs), ← List.append_assoc (pre fs), List.append_assoc (pre fs ++ l.ids), List.append_assoc (pre fs ++ l.ids)]
    exact (erase_mid (by simp [zp, hz_.2.2.1])).symm
  · have hmm : m ∉ idsC fs ∧ m ∉ l.ids ∧ m ≠ z ∧ m ∉ r.ids := by
      refine ⟨fun e => hm (plug_mem.2 (.inl e)), fun e => hm (plug_mem.2 (.inr (by simp [Bt.ids, e]))), fun e => hm (plug_mem.2 (.inr (by simp [Bt.ids, e]))), fun e => hm (plug_mem.2 (.inr (by simp [Bt.ids, e])))⟩
    rw [hrids] at hmm
    simp only [List.mem_cons, not_or] at hmm
    obtain ⟨q1, q2, q3, q4, q5⟩ := hmm
    refine (m10 m h0 q1 q3 q4 q2 q5).trans ((o5 m h0 q1 q3 q4 q2).trans (b2.out m h0 (fun e => ?_)))
    rw [plug_app] at e
    rcases plug_mem.1 e with e | e
    · simp only [idsC, List.mem_cons, List.mem_append] at e
      rcases e with e | e | e
      · exact q4 e
      · exact q2 e
      · exact q1 e
    · exact q5 e
theorem rem_foc {h : Hp} {t : Bt} {z : Int} (F : Foc h [] t) (hr : RB t) (hz : z ∈ t.ids) (hlen : t.ids.length ≤ 60) : ∃ h' t', RemTr h z h' ∧ Gone h t z h' t' := by
  obtain ⟨fs, c, l, r, rfl⟩ := find_leaf t z hz
  have Ff : Foc h fs (.node c l z r) := Foc.all.2 F
  by_cases hl : l.rt = 0
  · have : l = .nil := Ff.T.2.2.2.2.2.2.1.rt0 hl
    subst this
    exact rem_leaf (s := false) Ff hr (fun e => by cases e)
  · by_cases hr0 : r.rt = 0
    · have : r = .nil := Ff.T.2.2.2.2.2.2.2.rt0 hr0
      subst this
      exact rem_leaf (s := true) Ff hr (fun _ => by rw [Ff.T.2.2.2.2.1]; exact hl)
    · refine rem_deep Ff hr hl hr0 ?_
      have : (plug fs (.node c l z r)).ids.length = (pre fs).length + (l.ids.length + (r.ids.length + 1)) + (post fs).length := by rw [plug_io]; simp [Bt.ids]; omega
      omega
end Go.Proofs.Ythkppnkhiimaeaa
