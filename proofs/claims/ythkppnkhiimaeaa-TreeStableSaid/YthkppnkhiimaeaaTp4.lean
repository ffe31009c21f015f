/- Trees in links (layer 11), plain: an addition; a removal. -/
import Derived.Test.YthkppnkhiimaeaaTp3
set_option linter.unusedVariables false
set_option linter.unusedSimpArgs false
namespace Go.Proofs.Ythkppnkhiimaeaa

/-! ### In order -/
def pre : List Fr → List Int
  | [] => []
  | f :: fs => if f.s then pre fs ++ f.sib.ids ++ [f.n] else pre fs
def post : List Fr → List Int
  | [] => []
  | f :: fs => if f.s then post fs else f.n :: (f.sib.ids ++ post fs)
theorem plug_io : ∀ (fs : List Fr) (t : Bt), (plug fs t).ids = pre fs ++ t.ids ++ post fs
  | [], t => by simp [plug, pre, post]
  | f :: fs, t => by
    show (plug fs _).ids = _
    rw [plug_io fs]
    cases hs : f.s
    · simp [pre, post, hs, nd, Bt.ids]
    · simp [pre, post, hs, nd, Bt.ids]
theorem plug_app : ∀ (gs fs : List Fr) (t : Bt), plug (gs ++ fs) t = plug fs (plug gs t)
  | [], fs, t => rfl
  | g :: gs, fs, t => plug_app gs fs _

/-! ### Cleared -/
def clrH (h : Hp) (z : Int) : Hp := { h with ch := fun s m => if m = z then 0 else h.ch s m, P := fun m => if m = z then 0 else h.P m, O := fun m => if m = z then 0 else h.O m, C := fun m => if m = z then 0 else h.C m }
theorem clrH_eqn {h : Hp} {z m : Int} (hm : m ≠ z) : Eqn h (clrH h z) m := ⟨if_neg hm, if_neg hm, if_neg hm, fun _ => if_neg hm⟩
theorem clr_foc {h : Hp} {fs : List Fr} {t : Bt} {z : Int} (F : Foc h fs t) (h1 : z ∉ idsC fs) (h2 : z ∉ t.ids) : Foc (clrH h z) fs t :=
  ⟨F.C.frame (fun m hm => clrH_eqn (fun e => h1 (e ▸ hm))) rfl, F.T.frame (fun m hm => clrH_eqn (fun e => h2 (e ▸ hm))), F.nd⟩
/-- A leaf in no tree. -/
def Free (h : Hp) (n : Int) : Prop := h.P n = 0 ∧ h.O n = 0 ∧ h.C n = 0 ∧ ∀ s, h.ch s n = 0
theorem clr_free (h : Hp) (z : Int) : Free (clrH h z) z := ⟨if_pos rfl, if_pos rfl, if_pos rfl, fun _ => if_pos rfl⟩
theorem Free.eqn {h h' : Hp} {n : Int} (F : Free h n) (e : Eqn h h' n) : Free h' n := ⟨e.1.trans F.1, e.2.2.1.trans F.2.1, e.2.1.trans F.2.2.1, fun s => (e.2.2.2 s).trans (F.2.2.2 s)⟩

/-! ### An addition -/
def freshH (h : Hp) (n : Int) : Hp := paintH ((clrH h n).setO n 8) n true
def attH (h : Hp) (n q : Int) (s : Bool) : Hp := if q = 0 then (freshH h n).setTop n else joinH (freshH h n) q s n
theorem setO_eqn {h : Hp} {n v m : Int} (hm : m ≠ n) : Eqn h (h.setO n v) m := ⟨rfl, rfl, if_neg hm, fun _ => rfl⟩
theorem freshH_eqn {h : Hp} {n m : Int} (hm : m ≠ n) : Eqn h (freshH h n) m := (clrH_eqn hm).trans ((setO_eqn hm).trans (paintH_eqn hm))
theorem freshH_self {h : Hp} {n : Int} (hn : n ≠ 0) : (freshH h n).P n = 0 ∧ (freshH h n).O n = 8 ∧ (freshH h n).C n = 1 ∧ ∀ s, (freshH h n).ch s n = 0 := by
  have e : freshH h n = ((clrH h n).setO n 8).setC n (cI true) := if_neg hn
  rw [e]
  exact ⟨if_pos rfl, if_pos rfl, if_pos rfl, fun _ => if_pos rfl⟩
theorem freshH_top {h : Hp} {n : Int} : (freshH h n).top = h.top := paintH_top
theorem att_foc {h : Hp} {fs : List Fr} {n : Int} {s : Bool} (F : Foc h fs .nil) (hn : isN n) (hnc : n ∉ idsC fs) (hs : ∀ f ∈ fs.head?, f.s = s) :
    Foc (attH h n (pn fs) s) fs (.node true .nil n .nil) ∧ ∀ m, m ≠ 0 → m ∉ idsC fs → m ≠ n → Eqn h (attH h n (pn fs) s) m := by
  obtain ⟨f1, f2, f3, f4⟩ := freshH_self (h := h) hn.ne0
  have hnd : (idsC fs ++ (Bt.node true .nil n .nil).ids).Nodup := by
    show (idsC fs ++ [n]).Nodup
    rw [List.nodup_append]
    exact ⟨F.ndC, by simp, fun a ha b hb e => by simp at hb; subst hb; subst e; exact hnc ha⟩
  cases fs with
  | nil =>
    have e : attH h n (pn []) s = (freshH h n).setTop n := if_pos rfl
    rw [e]
    exact ⟨⟨rfl, ⟨hn, f1, f3, f2, f4 false, f4 true, trivial, trivial⟩, hnd⟩, fun m _ _ hm => freshH_eqn hm⟩
  | cons f fs =>
    have hfs : f.s = s := hs f rfl
    have hq : isN f.n := F.C.1
    have e : attH h n (pn (f :: fs)) s = joinH (freshH h n) f.n s n := if_neg hq.ne0
    rw [e]
    simp only [idsC, List.mem_cons, List.mem_append, not_or] at hnc
    obtain ⟨c1, c2, c3⟩ := hnc
    obtain ⟨h1, h2, h3, h4, h5, h6, h7, h8⟩ := F.C
    have ndC := F.ndC
    rw [show idsC (f :: fs) = f.n :: (f.sib.ids ++ idsC fs) from rfl, List.nodup_cons, List.nodup_append] at ndC
    obtain ⟨n1, n2, n3, n4⟩ := ndC
    simp only [List.mem_append, not_or] at n1
    have fe := freshH_eqn (h := h) (n := n) (m := f.n) (fun e => c1 e.symm)
    have key : ∀ m, m ≠ f.n → m ≠ n → Eqn h (joinH (freshH h n) f.n s n) m := fun m hm1 hm2 => (freshH_eqn hm2).trans (joinH_eqn hm1 hm2)
    refine ⟨⟨⟨h1, ?_, ?_, ?_, ?_, ?_, h7.frame (fun m hm => key m (fun e => n1.1 (e ▸ hm)) (fun e => c2 (e ▸ hm))), h8.frame (fun m hm => key m (fun e => n1.2 (e ▸ hm)) (fun e => c3 (e ▸ hm))) (joinH_top.trans freshH_top)⟩, ⟨hn, joinH_P hn.ne0, joinH_C.trans f3, joinH_O.trans f2, ?_, ?_, trivial, trivial⟩, hnd⟩, ?_⟩
    · rw [joinH_Pne (fun e => c1 e.symm)]; exact fe.1.trans h2
    · exact joinH_C.trans (fe.2.1.trans h3)
    · exact joinH_O.trans (fe.2.2.1.trans h4)
    · rw [hfs]; exact joinH_ch
    · rw [joinH_chne (.inl (by rw [hfs]; cases s <;> simp))]; exact (fe.2.2.2 _).trans h6
    · rw [joinH_chne (.inr c1)]; exact f4 false
    · rw [joinH_chne (.inr c1)]; exact f4 true
    · intro m _ hm hmn
      simp only [idsC, List.mem_cons, not_or] at hm
      exact key m hm.1 hmn

/-- The way down to where a key belongs. -/
inductive DescTr (h : Hp) (key : Int → Int) (kn : Int) : Nat → Int → Int → Bool → Int → Bool → Prop
  | done {q : Int} {s : Bool} : DescTr h key kn 0 0 q s q s
  | left {k : Nat} {m q q' : Int} {s s' : Bool} : isN m → kn < key m → DescTr h key kn k (h.ch false m) m false q' s' → DescTr h key kn (k + 1) m q s q' s'
  | right {k : Nat} {m q q' : Int} {s s' : Bool} : isN m → ¬ kn < key m → DescTr h key kn k (h.ch true m) m true q' s' → DescTr h key kn (k + 1) m q s q' s'
def Srt (key : Int → Int) (L : List Int) : Prop := L.Pairwise (fun a b => key a ≤ key b)
theorem desc_foc {h : Hp} {key : Int → Int} {kn : Int} : ∀ (t : Bt) (fs : List Fr) (s0 : Bool), Foc h fs t → Srt key t.ids → (∀ f ∈ fs.head?, f.s = s0) → (∀ a ∈ pre fs, key a ≤ kn) → (∀ a ∈ post fs, kn < key a) →
    ∃ k fs' s', DescTr h key kn k t.rt (pn fs) s0 (pn fs') s' ∧ Foc h fs' .nil ∧ plug fs' .nil = plug fs t ∧ (∀ f ∈ fs'.head?, f.s = s') ∧ (∀ a ∈ pre fs', key a ≤ kn) ∧ (∀ a ∈ post fs', kn < key a)
  | .nil, fs, s0, F, hS, hs, h1, h2 => ⟨0, fs, s0, .done, F, rfl, hs, h1, h2⟩
  | .node c l n r, fs, s0, F, hS, hs, h1, h2 => by
    have hS' : (l.ids ++ n :: r.ids).Pairwise (fun a b => key a ≤ key b) := hS
    rw [List.pairwise_append, List.pairwise_cons] at hS'
    obtain ⟨sl, ⟨snr, sr⟩, slr⟩ := hS'
    have hn : isN n := F.T.1
    by_cases hk : kn < key n
    · have F2 : Foc h (⟨false, c, n, r⟩ :: fs) l := Foc.up.2 F
      have hch : h.ch false n = l.rt := F.T.2.2.2.2.1
      obtain ⟨k, fs', s', a1, a2, a3, a4, a5, a6⟩ := desc_foc l (⟨false, c, n, r⟩ :: fs) false F2 sl (fun f hf => by simp at hf; subst hf; rfl) h1 (fun a ha => by
        have e : post (⟨false, c, n, r⟩ :: fs) = n :: (r.ids ++ post fs) := rfl
        rw [e] at ha
        simp only [List.mem_cons, List.mem_append] at ha
        rcases ha with rfl | ha | ha
        · exact hk
        · exact Int.lt_of_lt_of_le hk (snr a ha)
        · exact h2 a ha)
      have a1' : DescTr h key kn k (h.ch false n) n false (pn fs') s' := by rw [hch]; exact a1
      exact ⟨k + 1, fs', s', .left hn hk a1', a2, a3, a4, a5, a6⟩
    · have F2 : Foc h (⟨true, c, n, l⟩ :: fs) r := Foc.up.2 F
      have hch : h.ch true n = r.rt := F.T.2.2.2.2.2.1
      obtain ⟨k, fs', s', a1, a2, a3, a4, a5, a6⟩ := desc_foc r (⟨true, c, n, l⟩ :: fs) true F2 sr (fun f hf => by simp at hf; subst hf; rfl) (fun a ha => by
        have e : pre (⟨true, c, n, l⟩ :: fs) = pre fs ++ l.ids ++ [n] := rfl
        rw [e] at ha
        simp only [List.mem_append, List.mem_singleton] at ha
        rcases ha with (ha | ha) | rfl
        · exact h1 a ha
        · have := slr a ha n (List.mem_cons_self ..); omega
        · omega) h2
      have a1' : DescTr h key kn k (h.ch true n) n true (pn fs') s' := by rw [hch]; exact a1
      exact ⟨k + 1, fs', s', .right hn hk a1', a2, a3, a4, a5, a6⟩

/-- What Add does. -/
inductive AddTr (h : Hp) (key : Int → Int) (n : Int) : Hp → Prop
  | mk {k : Nat} {q : Int} {s : Bool} {h' : Hp} : isN n → (h.top = 0 ∨ isN h.top) → (q = 0 ∨ isN q) → DescTr h key (key n) k h.top 0 false q s → AddedTr (attH h n q s) n h' → AddTr h key n h'
/-- A leaf is put behind all whose keys aren't greater. -/
def ins (key : Int → Int) (n : Int) : List Int → List Int
  | [] => [n]
  | a :: L => if key n < key a then n :: a :: L else a :: ins key n L
theorem ins_split {key : Int → Int} {n : Int} : ∀ {A B : List Int}, (∀ a ∈ A, key a ≤ key n) → (∀ b ∈ B, key n < key b) → ins key n (A ++ B) = A ++ n :: B
  | [], [], _, _ => rfl
  | [], b :: B, _, h2 => if_pos (h2 b (List.mem_cons_self ..))
  | a :: A, B, h1, h2 => by
    show (if key n < key a then n :: a :: (A ++ B) else a :: ins key n (A ++ B)) = a :: (A ++ n :: B)
    rw [if_neg (by have := h1 a (List.mem_cons_self ..); omega), ins_split (fun x hx => h1 x (List.mem_cons_of_mem _ hx)) h2]
theorem add_foc {h : Hp} {key : Int → Int} {n : Int} {t : Bt} (F : Foc h [] t) (hr : RB t) (hS : Srt key t.ids) (hn : isN n) (hnt : n ∉ t.ids) :
    ∃ h' t', AddTr h key n h' ∧ Foc h' [] t' ∧ RB t' ∧ t'.ids = ins key n t.ids ∧ ∀ m, m ≠ 0 → m ∉ t.ids → m ≠ n → Eqn h h' m := by
  obtain ⟨k, fs, s, d1, d2, d3, d4, d5, d6⟩ := desc_foc (h := h) (key := key) (kn := key n) t [] false F hS (fun f hf => by cases hf) (fun a ha => by cases ha) (fun a ha => by cases ha)
  have d3' : plug fs .nil = t := d3
  have hids : t.ids = pre fs ++ post fs := by rw [← d3', plug_io]; simp [Bt.ids]
  have hm : ∀ m, m ∈ t.ids ↔ m ∈ idsC fs := fun m => by rw [← d3', plug_mem]; simp [Bt.ids]
  have hnc : n ∉ idsC fs := fun e => hnt ((hm n).2 e)
  obtain ⟨a1, a2⟩ := att_foc d2 hn hnc d4
  obtain ⟨j, o1, o2, _, _⟩ := unplug (fs := fs) (t := .nil) (by rw [d3']; exact hr)
  have hj : j = 0 := o1
  subst hj
  obtain ⟨h', t', b1, b2, b3⟩ := added_foc fs.length fs _ _ 0 (Nat.le_refl _) a1 rfl ⟨rfl, rfl, rfl, rfl⟩ o2
  have htop : h.top = t.rt := F.C
  refine ⟨h', t', .mk hn (by rw [htop]; exact F.T.rt) (pn_isN d2.C) (by rw [htop]; exact d1) b1, b2.F, b3, ?_, fun m h0 hmt hmn => ?_⟩
  · have := b2.ids
    rw [show (plug [] t') = t' from rfl] at this
    rw [this, plug_io, hids, ins_split d5 d6]
    simp [Bt.ids]
  · refine (a2 m h0 (fun e => hmt ((hm m).2 e)) hmn).trans (b2.out m h0 (fun e => ?_))
    rcases plug_mem.1 e with e | e
    · exact hmt ((hm m).2 e)
    · simp [Bt.ids] at e; exact hmn e
end Go.Proofs.Ythkppnkhiimaeaa
