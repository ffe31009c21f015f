/- The chain's plain law (layer 10): what the links hold, and what Push and Remove make of it. No program in sight. -/
import Derived.Test.YtajbfjmbohkphaaCh4
set_option linter.unusedVariables false
set_option linter.unusedSimpArgs false
namespace Go.Proofs.Ytajbfjmbohkphaa

/-! ### Numbers of 32 bits at multiples of 4 -/
def al (a : Int) : Prop := 0 ≤ a ∧ a ≤ 508 ∧ a % 4 = 0
def upd (G : Int → Int) (a v : Int) : Int → Int := fun x => if x = a then v else G x
theorem upd_eq {G : Int → Int} {a v x : Int} (h : x = a) : upd G a v x = v := if_pos h
theorem upd_ne {G : Int → Int} {a v x : Int} (h : x ≠ a) : upd G a v x = G x := if_neg h
/-- The bytes hold these numbers. -/
def Ag (bs : List Int) (G : Int → Int) : Prop := bs.length = 512 ∧ ∀ a, al a → gt bs a = G a
theorem nErr4 {bs : List Int} (hl : bs.length = 512) {a : Int} (h : al a) : nErr bs.length a 4 = 0 := nErr_ok (by unfold WOk; omega) h.1 (by have := h.2.1; omega)
theorem Ag.st_ {bs : List Int} {G : Int → Int} (h : Ag bs G) {a v : Int} (ha : al a) (h0 : 0 ≤ v) (h1 : v ≤ 4294967295) : Ag (st bs a v) (upd G a v) := by
  refine ⟨by rw [st_length]; exact h.1, fun b hb => ?_⟩
  unfold gt st
  by_cases e : b = a
  · subst e
    rw [ldA_stA (nErr4 h.1 ha), upd_eq rfl, show (256 : Int) ^ (Int.toNat 4) = 4294967296 from by decide]
    omega
  · rw [ldA_stA_other (nErr4 h.1 ha) (by have := ha.2.2; have := hb.2.2; omega), upd_ne e]
    exact h.2 b hb
theorem Ag.fill {bs : List Int} {G : Int → Int} (h : Ag bs G) {n : Int} (hn : al n) (h1 : n ≤ 500) : Ag (fillA bs n 12 0) (upd (upd (upd G n 0) (n + 4) 0) (n + 8) 0) := by
  obtain ⟨hl, hg⟩ := h
  refine ⟨by rw [fillA_length]; exact hl, fun b hb => ?_⟩
  have hr : rErr bs.length n 12 = 0 := rErr_ok (by omega) hn.1 (by omega)
  have hb4 := nErr4 hl hb
  unfold gt ldA fillA
  rw [if_pos hr, put_length, if_pos hb4]
  have hm1 := hn.2.2
  have hm2 := hb.2.2
  have hn0 := hn.1
  have hb0 := hb.1
  have hb1 := hb.2.1
  by_cases e : n ≤ b ∧ b ≤ n + 8
  · have hz : ldv (put bs n.toNat (fun _ => 0) (Int.toNat 12)) b.toNat (Int.toNat 4) = 0 % 256 ^ 4 := by
      apply ldv_bytes
      intro j hj
      rw [gb_put, if_pos (by have h4 : Int.toNat 4 = 4 := rfl; have h12 : Int.toNat 12 = 12 := rfl; rw [h12]; omega)]
      unfold byteOf
      simp
    rw [hz]
    rcases (show b = n ∨ b = n + 4 ∨ b = n + 8 by omega) with rfl | rfl | rfl
    · rw [upd_ne (by omega), upd_ne (by omega), upd_eq rfl]; rfl
    · rw [upd_ne (by omega), upd_eq rfl]; rfl
    · rw [upd_eq rfl]; rfl
  · rw [upd_ne (by omega), upd_ne (by omega), upd_ne (by omega), ← hg b hb]
    unfold gt ldA
    rw [if_pos hb4]
    apply ldv_congr
    intro j hj
    have h4 : Int.toNat 4 = 4 := rfl
    have h12 : Int.toNat 12 = 12 := rfl
    rw [h4] at hj
    rw [gb_put, h12, if_neg (by omega)]

/-! ### Lists of nodes -/
def isN (x : Int) : Prop := 32 ≤ x ∧ x ≤ 240 ∧ x % 16 = 0
def isH (h : Int) : Prop := h = 8 ∨ h = 16 ∨ h = 24
instance (x : Int) : Decidable (isN x) := by unfold isN; infer_instance
instance (h : Int) : Decidable (isH h) := by unfold isH; infer_instance

/-- From p on these nodes, then q: e is where a node's way on is, o where its way back. -/
def Seg (G : Int → Int) (e o own : Int) : Int → List Int → Int → Prop
  | _, [], _ => True
  | p, x :: t, q => isN x ∧ G (x + e) = t.headD q ∧ G (x + o) = p ∧ G (x + 8) = own ∧ Seg G e o own x t q

theorem Seg.frame {G G' : Int → Int} {e o own : Int} : ∀ {L : List Int} {p q : Int}, Seg G e o own p L q → (∀ x ∈ L, isN x → G' (x + e) = G (x + e) ∧ G' (x + o) = G (x + o) ∧ G' (x + 8) = G (x + 8)) → Seg G' e o own p L q
  | [], _, _, _, _ => trivial
  | x :: t, p, q, ⟨h1, h2, h3, h4, h5⟩, h => by
    obtain ⟨e1, e2, e3⟩ := h x (List.mem_cons_self ..) h1
    exact ⟨h1, e1.trans h2, e2.trans h3, e3.trans h4, h5.frame (fun y hy => h y (List.mem_cons_of_mem _ hy))⟩
theorem Seg.mem {G : Int → Int} {e o own : Int} : ∀ {L : List Int} {p q : Int}, Seg G e o own p L q → ∀ x ∈ L, isN x ∧ G (x + 8) = own
  | [], _, _, _, _, h => by cases h
  | y :: t, p, q, ⟨h1, h2, h3, h4, h5⟩, x, h => by
    rcases List.mem_cons.1 h with rfl | h
    · exact ⟨h1, h4⟩
    · exact h5.mem x h
theorem headD_app (A B : List Int) (q : Int) : (A ++ B).headD q = A.headD (B.headD q) := by cases A <;> rfl
theorem lastD_cons (x : Int) (t : List Int) (p : Int) : (x :: t).getLastD p = t.getLastD x := by cases t <;> simp [List.getLastD]
theorem Seg.app {G : Int → Int} {e o own : Int} : ∀ {A B : List Int} {p q : Int}, Seg G e o own p (A ++ B) q ↔ Seg G e o own p A (B.headD q) ∧ Seg G e o own (A.getLastD p) B q
  | [], B, p, q => ⟨fun h => ⟨trivial, h⟩, fun h => h.2⟩
  | x :: t, B, p, q => by
    rw [lastD_cons]
    show (isN x ∧ G (x + e) = (t ++ B).headD q ∧ G (x + o) = p ∧ G (x + 8) = own ∧ Seg G e o own x (t ++ B) q) ↔ (isN x ∧ G (x + e) = t.headD (B.headD q) ∧ G (x + o) = p ∧ G (x + 8) = own ∧ Seg G e o own x t (B.headD q)) ∧ _
    rw [headD_app, Seg.app]
    constructor
    · rintro ⟨h1, h2, h3, h4, h5, h6⟩; exact ⟨⟨h1, h2, h3, h4, h5⟩, h6⟩
    · rintro ⟨⟨h1, h2, h3, h4, h5⟩, h6⟩; exact ⟨h1, h2, h3, h4, h5, h6⟩
theorem headD_rev (L : List Int) (q : Int) : L.reverse.headD q = L.getLastD q := by
  cases L with
  | nil => rfl
  | cons x t => rw [List.headD_eq_head?_getD, List.head?_reverse, List.getLastD_eq_getLast?]
theorem lastD_rev (L : List Int) (q : Int) : L.reverse.getLastD q = L.headD q := by
  rw [List.getLastD_eq_getLast?, List.getLast?_reverse, List.headD_eq_head?_getD]
/-- Turned about. -/
theorem Seg.rev {G : Int → Int} {e o own : Int} : ∀ {L : List Int} {p q : Int}, Seg G e o own p L q → Seg G o e own q L.reverse p
  | [], _, _, _ => trivial
  | x :: t, p, q, ⟨h1, h2, h3, h4, h5⟩ => by
    rw [List.reverse_cons]
    refine Seg.app.2 ⟨h5.rev, h1, h3, ?_, h4, trivial⟩
    rw [h2, lastD_rev]

/-- What the links hold: by e and o: (0, 4), or turned about. -/
structure Rep (e o : Int) (G : Int → Int) (ls : Int → List Int) : Prop where
  hd : ∀ h, isH h → G (h + e) = (ls h).headD 0
  tl : ∀ h, isH h → G (h + o) = (ls h).getLastD 0
  sg : ∀ h, isH h → Seg G e o h 0 (ls h) 0
  nd : ∀ h, isH h → (ls h).Nodup
  fr : ∀ n, isN n → (∀ h, isH h → n ∉ ls h) → G (n + e) = 0 ∧ G (n + o) = 0 ∧ G (n + 8) = 0
  zz : ∀ a, al a → ¬ (8 ≤ a ∧ a < 32) → ¬ (32 ≤ a ∧ a < 256 ∧ a % 16 ≠ 12) → G a = 0
theorem Rep.rev {e o : Int} {G : Int → Int} {ls : Int → List Int} (R : Rep e o G ls) : Rep o e G (fun h => (ls h).reverse) :=
  ⟨fun h hh => by rw [headD_rev]; exact R.tl h hh, fun h hh => by rw [lastD_rev]; exact R.hd h hh, fun h hh => (R.sg h hh).rev, fun h hh => List.pairwise_reverse.2 ((R.nd h hh).imp Ne.symm),
   fun n hn hm => by obtain ⟨h1, h2, h3⟩ := R.fr n hn (fun h hh hm' => hm h hh (List.mem_reverse.2 hm')); exact ⟨h2, h1, h3⟩, R.zz⟩
theorem Rep.congr {e o : Int} {G : Int → Int} {ls ls' : Int → List Int} (R : Rep e o G ls) (h : ∀ x, ls x = ls' x) : Rep e o G ls' := by
  rw [show ls' = ls from funext (fun x => (h x).symm)]; exact R
theorem Rep.own {e o : Int} {G : Int → Int} {ls : Int → List Int} (R : Rep e o G ls) {h n : Int} (hh : isH h) (hn : n ∈ ls h) : isN n ∧ G (n + 8) = h := (R.sg h hh).mem n hn
theorem Rep.one {e o : Int} {G : Int → Int} {ls : Int → List Int} (R : Rep e o G ls) {h h' n : Int} (hh : isH h) (hh' : isH h') (hn : n ∈ ls h) (hn' : n ∈ ls h') : h = h' := (R.own hh hn).2.symm.trans (R.own hh' hn').2
theorem Rep.free {e o : Int} {G : Int → Int} {ls : Int → List Int} (R : Rep e o G ls) {n : Int} (hn : isN n) : G (n + 8) = 0 ↔ ∀ h, isH h → n ∉ ls h := by
  constructor
  · intro h0 h hh hm
    have := (R.own hh hm).2
    unfold isH at hh
    omega
  · intro h
    exact (R.fr n hn h).2.2

def updL (ls : Int → List Int) (h : Int) (L : List Int) : Int → List Int := fun x => if x = h then L else ls x
theorem updL_eq {ls : Int → List Int} {h x : Int} {L : List Int} (e : x = h) : updL ls h L x = L := if_pos e
theorem updL_ne {ls : Int → List Int} {h x : Int} {L : List Int} (e : x ≠ h) : updL ls h L x = ls x := if_neg e

def pushG (G : Int → Int) (h n e o : Int) : Int → Int :=
  let b4 := upd (upd (upd (upd G (n + e) (G (h + e))) (n + o) 0) (n + 8) h) (h + e) n
  if G (h + e) = 0 then upd b4 (h + o) n else upd b4 (G (h + e) + o) n

theorem headD_mem {L : List Int} (h : L ≠ []) : L.headD 0 ∈ L := by cases L with | nil => exact absurd rfl h | cons x t => exact List.mem_cons_self ..

/-- A node is pushed ahead of a list (by e). -/
theorem Rep.push {e o : Int} {G : Int → Int} {ls : Int → List Int} (R : Rep e o G ls) (he : (e = 0 ∧ o = 4) ∨ (e = 4 ∧ o = 0)) {h n : Int} (hh : isH h) (hn : isN n) (hf : ∀ h, isH h → n ∉ ls h) :
    Rep e o (pushG G h n e o) (updL ls h (n :: ls h)) := by
  have hn' := hn
  have hh' := hh
  unfold isN at hn'
  unfold isH at hh'
  -- what is turned: n's three, h's one or two, and the first one's way back
  have key : ∀ a, a ≠ n + e → a ≠ n + o → a ≠ n + 8 → a ≠ h + e → (ls h = [] → a ≠ h + o) → (ls h ≠ [] → a ≠ (ls h).headD 0 + o) → pushG G h n e o a = G a := by
    intro a h1 h2 h3 h4 h5 h6
    unfold pushG
    have hd := R.hd h hh
    by_cases hz : ls h = []
    · rw [hz] at hd
      rw [if_pos (by rw [hd]; rfl), upd_ne (h5 hz), upd_ne h4, upd_ne h3, upd_ne h2, upd_ne h1]
    · have hm := (R.own hh (headD_mem hz)).1
      rw [if_neg (by rw [hd]; unfold isN at hm; omega), hd, upd_ne (h6 hz), upd_ne h4, upd_ne h3, upd_ne h2, upd_ne h1]
  have hz0 : G (h + e) = 0 ↔ ls h = [] := by
    rw [R.hd h hh]
    constructor
    · intro h0
      by_cases hz : ls h = []
      · exact hz
      · have hm := (R.own hh (headD_mem hz)).1
        rw [h0] at hm; unfold isN at hm; omega
    · intro hz; rw [hz]; rfl
  have hfirst : ls h ≠ [] → isN ((ls h).headD 0) ∧ (ls h).headD 0 ≠ n := fun hz => ⟨(R.own hh (headD_mem hz)).1, fun e => hf h hh (e ▸ headD_mem hz)⟩
  have k1 : pushG G h n e o (n + e) = (ls h).headD 0 := by
    rw [← R.hd h hh]
    unfold pushG
    split
    · rw [upd_ne (by omega), upd_ne (by omega), upd_ne (by omega), upd_ne (by omega), upd_eq rfl]
    · rename_i hz
      obtain ⟨hm, hne⟩ := hfirst (fun e => hz (hz0.2 e))
      rw [R.hd h hh]
      unfold isN at hm
      rw [upd_ne (by omega), upd_ne (by omega), upd_ne (by omega), upd_ne (by omega), upd_eq rfl]
  have k2 : pushG G h n e o (n + o) = 0 := by
    unfold pushG
    split
    · rw [upd_ne (by omega), upd_ne (by omega), upd_ne (by omega), upd_eq rfl]
    · rename_i hz
      obtain ⟨hm, hne⟩ := hfirst (fun e => hz (hz0.2 e))
      rw [R.hd h hh]
      unfold isN at hm
      rw [upd_ne (by omega), upd_ne (by omega), upd_ne (by omega), upd_eq rfl]
  have k3 : pushG G h n e o (n + 8) = h := by
    unfold pushG
    split
    · rw [upd_ne (by omega), upd_ne (by omega), upd_eq rfl]
    · rename_i hz
      obtain ⟨hm, hne⟩ := hfirst (fun e => hz (hz0.2 e))
      rw [R.hd h hh]
      unfold isN at hm
      rw [upd_ne (by omega), upd_ne (by omega), upd_eq rfl]
  have k4 : pushG G h n e o (h + e) = n := by
    unfold pushG
    split
    · rw [upd_ne (by omega), upd_eq rfl]
    · rename_i hz
      obtain ⟨hm, hne⟩ := hfirst (fun e => hz (hz0.2 e))
      rw [R.hd h hh]
      unfold isN at hm
      rw [upd_ne (by omega), upd_eq rfl]
  -- a node of some list, not n and not the first of h's, is as it was
  have far : ∀ x, isN x → x ≠ n → (ls h ≠ [] → x ≠ (ls h).headD 0) → pushG G h n e o (x + e) = G (x + e) ∧ pushG G h n e o (x + o) = G (x + o) ∧ pushG G h n e o (x + 8) = G (x + 8) := by
    intro x hx hxn hxf
    unfold isN at hx
    refine ⟨?_, ?_, ?_⟩ <;>
    · apply key
      · omega
      · omega
      · omega
      · omega
      · intro _; omega
      · intro hz
        have hm := (hfirst hz).1
        have := hxf hz
        unfold isN at hm
        omega
  refine ⟨fun h' hh2 => ?_, fun h' hh2 => ?_, fun h' hh2 => ?_, fun h' hh2 => ?_, fun m hm hmf => ?_, fun a ha h1 h2 => ?_⟩
  · by_cases e1 : h' = h
    · subst e1
      rw [updL_eq rfl, k4]; rfl
    · rw [updL_ne e1, ← R.hd h' hh2]
      unfold isH at hh2
      apply key
      · omega
      · omega
      · omega
      · omega
      · intro _; omega
      · intro hz; have hm := (hfirst hz).1; unfold isN at hm; omega
  · by_cases e1 : h' = h
    · subst e1
      rw [updL_eq rfl, lastD_cons]
      by_cases hz : ls h' = []
      · unfold pushG
        rw [if_pos (hz0.2 hz), upd_eq rfl, hz]; rfl
      · have hl : (ls h').getLastD n = (ls h').getLastD 0 := by cases hq : ls h' with | nil => exact absurd hq hz | cons x t => rw [lastD_cons, lastD_cons]
        rw [hl, ← R.tl h' hh2]
        have hm := (hfirst hz).1
        unfold isN at hm
        apply key
        · omega
        · omega
        · omega
        · omega
        · intro h0; exact absurd h0 hz
        · intro _; omega
    · rw [updL_ne e1, ← R.tl h' hh2]
      unfold isH at hh2
      apply key
      · omega
      · omega
      · omega
      · omega
      · intro _; omega
      · intro hz; have hm := (hfirst hz).1; unfold isN at hm; omega
  · by_cases e1 : h' = h
    · subst e1
      rw [updL_eq rfl]
      refine ⟨hn, k1, k2, k3, ?_⟩
      have hs := R.sg h' hh2
      have hnd := R.nd h' hh2
      cases hq : ls h' with
      | nil => trivial
      | cons x t =>
        rw [hq] at hs hnd
        obtain ⟨h1, h2, h3, h4, h5⟩ := hs
        have hx : (ls h').headD 0 = x := by rw [hq]; rfl
        have hxn : x ≠ n := by have := (hfirst (by rw [hq]; simp)).2; rwa [hx] at this
        have hxx := h1
        unfold isN at hxx
        have hzz : ¬ G (h' + e) = 0 := by rw [R.hd h' hh, hx]; omega
        refine ⟨h1, ?_, ?_, ?_, ?_⟩
        · rw [← h2]
          apply key
          · omega
          · omega
          · omega
          · omega
          · intro h0; rw [hq] at h0; cases h0
          · intro _; rw [hx]; omega
        · unfold pushG
          rw [if_neg hzz, R.hd h' hh, hx, upd_eq rfl]
        · refine Eq.trans ?_ h4
          apply key
          · omega
          · omega
          · omega
          · omega
          · intro h0; rw [hq] at h0; cases h0
          · intro _; rw [hx]; omega
        · refine h5.frame (fun y hy hyN => far y hyN ?_ ?_)
          · rintro rfl
            exact hf h' hh (by rw [hq]; exact List.mem_cons_of_mem _ hy)
          · intro _ e2
            rw [hx] at e2
            subst e2
            exact (List.nodup_cons.1 hnd).1 hy
    · rw [updL_ne e1]
      refine (R.sg h' hh2).frame (fun y hy hyN => far y hyN ?_ ?_)
      · rintro rfl
        exact hf h' hh2 hy
      · intro hz e2
        subst e2
        exact e1 (R.one hh2 hh hy (headD_mem hz))
  · by_cases e1 : h' = h
    · subst e1
      rw [updL_eq rfl]
      exact List.nodup_cons.2 ⟨hf h' hh, R.nd h' hh⟩
    · rw [updL_ne e1]
      exact R.nd h' hh2
  · have hmn : m ≠ n := fun e2 => hmf h hh (by rw [updL_eq rfl, e2]; exact List.mem_cons_self ..)
    have hm2 : ∀ h', isH h' → m ∉ ls h' := fun h' hh2 hmem => hmf h' hh2 (by
      by_cases e1 : h' = h
      · rw [updL_eq e1]; subst e1; exact List.mem_cons_of_mem _ hmem
      · rw [updL_ne e1]; exact hmem)
    obtain ⟨f1, f2, f3⟩ := far m hm hmn (fun hz e2 => hm2 h hh (e2 ▸ headD_mem hz))
    obtain ⟨g1, g2, g3⟩ := R.fr m hm hm2
    exact ⟨f1.trans g1, f2.trans g2, f3.trans g3⟩
  · rw [← R.zz a ha h1 h2]
    unfold al at ha
    apply key
    · omega
    · omega
    · omega
    · omega
    · intro _; omega
    · intro hz; have hm := (hfirst hz).1; unfold isN at hm; omega
end Go.Proofs.Ytajbfjmbohkphaa
