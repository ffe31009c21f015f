/- The chain's plain law (layer 10): Remove; what is told of a list. -/
import Derived.Test.YtajbfjmbohkphaaChP
set_option linter.unusedVariables false
set_option linter.unusedSimpArgs false
namespace Go.Proofs.Ytajbfjmbohkphaa

def removeG (G : Int → Int) (h n : Int) : Int → Int :=
  upd (upd (upd (upd (upd G (if G (n + 4) = 0 then h else G (n + 4)) (G n)) (if G n = 0 then h + 4 else G n + 4) (G (n + 4))) n 0) (n + 4) 0) (n + 8) 0

theorem lastD_mem {L : List Int} (h : L ≠ []) : L.getLastD 0 ∈ L := by
  rw [List.getLastD_eq_getLast?]
  cases hq : L.getLast? with
  | none => exact absurd (List.getLast?_eq_none_iff.1 hq) h
  | some x => exact List.mem_of_getLast? hq

/-- What is behind a segment is turned. -/
theorem Seg.turnEnd {G G' : Int → Int} {e o own p q q' : Int} {A : List Int} (S : Seg G e o own p A q) (hnd : A.Nodup)
    (h1 : ∀ x ∈ A, isN x → x ≠ A.getLastD 0 → G' (x + e) = G (x + e)) (h2 : ∀ x ∈ A, isN x → G' (x + o) = G (x + o) ∧ G' (x + 8) = G (x + 8)) (h3 : A ≠ [] → G' (A.getLastD 0 + e) = q') : Seg G' e o own p A q' := by
  rcases List.eq_nil_or_concat A with rfl | ⟨A', x, rfl⟩
  · trivial
  · rw [List.concat_eq_append] at *
    have hl : (A' ++ [x]).getLastD 0 = x := by rw [List.getLastD_eq_getLast?, List.getLast?_concat]; rfl
    rw [hl] at h1 h3
    obtain ⟨s1, hx, e1, e2, e3, _⟩ := Seg.app.1 S
    have hmx : x ∈ A' ++ [x] := List.mem_append.2 (.inr (List.mem_cons_self ..))
    obtain ⟨f1, f2⟩ := h2 x hmx hx
    refine Seg.app.2 ⟨s1.frame (fun y hy hyN => ?_), hx, h3 (by simp), f1.trans e2, f2.trans e3, trivial⟩
    have hmy : y ∈ A' ++ [x] := List.mem_append.2 (.inl hy)
    have hyx : y ≠ x := fun e4 => by
      subst e4
      exact (List.nodup_append.1 hnd).2.2 y hy y (List.mem_cons_self ..) rfl
    exact ⟨h1 y hmy hyN hyx, h2 y hmy hyN⟩
/-- What is ahead of a segment is turned. -/
theorem Seg.turnStart {G G' : Int → Int} {e o own p q p' : Int} {A : List Int} (S : Seg G e o own p A q) (hnd : A.Nodup)
    (h1 : ∀ x ∈ A, isN x → x ≠ A.headD 0 → G' (x + o) = G (x + o)) (h2 : ∀ x ∈ A, isN x → G' (x + e) = G (x + e) ∧ G' (x + 8) = G (x + 8)) (h3 : A ≠ [] → G' (A.headD 0 + o) = p') : Seg G' e o own p' A q := by
  cases A with
  | nil => trivial
  | cons x t =>
    obtain ⟨hx, e1, e2, e3, s⟩ := S
    obtain ⟨f1, f2⟩ := h2 x (List.mem_cons_self ..) hx
    refine ⟨hx, f1.trans e1, h3 (by simp), f2.trans e3, s.frame (fun y hy hyN => ?_)⟩
    have hyx : y ≠ x := fun e4 => by subst e4; exact (List.nodup_cons.1 hnd).1 hy
    obtain ⟨g1, g2⟩ := h2 y (List.mem_cons_of_mem _ hy) hyN
    exact ⟨g1, h1 y (List.mem_cons_of_mem _ hy) hyN hyx, g2⟩

/-- A node is taken out of its list. -/
theorem Rep.remove {G : Int → Int} {ls : Int → List Int} (R : Rep 0 4 G ls) {h n : Int} (hh : isH h) {A B : List Int} (hL : ls h = A ++ n :: B) :
    Rep 0 4 (removeG G h n) (updL ls h (A ++ B)) := by
  have hs := R.sg h hh
  have hnd := R.nd h hh
  have hhd := R.hd h hh
  have htl := R.tl h hh
  rw [hL] at hs hnd hhd htl
  obtain ⟨sA, hn, e1, e2, e3, sB⟩ := Seg.app.1 hs
  rw [Int.add_zero] at e1 hhd
  obtain ⟨ndA, ndnB, dis⟩ := List.nodup_append.1 hnd
  obtain ⟨hnB, ndB⟩ := List.nodup_cons.1 ndnB
  have hnA : n ∉ A := fun hm => dis n hm n (List.mem_cons_self ..) rfl
  have disAB : ∀ x, x ∈ A → x ∉ B := fun x h1 h2 => dis x h1 x (List.mem_cons_of_mem _ h2) rfl
  have mA : ∀ x ∈ A, x ∈ ls h := fun x hx => by rw [hL]; exact List.mem_append.2 (.inl hx)
  have mB : ∀ x ∈ B, x ∈ ls h := fun x hx => by rw [hL]; exact List.mem_append.2 (.inr (List.mem_cons_of_mem _ hx))
  have mn : n ∈ ls h := by rw [hL]; exact List.mem_append.2 (.inr (List.mem_cons_self ..))
  have fA : A ≠ [] → isN (A.getLastD 0) ∧ A.getLastD 0 ≠ n ∧ A.getLastD 0 ∈ A := fun hz => ⟨(R.own hh (mA _ (lastD_mem hz))).1, fun e => hnA (e ▸ lastD_mem hz), lastD_mem hz⟩
  have fB : B ≠ [] → isN (B.headD 0) ∧ B.headD 0 ≠ n ∧ B.headD 0 ∈ B := fun hz => ⟨(R.own hh (mB _ (headD_mem hz))).1, fun e => hnB (e ▸ headD_mem hz), headD_mem hz⟩
  have hn' := hn
  have hh' := hh
  unfold isN at hn'
  unfold isH at hh'
  have zA : G (n + 4) = 0 ↔ A = [] := by
    rw [e2]
    constructor
    · intro h0
      by_cases hz : A = []
      · exact hz
      · have := (fA hz).1; rw [h0] at this; unfold isN at this; omega
    · rintro rfl; rfl
  have zB : G n = 0 ↔ B = [] := by
    rw [e1]
    constructor
    · intro h0
      by_cases hz : B = []
      · exact hz
      · have := (fB hz).1; rw [h0] at this; unfold isN at this; omega
    · rintro rfl; rfl
  have key : ∀ a, a ≠ n → a ≠ n + 4 → a ≠ n + 8 → (A = [] → a ≠ h) → (A ≠ [] → a ≠ A.getLastD 0) → (B = [] → a ≠ h + 4) → (B ≠ [] → a ≠ B.headD 0 + 4) → removeG G h n a = G a := by
    intro a h1 h2 h3 h4 h5 h6 h7
    unfold removeG
    rw [upd_ne h3, upd_ne h2, upd_ne h1]
    rw [upd_ne (by split; exact h6 (zB.1 ‹_›); rw [e1]; exact h7 (fun e => ‹¬ G n = 0› (zB.2 e))),
      upd_ne (by split; exact h4 (zA.1 ‹_›); rw [e2]; exact h5 (fun e => ‹¬ G (n + 4) = 0› (zA.2 e)))]
  have kA : A = [] → removeG G h n h = B.headD 0 := by
    intro hz
    unfold removeG
    rw [upd_ne (by omega), upd_ne (by omega), upd_ne (by omega), upd_ne (by split; omega; rename_i h0; have := (fB (fun e => h0 (zB.2 e))).1; rw [e1]; unfold isN at this; omega), if_pos (zA.2 hz), upd_eq rfl, e1]
  have kA' : A ≠ [] → removeG G h n (A.getLastD 0) = B.headD 0 := by
    intro hz
    obtain ⟨f1, f2, f3⟩ := fA hz
    unfold isN at f1
    unfold removeG
    rw [upd_ne (by omega), upd_ne (by omega), upd_ne (by omega), upd_ne (by split; omega; rename_i h0; have := (fB (fun e => h0 (zB.2 e))).1; rw [e1]; unfold isN at this; omega), if_neg (fun e => hz (zA.1 e)), e2, upd_eq rfl, e1]
  have kB : B = [] → removeG G h n (h + 4) = A.getLastD 0 := by
    intro hz
    unfold removeG
    rw [upd_ne (by omega), upd_ne (by omega), upd_ne (by omega), if_pos (zB.2 hz), upd_eq rfl, e2]
  have kB' : B ≠ [] → removeG G h n (B.headD 0 + 4) = A.getLastD 0 := by
    intro hz
    obtain ⟨f1, f2, f3⟩ := fB hz
    unfold isN at f1
    unfold removeG
    rw [upd_ne (by omega), upd_ne (by omega), upd_ne (by omega), if_neg (fun e => hz (zB.1 e)), e1, upd_eq rfl, e2]
  have kn : removeG G h n n = 0 ∧ removeG G h n (n + 4) = 0 ∧ removeG G h n (n + 8) = 0 := by
    unfold removeG
    exact ⟨by rw [upd_ne (by omega), upd_ne (by omega), upd_eq rfl], by rw [upd_ne (by omega), upd_eq rfl], by rw [upd_eq rfl]⟩
  -- other nodes
  have far : ∀ x, isN x → x ≠ n → ((A ≠ [] → x ≠ A.getLastD 0) → removeG G h n (x + 0) = G (x + 0)) ∧ ((B ≠ [] → x ≠ B.headD 0) → removeG G h n (x + 4) = G (x + 4)) ∧ removeG G h n (x + 8) = G (x + 8) := by
    intro x hx hxn
    unfold isN at hx
    rw [Int.add_zero]
    refine ⟨fun hA => ?_, fun hB => ?_, ?_⟩ <;>
    · apply key
      · omega
      · omega
      · omega
      · intro _; omega
      · intro hz; have hm := (fA hz).1; unfold isN at hm; first | exact hA hz | omega
      · intro _; omega
      · intro hz; have hm := (fB hz).1; unfold isN at hm; first | omega | (have := hB hz; omega)
  refine ⟨fun h' hh2 => ?_, fun h' hh2 => ?_, fun h' hh2 => ?_, fun h' hh2 => ?_, fun m hm hmf => ?_, fun a ha h1 h2 => ?_⟩
  · rw [Int.add_zero]
    by_cases e4 : h' = h
    · subst e4
      rw [updL_eq rfl, headD_app]
      by_cases hz : A = []
      · rw [kA hz, hz]; rfl
      · have : A.headD (B.headD 0) = A.headD n := by cases hq : A with | nil => exact absurd hq hz | cons x t => rfl
        rw [this]
        have h0 : G h' = A.headD n := by rw [hhd, headD_app]; rfl
        rw [← h0]
        apply key
        · omega
        · omega
        · omega
        · intro h0; exact absurd h0 hz
        · intro hz; have hm := (fA hz).1; unfold isN at hm; omega
        · intro _; omega
        · intro hz; have hm := (fB hz).1; unfold isN at hm; omega
    · rw [updL_ne e4, ← R.hd h' hh2, Int.add_zero]
      unfold isH at hh2
      apply key
      · omega
      · omega
      · omega
      · intro _; omega
      · intro hz; have hm := (fA hz).1; unfold isN at hm; omega
      · intro _; omega
      · intro hz; have hm := (fB hz).1; unfold isN at hm; omega
  · by_cases e4 : h' = h
    · subst e4
      rw [updL_eq rfl]
      by_cases hz : B = []
      · rw [kB hz, hz, List.append_nil]
      · have h0 : (A ++ B).getLastD 0 = (A ++ n :: B).getLastD 0 := by
          cases hq : B with
          | nil => exact absurd hq hz
          | cons y t => rw [List.getLastD_eq_getLast?, List.getLastD_eq_getLast?]; simp [List.getLast?_append]
        rw [h0, ← htl]
        apply key
        · omega
        · omega
        · omega
        · intro _; omega
        · intro hz; have hm := (fA hz).1; unfold isN at hm; omega
        · intro h0; exact absurd h0 hz
        · intro hz; have hm := (fB hz).1; unfold isN at hm; omega
    · rw [updL_ne e4, ← R.tl h' hh2]
      unfold isH at hh2
      apply key
      · omega
      · omega
      · omega
      · intro _; omega
      · intro hz; have hm := (fA hz).1; unfold isN at hm; omega
      · intro _; omega
      · intro hz; have hm := (fB hz).1; unfold isN at hm; omega
  · by_cases e4 : h' = h
    · subst e4
      rw [updL_eq rfl]
      refine Seg.app.2 ⟨?_, ?_⟩
      · refine sA.turnEnd ndA (fun x hx hxN hxl => ?_) (fun x hx hxN => ?_) (fun hz => by rw [Int.add_zero]; exact kA' hz)
        · exact (far x hxN (fun e => hnA (e ▸ hx))).1 (fun _ => hxl)
        · obtain ⟨_, f2, f3⟩ := far x hxN (fun e => hnA (e ▸ hx))
          exact ⟨f2 (fun hz e => disAB x hx (e ▸ (fB hz).2.2)), f3⟩
      · have hA0 : A.getLastD 0 = A.getLastD 0 := rfl
        refine sB.turnStart ndB (fun x hx hxN hxl => ?_) (fun x hx hxN => ?_) (fun hz => kB' hz)
        · exact (far x hxN (fun e => hnB (e ▸ hx))).2.1 (fun _ => hxl)
        · obtain ⟨f1, _, f3⟩ := far x hxN (fun e => hnB (e ▸ hx))
          exact ⟨f1 (fun hz e => disAB x (e ▸ (fA hz).2.2) hx), f3⟩
    · rw [updL_ne e4]
      refine (R.sg h' hh2).frame (fun x hx hxN => ?_)
      have ne : ∀ y, y ∈ ls h → x ≠ y := fun y hy e5 => by subst e5; exact e4 (R.one hh2 hh hx hy)
      obtain ⟨f1, f2, f3⟩ := far x hxN (ne n mn)
      exact ⟨f1 (fun hz => ne _ (mA _ (fA hz).2.2)), f2 (fun hz => ne _ (mB _ (fB hz).2.2)), f3⟩
  · by_cases e4 : h' = h
    · subst e4
      rw [updL_eq rfl]
      exact List.nodup_append.2 ⟨ndA, ndB, fun x hx y hy e5 => disAB x hx (e5 ▸ hy)⟩
    · rw [updL_ne e4]
      exact R.nd h' hh2
  · by_cases hmn : m = n
    · subst hmn
      rw [Int.add_zero]
      exact kn
    · have hm2 : ∀ h', isH h' → m ∉ ls h' := fun h' hh2 hmem => hmf h' hh2 (by
        by_cases e4 : h' = h
        · rw [updL_eq e4]; subst e4
          rw [hL] at hmem
          rcases List.mem_append.1 hmem with hm1 | hm1
          · exact List.mem_append.2 (.inl hm1)
          · rcases List.mem_cons.1 hm1 with hm3 | hm3
            · exact absurd hm3 hmn
            · exact List.mem_append.2 (.inr hm3)
        · rw [updL_ne e4]; exact hmem)
      obtain ⟨f1, f2, f3⟩ := far m hm hmn
      obtain ⟨g1, g2, g3⟩ := R.fr m hm hm2
      exact ⟨(f1 (fun hz e => hm2 h hh (e ▸ mA _ (fA hz).2.2))).trans g1, (f2 (fun hz e => hm2 h hh (e ▸ mB _ (fB hz).2.2))).trans g2, f3.trans g3⟩
  · rw [← R.zz a ha h1 h2]
    unfold al at ha
    apply key
    · omega
    · omega
    · omega
    · intro _; omega
    · intro hz; have hm := (fA hz).1; unfold isN at hm; omega
    · intro _; omega
    · intro hz; have hm := (fB hz).1; unfold isN at hm; omega
end Go.Proofs.Ytajbfjmbohkphaa
