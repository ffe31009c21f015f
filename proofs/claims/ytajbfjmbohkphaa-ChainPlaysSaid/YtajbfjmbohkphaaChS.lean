/- The chain (layer 10): each function's step, in lists. -/
import Derived.Test.YtajbfjmbohkphaaChP2
set_option linter.unusedVariables false
set_option linter.unusedSimpArgs false
namespace Go.Proofs.Ytajbfjmbohkphaa
open Go.RowKit

/-- An arena of the call's own that holds these lists. -/
structure Cs (w0 w : World) (p d : Nat) (ls : Int → List Int) : Prop where
  ex : ∃ bs G, One w0 w p d bs ∧ Ag bs G ∧ Rep 0 4 G ls

theorem One.grown {w0 w w1 : World} {p d : Nat} {bs bs' : List Int} (S : One w0 w p d bs) (hA : Ar w1 p d bs') (hg : w.grownBy w1 (some d)) : One w0 w1 p d bs' := ⟨⟨grown_below S.kept.below hg S.new S.kept.below.size⟩, hA, S.new⟩

theorem Cs.then_ {w0 w w1 : World} {p d : Nat} {ls : Int → List Int} (S : Cs w0 w p d ls) (k : Below w.heap.size w w1) : Cs w0 w1 p d ls := by
  obtain ⟨bs, G, h1, h2, h3⟩ := S.ex
  exact ⟨bs, G, h1.then_ k, h2, h3⟩
theorem Cs.kept {w0 w : World} {p d : Nat} {ls : Int → List Int} (S : Cs w0 w p d ls) : Kept w0 w := by
  obtain ⟨bs, G, h1, h2, h3⟩ := S.ex
  exact h1.kept
theorem Cs.new {w0 w : World} {p d : Nat} {ls : Int → List Int} (S : Cs w0 w p d ls) : w0.heap.size ≤ d ∧ d < w.heap.size ∧ p < w.heap.size := by
  obtain ⟨bs, G, h1, h2, h3⟩ := S.ex
  exact ⟨h1.new, h1.ar.lt.2, h1.ar.lt.1⟩
theorem Cs.congr {w0 w : World} {p d : Nat} {ls ls' : Int → List Int} (S : Cs w0 w p d ls) (h : ∀ x, ls x = ls' x) : Cs w0 w p d ls' := by
  rw [show ls' = ls from funext (fun x => (h x).symm)]; exact S
/-- What else lies there may be turned. -/
theorem Cs.other {w0 w w1 : World} {p d : Nat} {ls : Int → List Int} (S : Cs w0 w p d ls) {r : Option Nat} (hg : w.grownBy w1 r) (hne : ∀ k, r = some k → k ≠ p ∧ k ≠ d ∧ w0.heap.size ≤ k) : Cs w0 w1 p d ls := by
  obtain ⟨bs, G, h1, h2, h3⟩ := S.ex
  exact ⟨bs, G, ⟨⟨h1.kept.below.grown hg h1.kept.below.size (fun k hk => (hne k hk).2.2)⟩, h1.ar.other hg (fun k hk => ⟨(hne k hk).1, (hne k hk).2.1⟩), h1.new⟩, h2, h3⟩

theorem al_h {h : Int} (hh : isH h) : al h ∧ al (h + 4) := by unfold isH at hh; unfold al; omega
theorem al_n {n : Int} (hn : isN n) : al n ∧ al (n + 4) ∧ al (n + 8) ∧ n ≤ 500 := by unfold isN at hn; unfold al; omega
theorem inn_h {bs : List Int} (hl : bs.length = 512) {h : Int} (hh : isH h) : inn bs h 8 = true := by
  unfold inn; unfold isH at hh
  rw [Bool.and_eq_true, decide_eq_true_eq, decide_eq_true_eq, hl]; omega
theorem inn_n {bs : List Int} (hl : bs.length = 512) {n : Int} (hn : isN n) : inn bs n 16 = true := by
  unfold inn; unfold isN at hn
  rw [Bool.and_eq_true, decide_eq_true_eq, decide_eq_true_eq, hl]; omega
theorem chk_ok {bs : List Int} (hl : bs.length = 512) {h n : Int} (hh : isH h) (hn : isN n) : chk bs h n = 0 := by unfold chk; rw [inn_h hl hh, inn_n hl hn]; rfl

/-- The head whose list a node is in. -/
def ownr (ls : Int → List Int) (n : Int) : Int := if n ∈ ls 8 then 8 else if n ∈ ls 16 then 16 else if n ∈ ls 24 then 24 else 0
theorem Rep.ownG {G : Int → Int} {ls : Int → List Int} (R : Rep 0 4 G ls) {n : Int} (hn : isN n) : G (n + 8) = ownr ls n := by
  unfold ownr
  split
  · exact (R.own (.inl rfl) ‹_›).2
  · split
    · exact (R.own (.inr (.inl rfl)) ‹_›).2
    · split
      · exact (R.own (.inr (.inr rfl)) ‹_›).2
      · refine (R.free hn).2 (fun h hh => ?_)
        rcases hh with rfl | rfl | rfl <;> assumption
theorem ownr_zero {ls : Int → List Int} {n : Int} : ownr ls n = 0 ↔ ∀ h, isH h → n ∉ ls h := by
  unfold ownr
  constructor
  · intro h0 h hh hm
    by_cases m8 : n ∈ ls 8
    · rw [if_pos m8] at h0; omega
    · rw [if_neg m8] at h0
      by_cases m16 : n ∈ ls 16
      · rw [if_pos m16] at h0; omega
      · rw [if_neg m16] at h0
        by_cases m24 : n ∈ ls 24
        · rw [if_pos m24] at h0; omega
        · rcases hh with rfl | rfl | rfl
          · exact m8 hm
          · exact m16 hm
          · exact m24 hm
  · intro h
    rw [if_neg (h 8 (.inl rfl)), if_neg (h 16 (.inr (.inl rfl))), if_neg (h 24 (.inr (.inr rfl)))]
theorem Rep.own_iff {G : Int → Int} {ls : Int → List Int} (R : Rep 0 4 G ls) {h n : Int} (hh : isH h) : ownr ls n = h ↔ n ∈ ls h := by
  constructor
  · intro e
    unfold ownr at e
    unfold isH at hh
    split at e
    · subst e; assumption
    · split at e
      · subst e; assumption
      · split at e
        · subst e; assumption
        · omega
  · intro hm
    rw [← R.ownG (R.own hh hm).1]
    exact (R.own hh hm).2

def pushLs (ls : Int → List Int) (h n : Int) (front : Bool) : Int → List Int := if ownr ls n = 0 then updL ls h (if front then n :: ls h else ls h ++ [n]) else ls
def remLs (ls : Int → List Int) (h n : Int) : Int → List Int := updL ls h ((ls h).erase n)
def endN (L : List Int) (front : Bool) : Int := if front then L.headD 0 else L.getLastD 0

theorem Rep.first {G : Int → Int} {ls : Int → List Int} (R : Rep 0 4 G ls) {h : Int} (hh : isH h) : G h = (ls h).headD 0 := by have := R.hd h hh; rwa [Int.add_zero] at this
theorem Rep.node0 {G : Int → Int} {ls : Int → List Int} (R : Rep 0 4 G ls) {h : Int} (hh : isH h) (hz : (ls h).headD 0 ≠ 0) : isN ((ls h).headD 0) :=
  (R.own hh (headD_mem (fun e => hz (by rw [e]; rfl)))).1
theorem Rep.nodeL {G : Int → Int} {ls : Int → List Int} (R : Rep 0 4 G ls) {h : Int} (hh : isH h) (hz : (ls h).getLastD 0 ≠ 0) : isN ((ls h).getLastD 0) :=
  (R.own hh (lastD_mem (fun e => hz (by rw [e]; rfl)))).1

theorem push_ag {bs : List Int} {G : Int → Int} {ls : Int → List Int} (A : Ag bs G) (R : Rep 0 4 G ls) {h n : Int} (hh : isH h) (hn : isN n) (front : Bool) (hf : ownr ls n = 0) :
    ∃ G', Ag (pushB bs h n front) G' ∧ Rep 0 4 G' (pushLs ls h n front) := by
  have hE : pushE bs h n = 0 := by unfold pushE; rw [if_pos (chk_ok A.1 hh hn), A.2 _ (al_n hn).2.2.1, R.ownG hn, if_pos hf]
  have ⟨a1, a2⟩ := al_h hh
  have ⟨b1, b2, b3, b4⟩ := al_n hn
  have hn' := hn
  have hh' := hh
  unfold isN at hn'
  unfold isH at hh'
  unfold pushB pushLs
  rw [if_pos hE, if_pos hf]
  cases front
  · rw [if_neg (by simp), if_neg (by simp)]
    have hg := A.2 (h + 4) a2
    have hl := R.tl h hh
    refine ⟨pushG G h n 4 0, ?_, ?_⟩
    · unfold pushL pushG
      rw [hg]
      have hv : 0 ≤ G (h + 4) ∧ G (h + 4) ≤ 4294967295 := by
        rw [hl]
        by_cases hz : (ls h).getLastD 0 = 0
        · omega
        · have := R.nodeL hh hz; unfold isN at this; omega
      have B4 := (((A.st_ b2 hv.1 hv.2).st_ (a := n + 0) (v := 0) (by rw [Int.add_zero]; exact b1) (by omega) (by omega)).st_ b3 (v := h) (by omega) (by omega)).st_ a2 (v := n) (by omega) (by omega)
      split
      · exact B4.st_ (by rw [Int.add_zero]; exact a1) (by omega) (by omega)
      · rename_i hz
        rw [hl] at hz
        refine B4.st_ ?_ (by omega) (by omega)
        rw [hl, Int.add_zero]
        exact (al_n (R.nodeL hh hz)).1
    · have := (R.rev.push (.inr ⟨rfl, rfl⟩) hh hn (fun h' hh2 hm => ownr_zero.1 hf h' hh2 (List.mem_reverse.1 hm))).rev
      refine this.congr (fun x => ?_)
      by_cases e : x = h
      · rw [updL_eq e, updL_eq e]; simp
      · rw [updL_ne e, updL_ne e]; simp
  · rw [if_pos rfl, if_pos rfl]
    have hg := A.2 h a1
    have hl := R.first hh
    refine ⟨pushG G h n 0 4, ?_, R.push (.inl ⟨rfl, rfl⟩) hh hn (ownr_zero.1 hf)⟩
    unfold pushL pushG
    rw [Int.add_zero, Int.add_zero, hg]
    have hv : 0 ≤ G h ∧ G h ≤ 4294967295 := by
      rw [hl]
      by_cases hz : (ls h).headD 0 = 0
      · omega
      · have := R.node0 hh hz; unfold isN at this; omega
    have B4 := (((A.st_ b1 hv.1 hv.2).st_ b2 (v := 0) (by omega) (by omega)).st_ b3 (v := h) (by omega) (by omega)).st_ a1 (v := n) (by omega) (by omega)
    split
    · exact B4.st_ a2 (by omega) (by omega)
    · rename_i hz
      rw [hl] at hz
      refine B4.st_ ?_ (by omega) (by omega)
      rw [hl]
      exact (al_n (R.node0 hh hz)).2.1

theorem remove_ag {bs : List Int} {G : Int → Int} {ls : Int → List Int} (A : Ag bs G) (R : Rep 0 4 G ls) {h n : Int} (hh : isH h) (hm : n ∈ ls h) :
    removeE bs h n = 0 ∧ ∃ G', Ag (removeB bs h n) G' ∧ Rep 0 4 G' (remLs ls h n) := by
  have hn := (R.own hh hm).1
  have ⟨a1, a2⟩ := al_h hh
  have ⟨b1, b2, b3, b4⟩ := al_n hn
  have hE : removeE bs h n = 0 := by unfold removeE; rw [if_pos (chk_ok A.1 hh hn), A.2 _ b3, (R.own hh hm).2, if_pos rfl]
  refine ⟨hE, removeG G h n, ?_, ?_⟩
  · obtain ⟨X, Y, hL⟩ := List.append_of_mem hm
    have hs := R.sg h hh
    rw [hL] at hs
    obtain ⟨sA, _, e1, e2, e3, sB⟩ := Seg.app.1 hs
    rw [Int.add_zero] at e1
    have hX : G (n + 4) ≠ 0 → isN (G (n + 4)) := fun hz => by
      rw [e2] at hz ⊢
      have : X ≠ [] := fun e => hz (by rw [e]; rfl)
      exact (sA.mem _ (lastD_mem this)).1
    have hY : G n ≠ 0 → isN (G n) := fun hz => by
      rw [e1] at hz ⊢
      have : Y ≠ [] := fun e => hz (by rw [e]; rfl)
      exact (sB.mem _ (headD_mem this)).1
    have rX : 0 ≤ G (n + 4) ∧ G (n + 4) ≤ 4294967295 := by
      by_cases hz : G (n + 4) = 0
      · omega
      · have := hX hz; unfold isN at this; omega
    have rY : 0 ≤ G n ∧ G n ≤ 4294967295 := by
      by_cases hz : G n = 0
      · omega
      · have := hY hz; unfold isN at this; omega
    unfold removeB removeG
    rw [if_pos hE]
    unfold removeL
    rw [A.2 n b1, A.2 (n + 4) b2]
    refine Ag.fill (Ag.st_ (Ag.st_ A ?_ rY.1 rY.2) ?_ rX.1 rX.2) b1 b4
    · split
      · exact a1
      · exact (al_n (hX ‹_›)).1
    · split
      · exact a2
      · exact (al_n (hY ‹_›)).2.1
  · obtain ⟨X, Y, hL⟩ := List.append_of_mem hm
    have hnd := R.nd h hh
    rw [hL] at hnd
    have hnX : n ∉ X := fun hx => (List.nodup_append.1 hnd).2.2 n hx n (List.mem_cons_self ..) rfl
    have := R.remove hh hL
    refine this.congr (fun x => ?_)
    unfold remLs
    rw [hL, List.erase_append_right _ hnX, List.erase_cons_head]
end Go.Proofs.Ytajbfjmbohkphaa
