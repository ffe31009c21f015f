/- Lemmas of the claim TreePlays. -/
import Derived.Test.YthkppnkhiimaeaaMgTp1
import Derived.Test.YthkppnkhiimaeaaTrRf2
/- TreePlays, plain: the reference's leaves; what each small function answers; beside the links. -/
set_option linter.unusedVariables false
set_option linter.unusedSimpArgs false
namespace Go.Proofs.Ythkppnkhiimaeaa.PTreePlays
open Go.RowKit Go.Proofs.Ythkppnkhiimaeaa
/-! ### Leaves by number -/
def G (l : List S80) (n : Int) : S80 := if 1 ≤ n ∧ n ≤ (l.length : Int) then rd_T80 l (n - 1) else z80
def Wr (l : List S80) (n : Int) (x : S80) : List S80 := if 1 ≤ n ∧ n ≤ (l.length : Int) then l.set (n - 1).toNat x else l
theorem Wr_len (l : List S80) (n : Int) (x : S80) : (Wr l n x).length = l.length := by unfold Wr; split <;> simp
theorem G_Wr {l : List S80} {n : Int} {x : S80} (h1 : 1 ≤ n) (h2 : n ≤ (l.length : Int)) (m : Int) : G (Wr l n x) m = if m = n then x else G l m := by
  have e : Wr l n x = l.set (n - 1).toNat x := if_pos ⟨h1, h2⟩
  unfold G
  rw [Wr_len, e]
  by_cases hm : m = n
  · subst hm
    rw [if_pos rfl, if_pos ⟨h1, h2⟩]
    unfold rd_T80
    rw [List.getD_eq_getElem?_getD, List.getElem?_set_self (by omega)]
    rfl
  · rw [if_neg hm]
    by_cases hr : 1 ≤ m ∧ m ≤ (l.length : Int)
    · rw [if_pos hr, if_pos hr]
      unfold rd_T80
      rw [List.getD_eq_getElem?_getD, List.getD_eq_getElem?_getD, List.getElem?_set_ne (by omega)]
    · rw [if_neg hr, if_neg hr]
theorem Wr_out {l : List S80} {n : Int} {x : S80} (h : ¬ (1 ≤ n ∧ n ≤ (l.length : Int))) : Wr l n x = l := if_neg h
theorem G_out {l : List S80} {n : Int} (h : ¬ (1 ≤ n ∧ n ≤ (l.length : Int))) : G l n = z80 := if_neg h
theorem w64_pred {n : Int} (h1 : 1 ≤ n) (h2 : n ≤ 40) : wrap64 (n - 1) = n - 1 := by unfold wrap64; omega
theorem Of_eq {l : List S80} (hl : l.length ≤ 40) (top n : Int) : turnbuckleref11_Of.f l top n = some ((G l n).f0, (G l n).f1, (G l n).f2, (G l n).f3, (G l n).f4, (G l n).f5) := by
  unfold turnbuckleref11_Of.f
  by_cases h1 : n < 1
  · rw [if_pos h1, G_out (by omega)]; rfl
  · rw [if_neg h1]
    by_cases h2 : n > (l.length : Int)
    · rw [if_pos h2, G_out (by omega)]; rfl
    · rw [if_neg h2, w64_pred (by omega) (by omega), if_pos (by omega), if_pos (by omega)]
      unfold G
      rw [if_pos ⟨by omega, by omega⟩]
theorem With_eq {l : List S80} (hl : l.length ≤ 40) (top n : Int) (a b c d : Int) (e f : Bool) : turnbuckleref11_With.f l top n a b c d e f = some (Wr l n ⟨a, b, c, d, e, f⟩, top) := by
  unfold turnbuckleref11_With.f
  by_cases h1 : n < 1
  · rw [if_pos h1, Wr_out (by omega)]
  · rw [if_neg h1]
    by_cases h2 : n > (l.length : Int)
    · rw [if_pos h2, Wr_out (by omega)]
    · rw [if_neg h2]
      simp only [Option.bind_some, List.nil_append, List.length_nil, Nat.zero_add]
      rw [if_pos (by omega), w64_pred (by omega) (by omega), if_pos (by omega), if_pos (by omega)]
      unfold Wr
      rw [if_pos ⟨by omega, by omega⟩]
/-! ### The small functions -/
def cdR (l : List S80) (n : Int) (s : Bool) : Int := if s then (G l n).f2 else (G l n).f1
def paintR (l : List S80) (n : Int) (c : Bool) : List S80 := Wr l n { G l n with f5 := c }
def joinL (l : List S80) (p : Int) (s : Bool) (n : Int) : List S80 := if p = 0 then l else Wr l p (if s then { G l p with f2 := n } else { G l p with f1 := n })
def joinR (l : List S80) (p : Int) (s : Bool) (n : Int) : List S80 := Wr (joinL l p s n) n { G (joinL l p s n) n with f3 := p }
def joinT (top p n : Int) : Int := if p = 0 then n else top
def placeR (l : List S80) (o n : Int) : List S80 := joinR l (G l o).f3 ((G l (G l o).f3).f1 != o) n
def placeT (l : List S80) (top o n : Int) : Int := joinT top (G l o).f3 n
def turnR (l : List S80) (x : Int) (s : Bool) : List S80 := joinR (joinR (placeR l x (cdR l x (!s))) x (!s) (cdR l (cdR l x (!s)) s)) (cdR l x (!s)) s x
def turnT (l : List S80) (top x : Int) (s : Bool) : Int := joinT (joinT (placeT l top x (cdR l x (!s))) x (cdR l (cdR l x (!s)) s)) (cdR l x (!s)) x
theorem paintR_len (l : List S80) (n : Int) (c : Bool) : (paintR l n c).length = l.length := Wr_len ..
theorem joinL_len (l : List S80) (p : Int) (s : Bool) (n : Int) : (joinL l p s n).length = l.length := by unfold joinL; split; rfl; exact Wr_len ..
theorem joinR_len (l : List S80) (p : Int) (s : Bool) (n : Int) : (joinR l p s n).length = l.length := (Wr_len ..).trans (joinL_len ..)
theorem placeR_len (l : List S80) (o n : Int) : (placeR l o n).length = l.length := joinR_len ..
theorem turnR_len (l : List S80) (x : Int) (s : Bool) : (turnR l x s).length = l.length := (joinR_len ..).trans ((joinR_len ..).trans (placeR_len ..))
theorem Child_eq {l : List S80} (hl : l.length ≤ 40) (top n : Int) (s : Bool) : turnbuckleref11_Child.f l top n s = some (cdR l n s) := by
  unfold turnbuckleref11_Child.f cdR
  cases s <;> simp [Of_eq hl]
theorem onRight_eq {l : List S80} (hl : l.length ≤ 40) (top p n : Int) : turnbuckleref11_onRight.f l top p n = some ((G l p).f1 != n) := by
  unfold turnbuckleref11_onRight.f
  simp [Of_eq hl]
theorem paint_eq {l : List S80} (hl : l.length ≤ 40) (top n : Int) (c : Bool) : turnbuckleref11_paint.f l top n c = some (paintR l n c, top) := by
  unfold turnbuckleref11_paint.f paintR
  simp [Of_eq hl, With_eq hl]
theorem join_eq {l : List S80} (hl : l.length ≤ 40) (top p : Int) (s : Bool) (n : Int) : turnbuckleref11_join.f l top p s n = some (joinR l p s n, joinT top p n) := by
  unfold turnbuckleref11_join.f joinR joinT
  by_cases h0 : p = 0
  · subst h0
    have e : ∀ x, Wr l 0 x = l := fun x => Wr_out (by omega)
    have e2 : joinL l 0 s n = l := if_pos rfl
    simp [Of_eq hl, With_eq hl, e, e2]
  · have hj : (joinL l p s n).length ≤ 40 := by rw [joinL_len]; exact hl
    cases s
    · have e2 : joinL l p false n = Wr l p ⟨(G l p).f0, n, (G l p).f2, (G l p).f3, (G l p).f4, (G l p).f5⟩ := if_neg h0
      rw [← e2.symm] at *
      have hj' : (Wr l p ⟨(G l p).f0, n, (G l p).f2, (G l p).f3, (G l p).f4, (G l p).f5⟩).length ≤ 40 := by rw [Wr_len]; exact hl
      simp [Of_eq hl, With_eq hl, h0, e2, Of_eq hj', With_eq hj']
    · have e2 : joinL l p true n = Wr l p ⟨(G l p).f0, (G l p).f1, n, (G l p).f3, (G l p).f4, (G l p).f5⟩ := if_neg h0
      have hj' : (Wr l p ⟨(G l p).f0, (G l p).f1, n, (G l p).f3, (G l p).f4, (G l p).f5⟩).length ≤ 40 := by rw [Wr_len]; exact hl
      simp [Of_eq hl, With_eq hl, h0, e2, Of_eq hj', With_eq hj']
theorem place_eq {l : List S80} (hl : l.length ≤ 40) (top o n : Int) : turnbuckleref11_place.f l top o n = some (placeR l o n, placeT l top o n) := by
  unfold turnbuckleref11_place.f placeR placeT
  simp [Of_eq hl, onRight_eq hl, join_eq hl]
theorem turn_eq {l : List S80} (hl : l.length ≤ 40) (top x : Int) (s : Bool) : turnbuckleref11_turn.f l top x s = some (turnR l x s, turnT l top x s) := by
  unfold turnbuckleref11_turn.f turnR turnT
  have h1 : ∀ o n, (placeR l o n).length ≤ 40 := fun o n => by rw [placeR_len]; exact hl
  have h2 : ∀ o n p s m, (joinR (placeR l o n) p s m).length ≤ 40 := fun o n p s m => by rw [joinR_len]; exact h1 o n
  simp [Child_eq hl, place_eq hl, join_eq (h1 _ _), join_eq (h2 _ _ _ _ _)]
end Go.Proofs.Ythkppnkhiimaeaa.PTreePlays
