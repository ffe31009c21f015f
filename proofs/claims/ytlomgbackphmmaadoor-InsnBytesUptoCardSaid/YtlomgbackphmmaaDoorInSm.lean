/- Two lists of instructions compared. -/
import Derived.Test.YtlomgbackphmmaaDoorInE
import Derived.Test.YtlomgbackphmmaaDoorInB0
import Derived.Deep.QuietTactic
import Derived.BigQuiet
set_option linter.unusedVariables false
set_option linter.unusedSimpArgs false
namespace Go.Proofs.YtlomgbackphmmaaDoor
open Go.RowKit Go.Lib

theorem below_drewN {B : Nat} {a w : World} (h : Below B a w) (q : Nat) : Below B a (w.drewN q) := ⟨h.os, h.tape, h.output, h.size, h.block⟩
theorem list_eq {L M : List Ins} (hl : L.length = M.length) (h : ∀ j, j < L.length → L.getD j z0 = M.getD j z0) : L = M := by
  apply List.ext_getElem hl
  intro j h1 h2
  have := h j h1
  rw [List.getD_eq_getElem?_getD, List.getD_eq_getElem?_getD, List.getElem?_eq_getElem h1, List.getElem?_eq_getElem h2] at this
  exact this

set_option maxRecDepth 100000 in
set_option maxHeartbeats 4000000 in
theorem same_any (A B : Option Addr) (c1 c2 : Nat) (L M : List Ins) (w : World) (hP : Pr w A L) (hQ : Pr w B M) (hmx : L.length ≤ 140737488355000) :
    Calls Tryd.prog 19 #[.slice A L.length c1, .slice B M.length c2] w fun e w' => e = .returned (.bool (decide (L = M))) ∧ Below w.heap.size w w' := by
  have HP := Lib.hid hP
  have HQ := Lib.hid hQ
  have HEQ : Hid (∀ (hl : L.length = M.length) (h : ∀ j, j < L.length → L.getD j z0 = M.getD j z0), L = M) := Lib.hid (fun hl h => list_eq hl h)
  have HNE : Hid (L.length ≠ M.length → decide (L = M) = false) := Lib.hid (fun h => decide_eq_false (fun e => h (by rw [e])))
  have HNJ : Hid (∀ j, L.getD j z0 ≠ M.getD j z0 → decide (L = M) = false) := Lib.hid (fun j h => decide_eq_false (fun e => h (by rw [e])))
  have HYE : Hid (L = M → decide (L = M) = true) := Lib.hid (fun h => decide_eq_true h)
  clear hP hQ
  obtain ⟨R, hR⟩ : ∃ R, R = decide (L = M) := ⟨_, rfl⟩
  rw [← hR] at HNE HNJ HYE
  rw [← hR]
  clear hR
  generalize hn : L.length = n at *
  generalize hm : M.length = m at *
  have HN := Lib.hid hn
  have HM := Lib.hid hm
  clear hn hm
  by_cases hnm : n = m
  · subst hnm
    go_enter Tryd.func19, Tryd.ntmps19
    go_wp2_with fail
    go_loopw [5] (fun iv wr => ∃ i : Nat, i ≤ n ∧ iv = .int .i64 (i : Int) ∧ (∀ j, j < i → L.getD j z0 = M.getD j z0) ∧ Below w.heap.size w wr) (fun iv _ => n - (RowKit.intOf iv).toNat)
    case atStart => exact ⟨0, by omega, rfl, fun j hj => absurd hj (by omega), Below.refl _ _⟩
    case round =>
      obtain ⟨i, hin, rfl, hall, hB⟩ := hrel
      by_cases hgo : i < n
      · obtain ⟨a1, rfl, hl1, d0, d1, d2, d3, d4⟩ := (HP.out.below hB).at_ i (by rw [HN.out]; exact hgo)
        obtain ⟨a2, rfl, hl2, e0, e1, e2, e3, e4⟩ := (HQ.out.below hB).at_ i (by rw [HM.out]; exact hgo)
        obtain ⟨x, hx⟩ : ∃ x, x = L.getD i z0 := ⟨_, rfl⟩
        obtain ⟨y, hy⟩ : ∃ y, y = M.getD i z0 := ⟨_, rfl⟩
        rw [← hx] at d0 d1 d2 d3 d4
        rw [← hy] at e0 e1 e2 e3 e4
        have hxy : Hid ((x ≠ y → R = false) ∧ (x = y → ∀ j, j < i + 1 → L.getD j z0 = M.getD j z0)) := Lib.hid ⟨fun h => HNJ.out i (by rw [← hx, ← hy]; exact h), fun h j hj => by
          by_cases hji : j < i
          · exact hall j hji
          · obtain rfl : j = i := by omega
            rw [← hx, ← hy]; exact h⟩
        have HB := Lib.hid hB
        clear hx hy hall hB
        obtain ⟨xo, xa, xb, xc, xi⟩ := x
        obtain ⟨yo, ya, yb, yc, yi⟩ := y
        dsimp only at d0 d1 d2 d3 d4 e0 e1 e2 e3 e4
        have heq := fun w => neq_insn xo xa xb xc xi yo ya yb yc yi w
        obtain ⟨q, hq⟩ : ∃ q, q = (!decide ((⟨xo, xa, xb, xc, xi⟩ : Ins) = ⟨yo, ya, yb, yc, yi⟩)) := ⟨_, rfl⟩
        rw [← hq] at heq
        have h1 : Hid (q = true → R = false) := Lib.hid (fun h => hxy.out.1 (fun e => by rw [decide_eq_true e, h] at hq; cases hq))
        have h2 : Hid (q = false → ∀ j, j < i + 1 → L.getD j z0 = M.getD j z0) := Lib.hid (fun h => hxy.out.2 (by
          by_cases e : (⟨xo, xa, xb, xc, xi⟩ : Ins) = ⟨yo, ya, yb, yc, yi⟩
          · exact e
          · rw [decide_eq_false e, h] at hq; cases hq))
        clear hq hxy
        go_wp2_with fail
        go_quiet (fail)
        cases q
        · have hnext := Lib.hid (h2.out rfl)
          clear h1 h2
          go_wp2
          go_roundw
          case rel => exact ⟨i + 1, by omega, by go_num, hnext.out, below_drewN HB.out _⟩
          case measure => simp [RowKit.intOf]; omega
        · obtain rfl := h1.out rfl
          clear h1 h2
          go_wp2
          go_ret
          exact ⟨rfl, below_drewN HB.out _⟩
      · obtain rfl : i = n := by omega
        obtain rfl := HYE.out (HEQ.out (by first | trivial | rfl) (fun j hj => hall j hj))
        have HB := Lib.hid hB
        clear hall hB
        go_wp2
        go_ret
        exact ⟨rfl, HB.out⟩
  · obtain rfl := HNE.out hnm
    have q : ((n : Int) != (m : Int)) = true := by rw [bne_iff_ne]; omega
    have q2 : ((n : Int) == (m : Int)) = false := beq_eq_false_iff_ne.2 (by omega)
    go_enter Tryd.func19, Tryd.ntmps19
    go_wp2
    go_ret
    exact ⟨rfl, Below.refl _ _⟩
end Go.Proofs.YtlomgbackphmmaaDoor
