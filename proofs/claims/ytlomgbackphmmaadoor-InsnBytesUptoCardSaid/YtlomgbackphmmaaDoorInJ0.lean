/- The plain law of InsnJoins. -/
import Derived.Test.YtlomgbackphmmaaDoorInPb
set_option linter.unusedVariables false
set_option linter.unusedSimpArgs false
namespace Go.Proofs.YtlomgbackphmmaaDoor
open Go.RowKit Go.Lib

theorem prsE_cut (l : List Int) (h : l.length % 8 ≠ 0) : prsE l = 3 := if_pos h
/-- Two that are read, one behind the other, if there is room. -/
theorem prs_join (L M : List Ins) (hL : ∀ x ∈ L, x.Ok) (hM : ∀ x ∈ M, x.Ok) (h1 : prsE (encs L) = 0) (h2 : prsE (encs M) = 0) (h : L.length + M.length ≤ 128) :
    prsE (encs (L ++ M)) = 0 ∧ prsL (encs (L ++ M)) = L ++ M := by
  have hok : ∀ x ∈ L ++ M, x.Ok := fun x hx => (List.mem_append.1 hx).elim (hL x) (hM x)
  have e : prsE (encs (L ++ M)) = 0 := by
    rw [prsE_encs_zero _ hok]
    refine ⟨by rw [List.length_append]; exact h, fun x hx => ?_⟩
    rcases List.mem_append.1 hx with hx | hx
    · exact ((prsE_encs_zero L hL).1 h1).2 x hx
    · exact ((prsE_encs_zero M hM).1 h2).2 x hx
  exact ⟨e, prsL_encs _ hok e⟩
end Go.Proofs.YtlomgbackphmmaaDoor
