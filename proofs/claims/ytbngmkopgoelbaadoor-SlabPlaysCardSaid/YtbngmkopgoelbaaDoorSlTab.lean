import Derived.Test.YtbngmkopgoelbaaDoorRows
import Derived.Test.YtbngmkopgoelbaaDoorSlMgB
import Derived.LaidMore
import Derived.Lib.LaidTab
import Derived.Stop.Joined
/- From the row's condition on the library's table to the walk's fact. -/
set_option linter.unusedVariables false
namespace Go.Proofs.YtbngmkopgoelbaaDoor
open Go.RowKit

theorem tab_data : (Rows.laid_math_bits_deBruijn64tab : DataW Unit) = Lib.tabData .u8 (Lib.deBruijn64tab.map fun n : Nat => (n : Int)) := by kernel_rfl
theorem tab_cells : Tryd.prog.cellsOf 5 = 1 := by kernel_rfl
theorem tab_cells64 : Tryd.prog.cellsOf 92 = 64 := by kernel_rfl
theorem tab_global : Tryd.prog.globalNamed "math/bits.deBruijn64tab" = some 0 := by kernel_rfl
theorem tab_type : (Tryd.prog.globals[0]?).map (·.type) = some 92 := by kernel_rfl

theorem tb_of_laid {W : World} (h : laidMetH Tryd.prog [("math/bits.deBruijn64tab", Rows.laid_math_bits_deBruijn64tab)] W) : Tb W := by
  rw [MakeChecks.laidMetH_plain _ _ _ (by kernel_rfl), tab_data] at h
  have ht := Lib.tabIs_of_head tab_global tab_type Tryd.underlying92 Tryd.underlying5 tab_cells tab_cells64 h
  refine ⟨fun j hj => ?_⟩
  have hl : Lib.deBruijn64tab.length = 64 := by decide
  rw [ht.cell tab_global j (by rw [List.length_map, hl]; exact hj)]
  rw [List.getD_eq_getElem?_getD, List.getD_eq_getElem?_getD, List.getElem?_map, List.getElem?_eq_getElem (by omega)]
  rfl
end Go.Proofs.YtbngmkopgoelbaaDoor
