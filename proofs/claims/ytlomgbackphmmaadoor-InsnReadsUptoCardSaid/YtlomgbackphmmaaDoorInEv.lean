/- From the row's condition on the library's variables to the walk's facts. -/
import Derived.Test.YtlomgbackphmmaaDoorRows
import Derived.Test.YtlomgbackphmmaaDoorInS
import Derived.LaidMore
import Derived.Lib.LaidTab
import Derived.Lib.LaidU8
import Derived.Stop.Joined
import Derived.HandedShaped
set_option linter.unusedVariables false
namespace Go.Proofs.YtlomgbackphmmaaDoor
open Go.RowKit Go.Lib

theorem pow_data : (Rows.laid_internal_strconv_uint64pow10 : DataW Unit) = tabData .u64 pow10Tab := by kernel_rfl
theorem pow_cells : Tryd.prog.cellsOf 72 = 1 := by kernel_rfl
theorem pow_global : Tryd.prog.globalNamed "internal/strconv.uint64pow10" = some 0 := by kernel_rfl
theorem pow_type : (Tryd.prog.globals[0]?).map (·.type) = some 114 := by kernel_rfl
theorem pow_cellsT : Tryd.prog.cellsOf 114 = 20 := by kernel_rfl
abbrev LL : List (String × DataW Unit) := [("math/bits.deBruijn32tab", Rows.laid_math_bits_deBruijn32tab), ("math/bits.deBruijn64tab", Rows.laid_math_bits_deBruijn64tab), ("internal/strconv.uint64pow10", Rows.laid_internal_strconv_uint64pow10), ("unicode/utf8.acceptRanges", Rows.laid_unicode_utf8_acceptRanges), ("unicode/utf8.first", Rows.laid_unicode_utf8_first)]
theorem pw_of_laid {W : World} (h : laidMetH Tryd.prog LL W) : Pw W := by
  rw [MakeChecks.laidMetH_plain _ _ _ (by kernel_rfl)] at h
  have hr := laidMet.reads h (n := "internal/strconv.uint64pow10") (d := Rows.laid_internal_strconv_uint64pow10) (by simp [LL])
  rw [pow_data] at hr
  obtain ⟨g', t', cs, fuel, p, hg', ht', hvar, hd⟩ := hr
  obtain rfl := Option.some.inj (pow_global.symm.trans hg')
  obtain rfl := Option.some.inj (pow_type.symm.trans ht')
  unfold Pw TabIs
  rw [hvar, ← cells_of_tab Tryd.underlying114 Tryd.underlying72 pow_cells pow_cellsT hd]
theorem ev_of_laid {W : World} (h : laidMetH Tryd.prog LL W) (hs : W.ShapedOpen Tryd.prog) : Ev W := ⟨pw_of_laid h, Tryd.laysM146.s1_3 W hs⟩
end Go.Proofs.YtlomgbackphmmaaDoor
