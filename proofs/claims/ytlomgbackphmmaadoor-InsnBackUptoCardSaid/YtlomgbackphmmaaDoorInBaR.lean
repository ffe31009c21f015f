/- The law InsnBack, over what a row hands in. -/
import Derived.Test.YtlomgbackphmmaaDoorInBa
set_option linter.unusedVariables false
namespace Go.Proofs.YtlomgbackphmmaaDoor
open Go.RowKit Go.Lib
theorem InsnBack_row (A B : Option Addr) (len1 len2 ca cb : Nat) {f0 f1 f2 f3 f4 g : Nat → Int} (w : World) (h0 : ColI w A len1 5 0 .u8 f0) (h1 : ColI w A len1 5 1 .u8 f1) (h2 : ColI w A len1 5 2 .u8 f2) (h3 : ColI w A len1 5 3 .u8 f3) (h4 : ColI w A len1 5 4 .u32 f4)
    (k : ColI w B len2 1 0 .u8 g) (hc : len2 ≤ cb) (hl : len1 ≤ 1048576) (hm : len2 ≤ 1048576) (h : Ev w) :
    Calls Tryd.prog 7 #[.slice A len1 ca, .slice B len2 cb] w fun e w' => e = .returned (.bool true) ∧ Below w.heap.size w w' := by
  obtain ⟨L, rfl, hP⟩ := Pr.of_cols h0 h1 h2 h3 h4
  obtain ⟨l, rfl, hQ⟩ := By.of_col k
  exact InsnBack_calls A B ca cb L l hc hl hm w hP hQ h
end Go.Proofs.YtlomgbackphmmaaDoor
