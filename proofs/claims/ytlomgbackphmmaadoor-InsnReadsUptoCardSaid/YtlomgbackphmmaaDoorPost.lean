/- An integer's bounds, out of its kind. -/
import Derived.WalkKit
set_option linter.unusedVariables false
namespace Go.Proofs.YtlomgbackphmmaaDoor
open Go.RowKit
theorem wf_bd {k : IntKind} {x : Int} (h : (Lit.int k x).wf = true) : k.min ≤ x ∧ x ≤ k.max := by
  simp only [Lit.wf, Bool.and_eq_true, decide_eq_true_eq] at h
  exact h
theorem bd_u8 {x : Int} (h : (Lit.int .u8 x).wf = true) : 0 ≤ x ∧ x ≤ 255 := by have := wf_bd h; simpa [IntKind.min, IntKind.max, IntKind.signed, IntKind.bits] using this
theorem bd_u16 {x : Int} (h : (Lit.int .u16 x).wf = true) : 0 ≤ x ∧ x ≤ 65535 := by have := wf_bd h; simpa [IntKind.min, IntKind.max, IntKind.signed, IntKind.bits] using this
theorem bd_u32 {x : Int} (h : (Lit.int .u32 x).wf = true) : 0 ≤ x ∧ x ≤ 4294967295 := by have := wf_bd h; simpa [IntKind.min, IntKind.max, IntKind.signed, IntKind.bits] using this
theorem bd_u64 {x : Int} (h : (Lit.int .u64 x).wf = true) : 0 ≤ x ∧ x ≤ 18446744073709551615 := by have := wf_bd h; simpa [IntKind.min, IntKind.max, IntKind.signed, IntKind.bits] using this
theorem bd_i64 {x : Int} (h : (Lit.int .i64 x).wf = true) : -9223372036854775808 ≤ x ∧ x ≤ 9223372036854775807 := by have := wf_bd h; simpa [IntKind.min, IntKind.max, IntKind.signed, IntKind.bits] using this
end Go.Proofs.YtlomgbackphmmaaDoor
