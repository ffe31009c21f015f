/- Lemmas of the claim TreePlays. -/
import Derived.WalkKit
/- An integer's bounds, out of its kind. -/
set_option linter.unusedVariables false
namespace Go.Proofs.Ythkppnkhiimaeaa
open Go.RowKit
theorem wf_bd {k : IntKind} {x : Int} (h : (Lit.int k x).wf = true) : k.min ≤ x ∧ x ≤ k.max := by
  simp only [Lit.wf, Bool.and_eq_true, decide_eq_true_eq] at h
  exact h
theorem bd_u8 {x : Int} (h : (Lit.int .u8 x).wf = true) : 0 ≤ x ∧ x ≤ 255 := by have := wf_bd h; simpa [IntKind.min, IntKind.max, IntKind.signed, IntKind.bits] using this
theorem bd_u64 {x : Int} (h : (Lit.int .u64 x).wf = true) : 0 ≤ x ∧ x ≤ 18446744073709551615 := by have := wf_bd h; simpa [IntKind.min, IntKind.max, IntKind.signed, IntKind.bits] using this
end Go.Proofs.Ythkppnkhiimaeaa
