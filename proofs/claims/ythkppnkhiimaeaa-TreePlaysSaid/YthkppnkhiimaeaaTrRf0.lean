/- Lemmas of the claim TreePlays. -/
import Derived.Test.YthkppnkhiimaeaaPTreePlaysx0
/- The reference of layer 11: what a field of a leaf is. -/
namespace Go.Proofs.Ythkppnkhiimaeaa.PTreePlays
open Go.RowKit
set_option linter.unusedVariables false
theorem fld80_0 (a b c d : Int) (e f : Bool) (w : World) : (Instr.field 80 (.agg #[.int .u64 a, .int .i64 b, .int .i64 c, .int .i64 d, .bool e, .bool f]) 0).run Try.prog w = .ok (.int .u64 a) w := by kernel_rfl
theorem fld80_1 (a b c d : Int) (e f : Bool) (w : World) : (Instr.field 80 (.agg #[.int .u64 a, .int .i64 b, .int .i64 c, .int .i64 d, .bool e, .bool f]) 1).run Try.prog w = .ok (.int .i64 b) w := by kernel_rfl
theorem fld80_2 (a b c d : Int) (e f : Bool) (w : World) : (Instr.field 80 (.agg #[.int .u64 a, .int .i64 b, .int .i64 c, .int .i64 d, .bool e, .bool f]) 2).run Try.prog w = .ok (.int .i64 c) w := by kernel_rfl
theorem fld80_3 (a b c d : Int) (e f : Bool) (w : World) : (Instr.field 80 (.agg #[.int .u64 a, .int .i64 b, .int .i64 c, .int .i64 d, .bool e, .bool f]) 3).run Try.prog w = .ok (.int .i64 d) w := by kernel_rfl
theorem fld80_4 (a b c d : Int) (e f : Bool) (w : World) : (Instr.field 80 (.agg #[.int .u64 a, .int .i64 b, .int .i64 c, .int .i64 d, .bool e, .bool f]) 4).run Try.prog w = .ok (.bool e) w := by kernel_rfl
theorem fld80_5 (a b c d : Int) (e f : Bool) (w : World) : (Instr.field 80 (.agg #[.int .u64 a, .int .i64 b, .int .i64 c, .int .i64 d, .bool e, .bool f]) 5).run Try.prog w = .ok (.bool f) w := by kernel_rfl
end Go.Proofs.Ythkppnkhiimaeaa.PTreePlays
