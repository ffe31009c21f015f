/-
  No cell of these rows narrows 'for every input' (looked for: loops, veiled, ifaces, maps, wideKeys, modest, calm, conditions, laid).
  DERIVED. THE GIVEN ROWS OF THIS SEAT. 6 by the template 'for every input the law returns true; each argument reads behind the call as it read before'; 0 by the template 'total and deterministic' (their statements: YtajbfjmbohkphaaTotals.lean).
  GIVEN WITH THE SEED: the statements are not yours to turn. If you find one false, say at which input.
  Laid BY PROGRAM, IN A SANDBOX (cutbox-rows.mjs): the forced cells as the released guide's own fill.sh prints them over the translation bccfef21bb981754… (all of the seat's roots in one cut). By AI agents, Wed Nov 11 2026. No macro, syntax, notation, axiom, sorry.
-/
import Derived.Test.YtajbfjmbohkphaaChecked
import GoSem.Claim
import GoSem.ClaimJoined
import GoSem.ClaimMapViews
import Derived.JoinedTies
import Derived.KernelRfl
namespace Go.Proofs.Ytajbfjmbohkphaa
/- THE CELL 'sum', in the pinned program and in every row, IS THE sha256 OF THE DUMP (.gsa) THAT YtajbfjmbohkphaaProg.lean LOADS. Nothing in Lean hashes anything: it is a label: what it is worth is what the hold of that sum in a sandbox is worth. -/
noncomputable def Try.pinned : Pinned := { name := "ytajbfjmbohkphaa", sum := "bccfef21bb98175497ce7cd33ebee3085c8af0bc3455866626dd821847fdb4d0", checked := Try.checked }
namespace Rows
def none {H : Type} : Left H := { results := [], args := [] }

/-- 'turnbucklelaw10.ChainMoves': WHATEVER THE INPUT: true; the input reads as it did. -/
def chainMovesSpec : ChangeSpec := { name := "chainMoves", fn := fun _ => fun
  | [d1, d2, d3] => { results := [.lit (.bool true)], args := [d1, d2, d3] }
  | _ => none }
def chainMovesRow : OpenClaim := { program := "ytajbfjmbohkphaa", sum := "bccfef21bb98175497ce7cd33ebee3085c8af0bc3455866626dd821847fdb4d0", func := "turnbuckle/turnbucklelaw10.ChainMoves", spec := "chainMoves", apart := false }
def ChainMovesSaid : Prop := chainMovesRow.holds Try.pinned (OpenSpec.ofChange chainMovesSpec)

/-- ITS FALSE NEIGHBOUR: 'it returns false'. Refute it at one input. -/
def chainMovesWrong : ChangeSpec := { name := "chainMoves", fn := fun _ => fun
  | [d1, d2, d3] => { results := [.lit (.bool false)], args := [d1, d2, d3] }
  | _ => none }
def ChainMovesWrongFalsely : Prop := chainMovesRow.holds Try.pinned (OpenSpec.ofChange chainMovesWrong)

/-- 'turnbucklelaw10.ChainEnds': WHATEVER THE INPUT: true; the input reads as it did. -/
def chainEndsSpec : ChangeSpec := { name := "chainEnds", fn := fun _ => fun
  | [d1, d2, d3] => { results := [.lit (.bool true)], args := [d1, d2, d3] }
  | _ => none }
def chainEndsRow : OpenClaim := { program := "ytajbfjmbohkphaa", sum := "bccfef21bb98175497ce7cd33ebee3085c8af0bc3455866626dd821847fdb4d0", func := "turnbuckle/turnbucklelaw10.ChainEnds", spec := "chainEnds", apart := false }
def ChainEndsSaid : Prop := chainEndsRow.holds Try.pinned (OpenSpec.ofChange chainEndsSpec)

/-- ITS FALSE NEIGHBOUR: 'it returns false'. Refute it at one input. -/
def chainEndsWrong : ChangeSpec := { name := "chainEnds", fn := fun _ => fun
  | [d1, d2, d3] => { results := [.lit (.bool false)], args := [d1, d2, d3] }
  | _ => none }
def ChainEndsWrongFalsely : Prop := chainEndsRow.holds Try.pinned (OpenSpec.ofChange chainEndsWrong)

/-- 'turnbucklelaw10.ChainPlays': WHATEVER THE INPUT: true; the input reads as it did. -/
def chainPlaysSpec : ChangeSpec := { name := "chainPlays", fn := fun _ => fun
  | [d] => { results := [.lit (.bool true)], args := [d] }
  | _ => none }
def chainPlaysRow : OpenClaim := { program := "ytajbfjmbohkphaa", sum := "bccfef21bb98175497ce7cd33ebee3085c8af0bc3455866626dd821847fdb4d0", func := "turnbuckle/turnbucklelaw10.ChainPlays", spec := "chainPlays", apart := false }
def ChainPlaysSaid : Prop := chainPlaysRow.holds Try.pinned (OpenSpec.ofChange chainPlaysSpec)

/-- ITS FALSE NEIGHBOUR: 'it returns false'. Refute it at one input. -/
def chainPlaysWrong : ChangeSpec := { name := "chainPlays", fn := fun _ => fun
  | [d] => { results := [.lit (.bool false)], args := [d] }
  | _ => none }
def ChainPlaysWrongFalsely : Prop := chainPlaysRow.holds Try.pinned (OpenSpec.ofChange chainPlaysWrong)

/-- 'turnbucklelaw10.ChainBothWays': WHATEVER THE INPUT: true; the input reads as it did. -/
def chainBothWaysSpec : ChangeSpec := { name := "chainBothWays", fn := fun _ => fun
  | [d] => { results := [.lit (.bool true)], args := [d] }
  | _ => none }
def chainBothWaysRow : OpenClaim := { program := "ytajbfjmbohkphaa", sum := "bccfef21bb98175497ce7cd33ebee3085c8af0bc3455866626dd821847fdb4d0", func := "turnbuckle/turnbucklelaw10.ChainBothWays", spec := "chainBothWays", apart := false }
def ChainBothWaysSaid : Prop := chainBothWaysRow.holds Try.pinned (OpenSpec.ofChange chainBothWaysSpec)

/-- ITS FALSE NEIGHBOUR: 'it returns false'. Refute it at one input. -/
def chainBothWaysWrong : ChangeSpec := { name := "chainBothWays", fn := fun _ => fun
  | [d] => { results := [.lit (.bool false)], args := [d] }
  | _ => none }
def ChainBothWaysWrongFalsely : Prop := chainBothWaysRow.holds Try.pinned (OpenSpec.ofChange chainBothWaysWrong)

/-- 'turnbucklelaw10.ChainOthers': WHATEVER THE INPUT: true; the input reads as it did. -/
def chainOthersSpec : ChangeSpec := { name := "chainOthers", fn := fun _ => fun
  | [d1, d2] => { results := [.lit (.bool true)], args := [d1, d2] }
  | _ => none }
def chainOthersRow : OpenClaim := { program := "ytajbfjmbohkphaa", sum := "bccfef21bb98175497ce7cd33ebee3085c8af0bc3455866626dd821847fdb4d0", func := "turnbuckle/turnbucklelaw10.ChainOthers", spec := "chainOthers", apart := false }
def ChainOthersSaid : Prop := chainOthersRow.holds Try.pinned (OpenSpec.ofChange chainOthersSpec)

/-- ITS FALSE NEIGHBOUR: 'it returns false'. Refute it at one input. -/
def chainOthersWrong : ChangeSpec := { name := "chainOthers", fn := fun _ => fun
  | [d1, d2] => { results := [.lit (.bool false)], args := [d1, d2] }
  | _ => none }
def ChainOthersWrongFalsely : Prop := chainOthersRow.holds Try.pinned (OpenSpec.ofChange chainOthersWrong)

/-- 'turnbucklelaw10.ChainRange': WHATEVER THE INPUT: true; the input reads as it did. -/
def chainRangeSpec : ChangeSpec := { name := "chainRange", fn := fun _ => fun
  | [d1, d2] => { results := [.lit (.bool true)], args := [d1, d2] }
  | _ => none }
def chainRangeRow : OpenClaim := { program := "ytajbfjmbohkphaa", sum := "bccfef21bb98175497ce7cd33ebee3085c8af0bc3455866626dd821847fdb4d0", func := "turnbuckle/turnbucklelaw10.ChainRange", spec := "chainRange", apart := false }
def ChainRangeSaid : Prop := chainRangeRow.holds Try.pinned (OpenSpec.ofChange chainRangeSpec)

/-- ITS FALSE NEIGHBOUR: 'it returns false'. Refute it at one input. -/
def chainRangeWrong : ChangeSpec := { name := "chainRange", fn := fun _ => fun
  | [d1, d2] => { results := [.lit (.bool false)], args := [d1, d2] }
  | _ => none }
def ChainRangeWrongFalsely : Prop := chainRangeRow.holds Try.pinned (OpenSpec.ofChange chainRangeWrong)

/- THE SECOND FORM. 'bulk': how many values and letters a reading holds, each counted each time it is reached (what is shared counts as often as it is met; a slice's spare places count too). A statement '..UptoSaid' is the law's where the arguments, and the package variables that the reading takes, are together of bulk at most 1048576: NARROWER than '..Said'. Prove '..Said' where nothing that the law and all that it calls make is longer than what came in: it says more and counts as full. Else prove '..UptoSaid'. A law counts once. -/
mutual
def uptoBulk {H : Type} : DataW H → Nat
  | .lit (.string bytes) => bytes.length + 1
  | .lit _ => 1
  | .nil => 1
  | .ptr d => uptoBulk d + 1
  | .slice elems spare => uptoBulkAll elems + uptoBulkAll spare + 1
  | .agg parts => uptoBulkAll parts + 1
  | .iface _ d => uptoBulk d + 1
  | .map entries => uptoBulkEntries entries + 1
  | .held _ => 1
def uptoBulkAll {H : Type} : List (DataW H) → Nat
  | [] => 0
  | d :: r => uptoBulk d + uptoBulkAll r
def uptoBulkEntries {H : Type} : List (Lit × DataW H) → Nat
  | [] => 0
  | x :: r => uptoBulkEntry x + uptoBulkEntries r
def uptoBulkEntry {H : Type} : Lit × DataW H → Nat
  | (.string bytes, d) => bytes.length + uptoBulk d + 1
  | (_, d) => uptoBulk d + 1
 end
def uptoSmall : (H : Type) → List (DataW H) → Bool := fun _ ds => decide (uptoBulkAll ds ≤ 1048576)
def OpenSpec.upto (s : _root_.Go.ChangeSpec) : _root_.Go.OpenSpec := { _root_.Go.OpenSpec.ofChange s with cond := some uptoSmall }

/-- 'turnbucklelaw10.ChainMoves', WHERE WHAT IT READS IS OF BULK AT MOST 1048576: true; the input reads as it did. -/
def chainMovesUptoRow : OpenClaim := { program := "ytajbfjmbohkphaa", sum := "bccfef21bb98175497ce7cd33ebee3085c8af0bc3455866626dd821847fdb4d0", func := "turnbuckle/turnbucklelaw10.ChainMoves", spec := "chainMoves", apart := false, narrowed := true }
def ChainMovesUptoSaid : Prop := chainMovesUptoRow.holds Try.pinned (OpenSpec.upto chainMovesSpec)

/-- 'turnbucklelaw10.ChainEnds', WHERE WHAT IT READS IS OF BULK AT MOST 1048576: true; the input reads as it did. -/
def chainEndsUptoRow : OpenClaim := { program := "ytajbfjmbohkphaa", sum := "bccfef21bb98175497ce7cd33ebee3085c8af0bc3455866626dd821847fdb4d0", func := "turnbuckle/turnbucklelaw10.ChainEnds", spec := "chainEnds", apart := false, narrowed := true }
def ChainEndsUptoSaid : Prop := chainEndsUptoRow.holds Try.pinned (OpenSpec.upto chainEndsSpec)

/-- 'turnbucklelaw10.ChainPlays', WHERE WHAT IT READS IS OF BULK AT MOST 1048576: true; the input reads as it did. -/
def chainPlaysUptoRow : OpenClaim := { program := "ytajbfjmbohkphaa", sum := "bccfef21bb98175497ce7cd33ebee3085c8af0bc3455866626dd821847fdb4d0", func := "turnbuckle/turnbucklelaw10.ChainPlays", spec := "chainPlays", apart := false, narrowed := true }
def ChainPlaysUptoSaid : Prop := chainPlaysUptoRow.holds Try.pinned (OpenSpec.upto chainPlaysSpec)

/-- 'turnbucklelaw10.ChainBothWays', WHERE WHAT IT READS IS OF BULK AT MOST 1048576: true; the input reads as it did. -/
def chainBothWaysUptoRow : OpenClaim := { program := "ytajbfjmbohkphaa", sum := "bccfef21bb98175497ce7cd33ebee3085c8af0bc3455866626dd821847fdb4d0", func := "turnbuckle/turnbucklelaw10.ChainBothWays", spec := "chainBothWays", apart := false, narrowed := true }
def ChainBothWaysUptoSaid : Prop := chainBothWaysUptoRow.holds Try.pinned (OpenSpec.upto chainBothWaysSpec)

/-- 'turnbucklelaw10.ChainOthers', WHERE WHAT IT READS IS OF BULK AT MOST 1048576: true; the input reads as it did. -/
def chainOthersUptoRow : OpenClaim := { program := "ytajbfjmbohkphaa", sum := "bccfef21bb98175497ce7cd33ebee3085c8af0bc3455866626dd821847fdb4d0", func := "turnbuckle/turnbucklelaw10.ChainOthers", spec := "chainOthers", apart := false, narrowed := true }
def ChainOthersUptoSaid : Prop := chainOthersUptoRow.holds Try.pinned (OpenSpec.upto chainOthersSpec)

/-- 'turnbucklelaw10.ChainRange', WHERE WHAT IT READS IS OF BULK AT MOST 1048576: true; the input reads as it did. -/
def chainRangeUptoRow : OpenClaim := { program := "ytajbfjmbohkphaa", sum := "bccfef21bb98175497ce7cd33ebee3085c8af0bc3455866626dd821847fdb4d0", func := "turnbuckle/turnbucklelaw10.ChainRange", spec := "chainRange", apart := false, narrowed := true }
def ChainRangeUptoSaid : Prop := chainRangeUptoRow.holds Try.pinned (OpenSpec.upto chainRangeSpec)

end Rows
end Go.Proofs.Ytajbfjmbohkphaa
