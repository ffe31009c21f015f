/-
  No cell of these rows narrows 'for every input' (looked for: loops, veiled, ifaces, maps, wideKeys, modest, calm, conditions, laid).
  DERIVED. THE GIVEN ROWS OF THIS SEAT. 6 by the template 'for every input the law returns true; each argument reads behind the call as it read before'; 0 by the template 'total and deterministic' (their statements: YthkppnkhiimaeaaTotals.lean).
  GIVEN WITH THE SEED: the statements are not yours to turn. If you find one false, say at which input.
  Laid BY PROGRAM, IN A SANDBOX (cutbox-rows.mjs): the forced cells as the released guide's own fill.sh prints them over the translation 9dcbdd673ff1f8da… (all of the seat's roots in one cut). By AI agents, Wed Nov 11 2026. No macro, syntax, notation, axiom, sorry.
-/
import Derived.Test.YthkppnkhiimaeaaChecked
import GoSem.Claim
import GoSem.ClaimJoined
import GoSem.ClaimMapViews
import Derived.JoinedTies
import Derived.KernelRfl
namespace Go.Proofs.Ythkppnkhiimaeaa
/- THE CELL 'sum', in the pinned program and in every row, IS THE sha256 OF THE DUMP (.gsa) THAT YthkppnkhiimaeaaProg.lean LOADS. Nothing in Lean hashes anything: it is a label: what it is worth is what the hold of that sum in a sandbox is worth. -/
noncomputable def Try.pinned : Pinned := { name := "ythkppnkhiimaeaa", sum := "9dcbdd673ff1f8da6356fd0af44a31ef8918d2549e6e7254aa4831440c41bd26", checked := Try.checked }
namespace Rows
def none {H : Type} : Left H := { results := [], args := [] }

/-- 'turnbucklelaw11.TreeDeep': WHATEVER THE INPUT: true; the input reads as it did. -/
def treeDeepSpec : ChangeSpec := { name := "treeDeep", fn := fun _ => fun
  | [d] => { results := [.lit (.bool true)], args := [d] }
  | _ => none }
def treeDeepRow : OpenClaim := { program := "ythkppnkhiimaeaa", sum := "9dcbdd673ff1f8da6356fd0af44a31ef8918d2549e6e7254aa4831440c41bd26", func := "turnbuckle/turnbucklelaw11.TreeDeep", spec := "treeDeep", recurses := true, apart := false }
def TreeDeepSaid : Prop := treeDeepRow.holds Try.pinned (OpenSpec.ofChange treeDeepSpec)

/-- ITS FALSE NEIGHBOUR: 'it returns false'. Refute it at one input. -/
def treeDeepWrong : ChangeSpec := { name := "treeDeep", fn := fun _ => fun
  | [d] => { results := [.lit (.bool false)], args := [d] }
  | _ => none }
def TreeDeepWrongFalsely : Prop := treeDeepRow.holds Try.pinned (OpenSpec.ofChange treeDeepWrong)

/-- 'turnbucklelaw11.TreeRules': WHATEVER THE INPUT: true; the input reads as it did. -/
def treeRulesSpec : ChangeSpec := { name := "treeRules", fn := fun _ => fun
  | [d1, d2] => { results := [.lit (.bool true)], args := [d1, d2] }
  | _ => none }
def treeRulesRow : OpenClaim := { program := "ythkppnkhiimaeaa", sum := "9dcbdd673ff1f8da6356fd0af44a31ef8918d2549e6e7254aa4831440c41bd26", func := "turnbuckle/turnbucklelaw11.TreeRules", spec := "treeRules", unfollowed := true, recurses := true, apart := false }
def TreeRulesSaid : Prop := treeRulesRow.holds Try.pinned (OpenSpec.ofChange treeRulesSpec)

/-- ITS FALSE NEIGHBOUR: 'it returns false'. Refute it at one input. -/
def treeRulesWrong : ChangeSpec := { name := "treeRules", fn := fun _ => fun
  | [d1, d2] => { results := [.lit (.bool false)], args := [d1, d2] }
  | _ => none }
def TreeRulesWrongFalsely : Prop := treeRulesRow.holds Try.pinned (OpenSpec.ofChange treeRulesWrong)

/-- 'turnbucklelaw11.TreeFirsts': WHATEVER THE INPUT: true; the input reads as it did. -/
def treeFirstsSpec : ChangeSpec := { name := "treeFirsts", fn := fun _ => fun
  | [d] => { results := [.lit (.bool true)], args := [d] }
  | _ => none }
def treeFirstsRow : OpenClaim := { program := "ythkppnkhiimaeaa", sum := "9dcbdd673ff1f8da6356fd0af44a31ef8918d2549e6e7254aa4831440c41bd26", func := "turnbuckle/turnbucklelaw11.TreeFirsts", spec := "treeFirsts", unfollowed := true, recurses := true, apart := false }
def TreeFirstsSaid : Prop := treeFirstsRow.holds Try.pinned (OpenSpec.ofChange treeFirstsSpec)

/-- ITS FALSE NEIGHBOUR: 'it returns false'. Refute it at one input. -/
def treeFirstsWrong : ChangeSpec := { name := "treeFirsts", fn := fun _ => fun
  | [d] => { results := [.lit (.bool false)], args := [d] }
  | _ => none }
def TreeFirstsWrongFalsely : Prop := treeFirstsRow.holds Try.pinned (OpenSpec.ofChange treeFirstsWrong)

/-- 'turnbucklelaw11.TreePlays': WHATEVER THE INPUT: true; the input reads as it did. -/
def treePlaysSpec : ChangeSpec := { name := "treePlays", fn := fun _ => fun
  | [d1, d2] => { results := [.lit (.bool true)], args := [d1, d2] }
  | _ => none }
def treePlaysRow : OpenClaim := { program := "ythkppnkhiimaeaa", sum := "9dcbdd673ff1f8da6356fd0af44a31ef8918d2549e6e7254aa4831440c41bd26", func := "turnbuckle/turnbucklelaw11.TreePlays", spec := "treePlays", unfollowed := true, recurses := true, apart := false }
def TreePlaysSaid : Prop := treePlaysRow.holds Try.pinned (OpenSpec.ofChange treePlaysSpec)

/-- ITS FALSE NEIGHBOUR: 'it returns false'. Refute it at one input. -/
def treePlaysWrong : ChangeSpec := { name := "treePlays", fn := fun _ => fun
  | [d1, d2] => { results := [.lit (.bool false)], args := [d1, d2] }
  | _ => none }
def TreePlaysWrongFalsely : Prop := treePlaysRow.holds Try.pinned (OpenSpec.ofChange treePlaysWrong)

/-- 'turnbucklelaw11.TreeStable': WHATEVER THE INPUT: true; the input reads as it did. -/
def treeStableSpec : ChangeSpec := { name := "treeStable", fn := fun _ => fun
  | [d1, d2] => { results := [.lit (.bool true)], args := [d1, d2] }
  | _ => none }
def treeStableRow : OpenClaim := { program := "ythkppnkhiimaeaa", sum := "9dcbdd673ff1f8da6356fd0af44a31ef8918d2549e6e7254aa4831440c41bd26", func := "turnbuckle/turnbucklelaw11.TreeStable", spec := "treeStable", unfollowed := true, recurses := true, apart := false }
def TreeStableSaid : Prop := treeStableRow.holds Try.pinned (OpenSpec.ofChange treeStableSpec)

/-- ITS FALSE NEIGHBOUR: 'it returns false'. Refute it at one input. -/
def treeStableWrong : ChangeSpec := { name := "treeStable", fn := fun _ => fun
  | [d1, d2] => { results := [.lit (.bool false)], args := [d1, d2] }
  | _ => none }
def TreeStableWrongFalsely : Prop := treeStableRow.holds Try.pinned (OpenSpec.ofChange treeStableWrong)

/-- 'turnbucklelaw11.TreeRange': WHATEVER THE INPUT: true; the input reads as it did. -/
def treeRangeSpec : ChangeSpec := { name := "treeRange", fn := fun _ => fun
  | [d1, d2, d3] => { results := [.lit (.bool true)], args := [d1, d2, d3] }
  | _ => none }
def treeRangeRow : OpenClaim := { program := "ythkppnkhiimaeaa", sum := "9dcbdd673ff1f8da6356fd0af44a31ef8918d2549e6e7254aa4831440c41bd26", func := "turnbuckle/turnbucklelaw11.TreeRange", spec := "treeRange", unfollowed := true, recurses := true, apart := false }
def TreeRangeSaid : Prop := treeRangeRow.holds Try.pinned (OpenSpec.ofChange treeRangeSpec)

/-- ITS FALSE NEIGHBOUR: 'it returns false'. Refute it at one input. -/
def treeRangeWrong : ChangeSpec := { name := "treeRange", fn := fun _ => fun
  | [d1, d2, d3] => { results := [.lit (.bool false)], args := [d1, d2, d3] }
  | _ => none }
def TreeRangeWrongFalsely : Prop := treeRangeRow.holds Try.pinned (OpenSpec.ofChange treeRangeWrong)

/- THE SECOND FORM. 'bulk': how many values and letters a reading holds, each counted each time it is reached (what is shared counts as often as it is met; a slice's spare places count too). A statement '..UptoSaid' is the law's where the arguments, and the package variables that the reading takes, are together of bulk at most 1048576: NARROWER than '..Said'. Prove '..Said' where nothing that the law and all that it calls make is longer than what came in: it says more and counts as full. Else prove '..UptoSaid'. A law counts once. -/
mutual
def uptoBulk {H : Type} : DataW H → Nat
  | .lit (.string bytes) => bytes.length + 1
  | .lit _ => 1
  | .nil => 1
  | .ptr d => uptoBulk d + 1
  | .slice elems spare => uptoBulkAll elems + uptoBulkAll spare + 1
  | .agg parts => uptoBulkAll parts + 1
  | .iface _ d => uptoBulk d + 1
  | .map entries => uptoBulkEntries entries + 1
  | .held _ => 1
def uptoBulkAll {H : Type} : List (DataW H) → Nat
  | [] => 0
  | d :: r => uptoBulk d + uptoBulkAll r
def uptoBulkEntries {H : Type} : List (Lit × DataW H) → Nat
  | [] => 0
  | x :: r => uptoBulkEntry x + uptoBulkEntries r
def uptoBulkEntry {H : Type} : Lit × DataW H → Nat
  | (.string bytes, d) => bytes.length + uptoBulk d + 1
  | (_, d) => uptoBulk d + 1
 end
def uptoSmall : (H : Type) → List (DataW H) → Bool := fun _ ds => decide (uptoBulkAll ds ≤ 1048576)
def OpenSpec.upto (s : _root_.Go.ChangeSpec) : _root_.Go.OpenSpec := { _root_.Go.OpenSpec.ofChange s with cond := some uptoSmall }

/-- 'turnbucklelaw11.TreeDeep', WHERE WHAT IT READS IS OF BULK AT MOST 1048576: true; the input reads as it did. -/
def treeDeepUptoRow : OpenClaim := { program := "ythkppnkhiimaeaa", sum := "9dcbdd673ff1f8da6356fd0af44a31ef8918d2549e6e7254aa4831440c41bd26", func := "turnbuckle/turnbucklelaw11.TreeDeep", spec := "treeDeep", recurses := true, apart := false, narrowed := true }
def TreeDeepUptoSaid : Prop := treeDeepUptoRow.holds Try.pinned (OpenSpec.upto treeDeepSpec)

/-- 'turnbucklelaw11.TreeRules', WHERE WHAT IT READS IS OF BULK AT MOST 1048576: true; the input reads as it did. -/
def treeRulesUptoRow : OpenClaim := { program := "ythkppnkhiimaeaa", sum := "9dcbdd673ff1f8da6356fd0af44a31ef8918d2549e6e7254aa4831440c41bd26", func := "turnbuckle/turnbucklelaw11.TreeRules", spec := "treeRules", unfollowed := true, recurses := true, apart := false, narrowed := true }
def TreeRulesUptoSaid : Prop := treeRulesUptoRow.holds Try.pinned (OpenSpec.upto treeRulesSpec)

/-- 'turnbucklelaw11.TreeFirsts', WHERE WHAT IT READS IS OF BULK AT MOST 1048576: true; the input reads as it did. -/
def treeFirstsUptoRow : OpenClaim := { program := "ythkppnkhiimaeaa", sum := "9dcbdd673ff1f8da6356fd0af44a31ef8918d2549e6e7254aa4831440c41bd26", func := "turnbuckle/turnbucklelaw11.TreeFirsts", spec := "treeFirsts", unfollowed := true, recurses := true, apart := false, narrowed := true }
def TreeFirstsUptoSaid : Prop := treeFirstsUptoRow.holds Try.pinned (OpenSpec.upto treeFirstsSpec)

/-- 'turnbucklelaw11.TreePlays', WHERE WHAT IT READS IS OF BULK AT MOST 1048576: true; the input reads as it did. -/
def treePlaysUptoRow : OpenClaim := { program := "ythkppnkhiimaeaa", sum := "9dcbdd673ff1f8da6356fd0af44a31ef8918d2549e6e7254aa4831440c41bd26", func := "turnbuckle/turnbucklelaw11.TreePlays", spec := "treePlays", unfollowed := true, recurses := true, apart := false, narrowed := true }
def TreePlaysUptoSaid : Prop := treePlaysUptoRow.holds Try.pinned (OpenSpec.upto treePlaysSpec)

/-- 'turnbucklelaw11.TreeStable', WHERE WHAT IT READS IS OF BULK AT MOST 1048576: true; the input reads as it did. -/
def treeStableUptoRow : OpenClaim := { program := "ythkppnkhiimaeaa", sum := "9dcbdd673ff1f8da6356fd0af44a31ef8918d2549e6e7254aa4831440c41bd26", func := "turnbuckle/turnbucklelaw11.TreeStable", spec := "treeStable", unfollowed := true, recurses := true, apart := false, narrowed := true }
def TreeStableUptoSaid : Prop := treeStableUptoRow.holds Try.pinned (OpenSpec.upto treeStableSpec)

/-- 'turnbucklelaw11.TreeRange', WHERE WHAT IT READS IS OF BULK AT MOST 1048576: true; the input reads as it did. -/
def treeRangeUptoRow : OpenClaim := { program := "ythkppnkhiimaeaa", sum := "9dcbdd673ff1f8da6356fd0af44a31ef8918d2549e6e7254aa4831440c41bd26", func := "turnbuckle/turnbucklelaw11.TreeRange", spec := "treeRange", unfollowed := true, recurses := true, apart := false, narrowed := true }
def TreeRangeUptoSaid : Prop := treeRangeUptoRow.holds Try.pinned (OpenSpec.upto treeRangeSpec)

end Rows
end Go.Proofs.Ythkppnkhiimaeaa
