/-
  No cell of these rows narrows 'for every input' (looked for: loops, veiled, ifaces, maps, wideKeys, modest, calm, conditions, laid).
  DERIVED. THE GIVEN ROWS OF THIS SEAT. 6 by the template 'for every input the law returns true; each argument reads behind the call as it read before'; 0 by the template 'total and deterministic' (their statements: YtaomlfnffnapmaaTotals.lean).
  GIVEN WITH THE SEED: the statements are not yours to turn. If you find one false, say at which input.
  Laid BY PROGRAM, IN A SANDBOX (cutbox-rows.mjs): the forced cells as the released guide's own fill.sh prints them over the translation e4355a897e0ca936… (all of the seat's roots in one cut). By AI agents, Wed Nov 11 2026. No macro, syntax, notation, axiom, sorry.
-/
import Derived.Test.YtaomlfnffnapmaaChecked
import GoSem.Claim
import GoSem.ClaimJoined
import GoSem.ClaimMapViews
import Derived.JoinedTies
import Derived.KernelRfl
namespace Go.Proofs.Ytaomlfnffnapmaa
/- THE CELL 'sum', in the pinned program and in every row, IS THE sha256 OF THE DUMP (.gsa) THAT YtaomlfnffnapmaaProg.lean LOADS. Nothing in Lean hashes anything: it is a label: what it is worth is what the hold of that sum in a sandbox is worth. -/
noncomputable def Try.pinned : Pinned := { name := "ytaomlfnffnapmaa", sum := "e4355a897e0ca936a87875edd734d39457566ae43e894a951dc17606de45ce44", checked := Try.checked }
namespace Rows
def none {H : Type} : Left H := { results := [], args := [] }

/-- 'turnbucklelaw16.FlowChecks': WHATEVER THE INPUT: true; the input reads as it did. -/
def flowChecksSpec : ChangeSpec := { name := "flowChecks", fn := fun _ => fun
  | [d] => { results := [.lit (.bool true)], args := [d] }
  | _ => none }
def flowChecksRow : OpenClaim := { program := "ytaomlfnffnapmaa", sum := "e4355a897e0ca936a87875edd734d39457566ae43e894a951dc17606de45ce44", func := "turnbuckle/turnbucklelaw16.FlowChecks", spec := "flowChecks", unfollowed := true, recurses := true, apart := false }
def FlowChecksSaid : Prop := flowChecksRow.holds Try.pinned (OpenSpec.ofChange flowChecksSpec)

/-- ITS FALSE NEIGHBOUR: 'it returns false'. Refute it at one input. -/
def flowChecksWrong : ChangeSpec := { name := "flowChecks", fn := fun _ => fun
  | [d] => { results := [.lit (.bool false)], args := [d] }
  | _ => none }
def FlowChecksWrongFalsely : Prop := flowChecksRow.holds Try.pinned (OpenSpec.ofChange flowChecksWrong)

/-- 'turnbucklelaw16.FlowNexts': WHATEVER THE INPUT: true; the input reads as it did. -/
def flowNextsSpec : ChangeSpec := { name := "flowNexts", fn := fun _ => fun
  | [d1, d2] => { results := [.lit (.bool true)], args := [d1, d2] }
  | _ => none }
def flowNextsRow : OpenClaim := { program := "ytaomlfnffnapmaa", sum := "e4355a897e0ca936a87875edd734d39457566ae43e894a951dc17606de45ce44", func := "turnbuckle/turnbucklelaw16.FlowNexts", spec := "flowNexts", unfollowed := true, recurses := true, apart := false }
def FlowNextsSaid : Prop := flowNextsRow.holds Try.pinned (OpenSpec.ofChange flowNextsSpec)

/-- ITS FALSE NEIGHBOUR: 'it returns false'. Refute it at one input. -/
def flowNextsWrong : ChangeSpec := { name := "flowNexts", fn := fun _ => fun
  | [d1, d2] => { results := [.lit (.bool false)], args := [d1, d2] }
  | _ => none }
def FlowNextsWrongFalsely : Prop := flowNextsRow.holds Try.pinned (OpenSpec.ofChange flowNextsWrong)

/-- 'turnbucklelaw16.FlowEnds': WHATEVER THE INPUT: true; the input reads as it did. -/
def flowEndsSpec : ChangeSpec := { name := "flowEnds", fn := fun _ => fun
  | [d1, d2] => { results := [.lit (.bool true)], args := [d1, d2] }
  | _ => none }
def flowEndsRow : OpenClaim := { program := "ytaomlfnffnapmaa", sum := "e4355a897e0ca936a87875edd734d39457566ae43e894a951dc17606de45ce44", func := "turnbuckle/turnbucklelaw16.FlowEnds", spec := "flowEnds", unfollowed := true, recurses := true, apart := false }
def FlowEndsSaid : Prop := flowEndsRow.holds Try.pinned (OpenSpec.ofChange flowEndsSpec)

/-- ITS FALSE NEIGHBOUR: 'it returns false'. Refute it at one input. -/
def flowEndsWrong : ChangeSpec := { name := "flowEnds", fn := fun _ => fun
  | [d1, d2] => { results := [.lit (.bool false)], args := [d1, d2] }
  | _ => none }
def FlowEndsWrongFalsely : Prop := flowEndsRow.holds Try.pinned (OpenSpec.ofChange flowEndsWrong)

/-- 'turnbucklelaw16.FlowBoth': WHATEVER THE INPUT: true; the input reads as it did. -/
def flowBothSpec : ChangeSpec := { name := "flowBoth", fn := fun _ => fun
  | [d] => { results := [.lit (.bool true)], args := [d] }
  | _ => none }
def flowBothRow : OpenClaim := { program := "ytaomlfnffnapmaa", sum := "e4355a897e0ca936a87875edd734d39457566ae43e894a951dc17606de45ce44", func := "turnbuckle/turnbucklelaw16.FlowBoth", spec := "flowBoth", unfollowed := true, recurses := true, apart := false }
def FlowBothSaid : Prop := flowBothRow.holds Try.pinned (OpenSpec.ofChange flowBothSpec)

/-- ITS FALSE NEIGHBOUR: 'it returns false'. Refute it at one input. -/
def flowBothWrong : ChangeSpec := { name := "flowBoth", fn := fun _ => fun
  | [d] => { results := [.lit (.bool false)], args := [d] }
  | _ => none }
def FlowBothWrongFalsely : Prop := flowBothRow.holds Try.pinned (OpenSpec.ofChange flowBothWrong)

/-- 'turnbucklelaw16.FlowPlain': WHATEVER THE INPUT: true; the input reads as it did. -/
def flowPlainSpec : ChangeSpec := { name := "flowPlain", fn := fun _ => fun
  | [d] => { results := [.lit (.bool true)], args := [d] }
  | _ => none }
def flowPlainRow : OpenClaim := { program := "ytaomlfnffnapmaa", sum := "e4355a897e0ca936a87875edd734d39457566ae43e894a951dc17606de45ce44", func := "turnbuckle/turnbucklelaw16.FlowPlain", spec := "flowPlain", unfollowed := true, recurses := true, apart := false }
def FlowPlainSaid : Prop := flowPlainRow.holds Try.pinned (OpenSpec.ofChange flowPlainSpec)

/-- ITS FALSE NEIGHBOUR: 'it returns false'. Refute it at one input. -/
def flowPlainWrong : ChangeSpec := { name := "flowPlain", fn := fun _ => fun
  | [d] => { results := [.lit (.bool false)], args := [d] }
  | _ => none }
def FlowPlainWrongFalsely : Prop := flowPlainRow.holds Try.pinned (OpenSpec.ofChange flowPlainWrong)

/-- 'turnbucklelaw16.FlowAhead': WHATEVER THE INPUT: true; the input reads as it did. -/
def flowAheadSpec : ChangeSpec := { name := "flowAhead", fn := fun _ => fun
  | [d1, d2] => { results := [.lit (.bool true)], args := [d1, d2] }
  | _ => none }
def flowAheadRow : OpenClaim := { program := "ytaomlfnffnapmaa", sum := "e4355a897e0ca936a87875edd734d39457566ae43e894a951dc17606de45ce44", func := "turnbuckle/turnbucklelaw16.FlowAhead", spec := "flowAhead", unfollowed := true, recurses := true, apart := false }
def FlowAheadSaid : Prop := flowAheadRow.holds Try.pinned (OpenSpec.ofChange flowAheadSpec)

/-- ITS FALSE NEIGHBOUR: 'it returns false'. Refute it at one input. -/
def flowAheadWrong : ChangeSpec := { name := "flowAhead", fn := fun _ => fun
  | [d1, d2] => { results := [.lit (.bool false)], args := [d1, d2] }
  | _ => none }
def FlowAheadWrongFalsely : Prop := flowAheadRow.holds Try.pinned (OpenSpec.ofChange flowAheadWrong)

/- THE SECOND FORM. 'bulk': how many values and letters a reading holds, each counted each time it is reached (what is shared counts as often as it is met; a slice's spare places count too). A statement '..UptoSaid' is the law's where the arguments, and the package variables that the reading takes, are together of bulk at most 1048576: NARROWER than '..Said'. Prove '..Said' where nothing that the law and all that it calls make is longer than what came in: it says more and counts as full. Else prove '..UptoSaid'. A law counts once. -/
mutual
def uptoBulk {H : Type} : DataW H → Nat
  | .lit (.string bytes) => bytes.length + 1
  | .lit _ => 1
  | .nil => 1
  | .ptr d => uptoBulk d + 1
  | .slice elems spare => uptoBulkAll elems + uptoBulkAll spare + 1
  | .agg parts => uptoBulkAll parts + 1
  | .iface _ d => uptoBulk d + 1
  | .map entries => uptoBulkEntries entries + 1
  | .held _ => 1
def uptoBulkAll {H : Type} : List (DataW H) → Nat
  | [] => 0
  | d :: r => uptoBulk d + uptoBulkAll r
def uptoBulkEntries {H : Type} : List (Lit × DataW H) → Nat
  | [] => 0
  | x :: r => uptoBulkEntry x + uptoBulkEntries r
def uptoBulkEntry {H : Type} : Lit × DataW H → Nat
  | (.string bytes, d) => bytes.length + uptoBulk d + 1
  | (_, d) => uptoBulk d + 1
 end
def uptoSmall : (H : Type) → List (DataW H) → Bool := fun _ ds => decide (uptoBulkAll ds ≤ 1048576)
def OpenSpec.upto (s : _root_.Go.ChangeSpec) : _root_.Go.OpenSpec := { _root_.Go.OpenSpec.ofChange s with cond := some uptoSmall }

/-- 'turnbucklelaw16.FlowChecks', WHERE WHAT IT READS IS OF BULK AT MOST 1048576: true; the input reads as it did. -/
def flowChecksUptoRow : OpenClaim := { program := "ytaomlfnffnapmaa", sum := "e4355a897e0ca936a87875edd734d39457566ae43e894a951dc17606de45ce44", func := "turnbuckle/turnbucklelaw16.FlowChecks", spec := "flowChecks", unfollowed := true, recurses := true, apart := false, narrowed := true }
def FlowChecksUptoSaid : Prop := flowChecksUptoRow.holds Try.pinned (OpenSpec.upto flowChecksSpec)

/-- 'turnbucklelaw16.FlowNexts', WHERE WHAT IT READS IS OF BULK AT MOST 1048576: true; the input reads as it did. -/
def flowNextsUptoRow : OpenClaim := { program := "ytaomlfnffnapmaa", sum := "e4355a897e0ca936a87875edd734d39457566ae43e894a951dc17606de45ce44", func := "turnbuckle/turnbucklelaw16.FlowNexts", spec := "flowNexts", unfollowed := true, recurses := true, apart := false, narrowed := true }
def FlowNextsUptoSaid : Prop := flowNextsUptoRow.holds Try.pinned (OpenSpec.upto flowNextsSpec)

/-- 'turnbucklelaw16.FlowEnds', WHERE WHAT IT READS IS OF BULK AT MOST 1048576: true; the input reads as it did. -/
def flowEndsUptoRow : OpenClaim := { program := "ytaomlfnffnapmaa", sum := "e4355a897e0ca936a87875edd734d39457566ae43e894a951dc17606de45ce44", func := "turnbuckle/turnbucklelaw16.FlowEnds", spec := "flowEnds", unfollowed := true, recurses := true, apart := false, narrowed := true }
def FlowEndsUptoSaid : Prop := flowEndsUptoRow.holds Try.pinned (OpenSpec.upto flowEndsSpec)

/-- 'turnbucklelaw16.FlowBoth', WHERE WHAT IT READS IS OF BULK AT MOST 1048576: true; the input reads as it did. -/
def flowBothUptoRow : OpenClaim := { program := "ytaomlfnffnapmaa", sum := "e4355a897e0ca936a87875edd734d39457566ae43e894a951dc17606de45ce44", func := "turnbuckle/turnbucklelaw16.FlowBoth", spec := "flowBoth", unfollowed := true, recurses := true, apart := false, narrowed := true }
def FlowBothUptoSaid : Prop := flowBothUptoRow.holds Try.pinned (OpenSpec.upto flowBothSpec)

/-- 'turnbucklelaw16.FlowPlain', WHERE WHAT IT READS IS OF BULK AT MOST 1048576: true; the input reads as it did. -/
def flowPlainUptoRow : OpenClaim := { program := "ytaomlfnffnapmaa", sum := "e4355a897e0ca936a87875edd734d39457566ae43e894a951dc17606de45ce44", func := "turnbuckle/turnbucklelaw16.FlowPlain", spec := "flowPlain", unfollowed := true, recurses := true, apart := false, narrowed := true }
def FlowPlainUptoSaid : Prop := flowPlainUptoRow.holds Try.pinned (OpenSpec.upto flowPlainSpec)

/-- 'turnbucklelaw16.FlowAhead', WHERE WHAT IT READS IS OF BULK AT MOST 1048576: true; the input reads as it did. -/
def flowAheadUptoRow : OpenClaim := { program := "ytaomlfnffnapmaa", sum := "e4355a897e0ca936a87875edd734d39457566ae43e894a951dc17606de45ce44", func := "turnbuckle/turnbucklelaw16.FlowAhead", spec := "flowAhead", unfollowed := true, recurses := true, apart := false, narrowed := true }
def FlowAheadUptoSaid : Prop := flowAheadUptoRow.holds Try.pinned (OpenSpec.upto flowAheadSpec)

end Rows
end Go.Proofs.Ytaomlfnffnapmaa
