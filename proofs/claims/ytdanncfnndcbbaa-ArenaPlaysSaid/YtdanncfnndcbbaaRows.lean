/-
  No cell of these rows narrows 'for every input' (looked for: loops, veiled, ifaces, maps, wideKeys, modest, calm, conditions, laid).
  DERIVED. THE GIVEN ROWS OF THIS SEAT. 6 by the template 'for every input the law returns true; each argument reads behind the call as it read before'; 0 by the template 'total and deterministic' (their statements: YtdanncfnndcbbaaTotals.lean).
  GIVEN WITH THE SEED: the statements are not yours to turn. If you find one false, say at which input.
  Laid BY PROGRAM, IN A SANDBOX (cutbox-rows.mjs): the forced cells as the released guide's own fill.sh prints them over the translation 916c503b02376a04… (all of the seat's roots in one cut). By AI agents, Wed Nov 11 2026. No macro, syntax, notation, axiom, sorry.
-/
import Derived.Test.YtdanncfnndcbbaaChecked
import GoSem.Claim
import GoSem.ClaimJoined
import GoSem.ClaimMapViews
import Derived.JoinedTies
import Derived.KernelRfl
namespace Go.Proofs.Ytdanncfnndcbbaa
/- THE CELL 'sum', in the pinned program and in every row, IS THE sha256 OF THE DUMP (.gsa) THAT YtdanncfnndcbbaaProg.lean LOADS. Nothing in Lean hashes anything: it is a label: what it is worth is what the hold of that sum in a sandbox is worth. -/
noncomputable def Try.pinned : Pinned := { name := "ytdanncfnndcbbaa", sum := "916c503b02376a040dd4563365a43093eeef153015b4342a9d9774852f106412", checked := Try.checked }
namespace Rows
def none {H : Type} : Left H := { results := [], args := [] }

/-- 'turnbucklelaw01.ArenaBack': WHATEVER THE INPUT: true; the input reads as it did. -/
def arenaBackSpec : ChangeSpec := { name := "arenaBack", fn := fun _ => fun
  | [d1, d2, d3, d4, d5] => { results := [.lit (.bool true)], args := [d1, d2, d3, d4, d5] }
  | _ => none }
def arenaBackRow : OpenClaim := { program := "ytdanncfnndcbbaa", sum := "916c503b02376a040dd4563365a43093eeef153015b4342a9d9774852f106412", func := "turnbuckle/turnbucklelaw01.ArenaBack", spec := "arenaBack", apart := false }
def ArenaBackSaid : Prop := arenaBackRow.holds Try.pinned (OpenSpec.ofChange arenaBackSpec)

/-- ITS FALSE NEIGHBOUR: 'it returns false'. Refute it at one input. -/
def arenaBackWrong : ChangeSpec := { name := "arenaBack", fn := fun _ => fun
  | [d1, d2, d3, d4, d5] => { results := [.lit (.bool false)], args := [d1, d2, d3, d4, d5] }
  | _ => none }
def ArenaBackWrongFalsely : Prop := arenaBackRow.holds Try.pinned (OpenSpec.ofChange arenaBackWrong)

/-- 'turnbucklelaw01.ArenaHalves': WHATEVER THE INPUT: true; the input reads as it did. -/
def arenaHalvesSpec : ChangeSpec := { name := "arenaHalves", fn := fun _ => fun
  | [d1, d2, d3, d4] => { results := [.lit (.bool true)], args := [d1, d2, d3, d4] }
  | _ => none }
def arenaHalvesRow : OpenClaim := { program := "ytdanncfnndcbbaa", sum := "916c503b02376a040dd4563365a43093eeef153015b4342a9d9774852f106412", func := "turnbuckle/turnbucklelaw01.ArenaHalves", spec := "arenaHalves", apart := false }
def ArenaHalvesSaid : Prop := arenaHalvesRow.holds Try.pinned (OpenSpec.ofChange arenaHalvesSpec)

/-- ITS FALSE NEIGHBOUR: 'it returns false'. Refute it at one input. -/
def arenaHalvesWrong : ChangeSpec := { name := "arenaHalves", fn := fun _ => fun
  | [d1, d2, d3, d4] => { results := [.lit (.bool false)], args := [d1, d2, d3, d4] }
  | _ => none }
def ArenaHalvesWrongFalsely : Prop := arenaHalvesRow.holds Try.pinned (OpenSpec.ofChange arenaHalvesWrong)

/-- 'turnbucklelaw01.ArenaApart': WHATEVER THE INPUT: true; the input reads as it did. -/
def arenaApartSpec : ChangeSpec := { name := "arenaApart", fn := fun _ => fun
  | [d1, d2, d3, d4, d5] => { results := [.lit (.bool true)], args := [d1, d2, d3, d4, d5] }
  | _ => none }
def arenaApartRow : OpenClaim := { program := "ytdanncfnndcbbaa", sum := "916c503b02376a040dd4563365a43093eeef153015b4342a9d9774852f106412", func := "turnbuckle/turnbucklelaw01.ArenaApart", spec := "arenaApart", apart := false }
def ArenaApartSaid : Prop := arenaApartRow.holds Try.pinned (OpenSpec.ofChange arenaApartSpec)

/-- ITS FALSE NEIGHBOUR: 'it returns false'. Refute it at one input. -/
def arenaApartWrong : ChangeSpec := { name := "arenaApart", fn := fun _ => fun
  | [d1, d2, d3, d4, d5] => { results := [.lit (.bool false)], args := [d1, d2, d3, d4, d5] }
  | _ => none }
def ArenaApartWrongFalsely : Prop := arenaApartRow.holds Try.pinned (OpenSpec.ofChange arenaApartWrong)

/-- 'turnbucklelaw01.ArenaPlays': WHATEVER THE INPUT: true; the input reads as it did. -/
def arenaPlaysSpec : ChangeSpec := { name := "arenaPlays", fn := fun _ => fun
  | [d1, d2] => { results := [.lit (.bool true)], args := [d1, d2] }
  | _ => none }
def arenaPlaysRow : OpenClaim := { program := "ytdanncfnndcbbaa", sum := "916c503b02376a040dd4563365a43093eeef153015b4342a9d9774852f106412", func := "turnbuckle/turnbucklelaw01.ArenaPlays", spec := "arenaPlays", apart := false }
def ArenaPlaysSaid : Prop := arenaPlaysRow.holds Try.pinned (OpenSpec.ofChange arenaPlaysSpec)

/-- ITS FALSE NEIGHBOUR: 'it returns false'. Refute it at one input. -/
def arenaPlaysWrong : ChangeSpec := { name := "arenaPlays", fn := fun _ => fun
  | [d1, d2] => { results := [.lit (.bool false)], args := [d1, d2] }
  | _ => none }
def ArenaPlaysWrongFalsely : Prop := arenaPlaysRow.holds Try.pinned (OpenSpec.ofChange arenaPlaysWrong)

/-- 'turnbucklelaw01.ArenaNobody': WHATEVER THE INPUT: true; the input reads as it did. -/
def arenaNobodySpec : ChangeSpec := { name := "arenaNobody", fn := fun _ => fun
  | [d1, d2, d3] => { results := [.lit (.bool true)], args := [d1, d2, d3] }
  | _ => none }
def arenaNobodyRow : OpenClaim := { program := "ytdanncfnndcbbaa", sum := "916c503b02376a040dd4563365a43093eeef153015b4342a9d9774852f106412", func := "turnbuckle/turnbucklelaw01.ArenaNobody", spec := "arenaNobody", apart := false }
def ArenaNobodySaid : Prop := arenaNobodyRow.holds Try.pinned (OpenSpec.ofChange arenaNobodySpec)

/-- ITS FALSE NEIGHBOUR: 'it returns false'. Refute it at one input. -/
def arenaNobodyWrong : ChangeSpec := { name := "arenaNobody", fn := fun _ => fun
  | [d1, d2, d3] => { results := [.lit (.bool false)], args := [d1, d2, d3] }
  | _ => none }
def ArenaNobodyWrongFalsely : Prop := arenaNobodyRow.holds Try.pinned (OpenSpec.ofChange arenaNobodyWrong)

/-- 'turnbucklelaw01.ArenaFills': WHATEVER THE INPUT: true; the input reads as it did. -/
def arenaFillsSpec : ChangeSpec := { name := "arenaFills", fn := fun _ => fun
  | [d1, d2, d3, d4] => { results := [.lit (.bool true)], args := [d1, d2, d3, d4] }
  | _ => none }
def arenaFillsRow : OpenClaim := { program := "ytdanncfnndcbbaa", sum := "916c503b02376a040dd4563365a43093eeef153015b4342a9d9774852f106412", func := "turnbuckle/turnbucklelaw01.ArenaFills", spec := "arenaFills", apart := false }
def ArenaFillsSaid : Prop := arenaFillsRow.holds Try.pinned (OpenSpec.ofChange arenaFillsSpec)

/-- ITS FALSE NEIGHBOUR: 'it returns false'. Refute it at one input. -/
def arenaFillsWrong : ChangeSpec := { name := "arenaFills", fn := fun _ => fun
  | [d1, d2, d3, d4] => { results := [.lit (.bool false)], args := [d1, d2, d3, d4] }
  | _ => none }
def ArenaFillsWrongFalsely : Prop := arenaFillsRow.holds Try.pinned (OpenSpec.ofChange arenaFillsWrong)

/- THE SECOND FORM. 'bulk': how many values and letters a reading holds, each counted each time it is reached (what is shared counts as often as it is met; a slice's spare places count too). A statement '..UptoSaid' is the law's where the arguments, and the package variables that the reading takes, are together of bulk at most 1048576: NARROWER than '..Said'. Prove '..Said' where nothing that the law and all that it calls make is longer than what came in: it says more and counts as full. Else prove '..UptoSaid'. A law counts once. -/
mutual
def uptoBulk {H : Type} : DataW H → Nat
  | .lit (.string bytes) => bytes.length + 1
  | .lit _ => 1
  | .nil => 1
  | .ptr d => uptoBulk d + 1
  | .slice elems spare => uptoBulkAll elems + uptoBulkAll spare + 1
  | .agg parts => uptoBulkAll parts + 1
  | .iface _ d => uptoBulk d + 1
  | .map entries => uptoBulkEntries entries + 1
  | .held _ => 1
def uptoBulkAll {H : Type} : List (DataW H) → Nat
  | [] => 0
  | d :: r => uptoBulk d + uptoBulkAll r
def uptoBulkEntries {H : Type} : List (Lit × DataW H) → Nat
  | [] => 0
  | x :: r => uptoBulkEntry x + uptoBulkEntries r
def uptoBulkEntry {H : Type} : Lit × DataW H → Nat
  | (.string bytes, d) => bytes.length + uptoBulk d + 1
  | (_, d) => uptoBulk d + 1
 end
def uptoSmall : (H : Type) → List (DataW H) → Bool := fun _ ds => decide (uptoBulkAll ds ≤ 1048576)
def OpenSpec.upto (s : _root_.Go.ChangeSpec) : _root_.Go.OpenSpec := { _root_.Go.OpenSpec.ofChange s with cond := some uptoSmall }

/-- 'turnbucklelaw01.ArenaBack', WHERE WHAT IT READS IS OF BULK AT MOST 1048576: true; the input reads as it did. -/
def arenaBackUptoRow : OpenClaim := { program := "ytdanncfnndcbbaa", sum := "916c503b02376a040dd4563365a43093eeef153015b4342a9d9774852f106412", func := "turnbuckle/turnbucklelaw01.ArenaBack", spec := "arenaBack", apart := false, narrowed := true }
def ArenaBackUptoSaid : Prop := arenaBackUptoRow.holds Try.pinned (OpenSpec.upto arenaBackSpec)

/-- 'turnbucklelaw01.ArenaHalves', WHERE WHAT IT READS IS OF BULK AT MOST 1048576: true; the input reads as it did. -/
def arenaHalvesUptoRow : OpenClaim := { program := "ytdanncfnndcbbaa", sum := "916c503b02376a040dd4563365a43093eeef153015b4342a9d9774852f106412", func := "turnbuckle/turnbucklelaw01.ArenaHalves", spec := "arenaHalves", apart := false, narrowed := true }
def ArenaHalvesUptoSaid : Prop := arenaHalvesUptoRow.holds Try.pinned (OpenSpec.upto arenaHalvesSpec)

/-- 'turnbucklelaw01.ArenaApart', WHERE WHAT IT READS IS OF BULK AT MOST 1048576: true; the input reads as it did. -/
def arenaApartUptoRow : OpenClaim := { program := "ytdanncfnndcbbaa", sum := "916c503b02376a040dd4563365a43093eeef153015b4342a9d9774852f106412", func := "turnbuckle/turnbucklelaw01.ArenaApart", spec := "arenaApart", apart := false, narrowed := true }
def ArenaApartUptoSaid : Prop := arenaApartUptoRow.holds Try.pinned (OpenSpec.upto arenaApartSpec)

/-- 'turnbucklelaw01.ArenaPlays', WHERE WHAT IT READS IS OF BULK AT MOST 1048576: true; the input reads as it did. -/
def arenaPlaysUptoRow : OpenClaim := { program := "ytdanncfnndcbbaa", sum := "916c503b02376a040dd4563365a43093eeef153015b4342a9d9774852f106412", func := "turnbuckle/turnbucklelaw01.ArenaPlays", spec := "arenaPlays", apart := false, narrowed := true }
def ArenaPlaysUptoSaid : Prop := arenaPlaysUptoRow.holds Try.pinned (OpenSpec.upto arenaPlaysSpec)

/-- 'turnbucklelaw01.ArenaNobody', WHERE WHAT IT READS IS OF BULK AT MOST 1048576: true; the input reads as it did. -/
def arenaNobodyUptoRow : OpenClaim := { program := "ytdanncfnndcbbaa", sum := "916c503b02376a040dd4563365a43093eeef153015b4342a9d9774852f106412", func := "turnbuckle/turnbucklelaw01.ArenaNobody", spec := "arenaNobody", apart := false, narrowed := true }
def ArenaNobodyUptoSaid : Prop := arenaNobodyUptoRow.holds Try.pinned (OpenSpec.upto arenaNobodySpec)

/-- 'turnbucklelaw01.ArenaFills', WHERE WHAT IT READS IS OF BULK AT MOST 1048576: true; the input reads as it did. -/
def arenaFillsUptoRow : OpenClaim := { program := "ytdanncfnndcbbaa", sum := "916c503b02376a040dd4563365a43093eeef153015b4342a9d9774852f106412", func := "turnbuckle/turnbucklelaw01.ArenaFills", spec := "arenaFills", apart := false, narrowed := true }
def ArenaFillsUptoSaid : Prop := arenaFillsUptoRow.holds Try.pinned (OpenSpec.upto arenaFillsSpec)

end Rows
end Go.Proofs.Ytdanncfnndcbbaa
