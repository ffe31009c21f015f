/-
  DERIVED. GIVEN WITH THE SEED: THE CARDS: each row of YtiamohjonljdnaaDoorRows.lean that lists a variable, with what it lists TIED to the program's text (the seventh form; the later family's looks); each row that meets fmt, with fmt's text TOLD by the authors' own Lean function (tested against real Go, not proved from fmt's source: count such statements apart). THE CARD IS WHAT COUNTS. Prove the row's statement (the work); the ties are given (YtiamohjonljdnaaDoorTie.lean); close each card by the builder's one call (the guide's Derived/Test/ToyasCard.lean, 'card_holds'). Laid BY PROGRAM, IN A SANDBOX (cutbox-door.mjs). By AI agents, Wed Nov 11 2026. No macro, syntax, notation, axiom, sorry.
-/
import Derived.Test.YtiamohjonljdnaaDoorRows
import GoSem.ClaimSeven
namespace Go.Proofs.YtiamohjonljdnaaDoor
namespace Rows

/-- THE TIED CARD OF 'turnbucklelaw02.PoolRuns'. -/
def poolRunsCard : Claim7 := { stood := { row := poolRunsRow, standIns := [], harness := (true, "032c330a3fe532b7e062fff5f2e72bee34bd720c944b4943f24ca133cc98e447"), looks := false }, kinds := [], alts := [], laidByText := true, laidKinds := [.data], laidTests := true, laidLooks := .later }
def PoolRunsCardSaid : Prop := Claim7.holds Tryd.pinned (.plain (OpenSpec.ofChange poolRunsSpec)) poolRunsCard

/-- THE TIED CARD OF 'turnbucklelaw02.PoolPlays'. -/
def poolPlaysCard : Claim7 := { stood := { row := poolPlaysRow, standIns := [], harness := (true, "032c330a3fe532b7e062fff5f2e72bee34bd720c944b4943f24ca133cc98e447"), looks := false }, kinds := [], alts := [], laidByText := true, laidKinds := [.data], laidTests := true, laidLooks := .later }
def PoolPlaysCardSaid : Prop := Claim7.holds Tryd.pinned (.plain (OpenSpec.ofChange poolPlaysSpec)) poolPlaysCard

/-- THE TIED CARD OF 'turnbucklelaw02.PoolOnce'. -/
def poolOnceCard : Claim7 := { stood := { row := poolOnceRow, standIns := [], harness := (true, "032c330a3fe532b7e062fff5f2e72bee34bd720c944b4943f24ca133cc98e447"), looks := false }, kinds := [], alts := [], laidByText := true, laidKinds := [.data], laidTests := true, laidLooks := .later }
def PoolOnceCardSaid : Prop := Claim7.holds Tryd.pinned (.plain (OpenSpec.ofChange poolOnceSpec)) poolOnceCard

/-- THE TIED CARD OF 'turnbucklelaw02.PoolNobody'. -/
def poolNobodyCard : Claim7 := { stood := { row := poolNobodyRow, standIns := [], harness := (true, "032c330a3fe532b7e062fff5f2e72bee34bd720c944b4943f24ca133cc98e447"), looks := false }, kinds := [], alts := [], laidByText := true, laidKinds := [.data], laidTests := true, laidLooks := .later }
def PoolNobodyCardSaid : Prop := Claim7.holds Tryd.pinned (.plain (OpenSpec.ofChange poolNobodySpec)) poolNobodyCard

/-- THE TIED CARD OF 'turnbucklelaw02.PoolLowest'. -/
def poolLowestCard : Claim7 := { stood := { row := poolLowestRow, standIns := [], harness := (true, "032c330a3fe532b7e062fff5f2e72bee34bd720c944b4943f24ca133cc98e447"), looks := false }, kinds := [], alts := [], laidByText := true, laidKinds := [.data], laidTests := true, laidLooks := .later }
def PoolLowestCardSaid : Prop := Claim7.holds Tryd.pinned (.plain (OpenSpec.ofChange poolLowestSpec)) poolLowestCard

/-- THE TIED CARD OF 'turnbucklelaw02.PoolCounts'. -/
def poolCountsCard : Claim7 := { stood := { row := poolCountsRow, standIns := [], harness := (true, "032c330a3fe532b7e062fff5f2e72bee34bd720c944b4943f24ca133cc98e447"), looks := false }, kinds := [], alts := [], laidByText := true, laidKinds := [.data], laidTests := true, laidLooks := .later }
def PoolCountsCardSaid : Prop := Claim7.holds Tryd.pinned (.plain (OpenSpec.ofChange poolCountsSpec)) poolCountsCard

/-- THE SECOND FORM's CARD OF 'turnbucklelaw02.PoolRuns'. -/
def poolRunsUptoCard : Claim7 := { stood := { row := poolRunsUptoRow, standIns := [], harness := (true, "032c330a3fe532b7e062fff5f2e72bee34bd720c944b4943f24ca133cc98e447"), looks := false }, kinds := [], alts := [], laidByText := true, laidKinds := [.data], laidTests := true, laidLooks := .later }
def PoolRunsUptoCardSaid : Prop := Claim7.holds Tryd.pinned (.plain (OpenSpec.upto poolRunsSpec)) poolRunsUptoCard

/-- THE SECOND FORM's CARD OF 'turnbucklelaw02.PoolPlays'. -/
def poolPlaysUptoCard : Claim7 := { stood := { row := poolPlaysUptoRow, standIns := [], harness := (true, "032c330a3fe532b7e062fff5f2e72bee34bd720c944b4943f24ca133cc98e447"), looks := false }, kinds := [], alts := [], laidByText := true, laidKinds := [.data], laidTests := true, laidLooks := .later }
def PoolPlaysUptoCardSaid : Prop := Claim7.holds Tryd.pinned (.plain (OpenSpec.upto poolPlaysSpec)) poolPlaysUptoCard

/-- THE SECOND FORM's CARD OF 'turnbucklelaw02.PoolOnce'. -/
def poolOnceUptoCard : Claim7 := { stood := { row := poolOnceUptoRow, standIns := [], harness := (true, "032c330a3fe532b7e062fff5f2e72bee34bd720c944b4943f24ca133cc98e447"), looks := false }, kinds := [], alts := [], laidByText := true, laidKinds := [.data], laidTests := true, laidLooks := .later }
def PoolOnceUptoCardSaid : Prop := Claim7.holds Tryd.pinned (.plain (OpenSpec.upto poolOnceSpec)) poolOnceUptoCard

/-- THE SECOND FORM's CARD OF 'turnbucklelaw02.PoolNobody'. -/
def poolNobodyUptoCard : Claim7 := { stood := { row := poolNobodyUptoRow, standIns := [], harness := (true, "032c330a3fe532b7e062fff5f2e72bee34bd720c944b4943f24ca133cc98e447"), looks := false }, kinds := [], alts := [], laidByText := true, laidKinds := [.data], laidTests := true, laidLooks := .later }
def PoolNobodyUptoCardSaid : Prop := Claim7.holds Tryd.pinned (.plain (OpenSpec.upto poolNobodySpec)) poolNobodyUptoCard

/-- THE SECOND FORM's CARD OF 'turnbucklelaw02.PoolLowest'. -/
def poolLowestUptoCard : Claim7 := { stood := { row := poolLowestUptoRow, standIns := [], harness := (true, "032c330a3fe532b7e062fff5f2e72bee34bd720c944b4943f24ca133cc98e447"), looks := false }, kinds := [], alts := [], laidByText := true, laidKinds := [.data], laidTests := true, laidLooks := .later }
def PoolLowestUptoCardSaid : Prop := Claim7.holds Tryd.pinned (.plain (OpenSpec.upto poolLowestSpec)) poolLowestUptoCard

/-- THE SECOND FORM's CARD OF 'turnbucklelaw02.PoolCounts'. -/
def poolCountsUptoCard : Claim7 := { stood := { row := poolCountsUptoRow, standIns := [], harness := (true, "032c330a3fe532b7e062fff5f2e72bee34bd720c944b4943f24ca133cc98e447"), looks := false }, kinds := [], alts := [], laidByText := true, laidKinds := [.data], laidTests := true, laidLooks := .later }
def PoolCountsUptoCardSaid : Prop := Claim7.holds Tryd.pinned (.plain (OpenSpec.upto poolCountsSpec)) poolCountsUptoCard
end Rows
end Go.Proofs.YtiamohjonljdnaaDoor
