/-
  DERIVED. GIVEN WITH THE SEED: THE CARDS: each row of YtbngmkopgoelbaaDoorRows.lean that lists a variable, with what it lists TIED to the program's text (the seventh form; the later family's looks); each row that meets fmt, with fmt's text TOLD by the authors' own Lean function (tested against real Go, not proved from fmt's source: count such statements apart). THE CARD IS WHAT COUNTS. Prove the row's statement (the work); the ties are given (YtbngmkopgoelbaaDoorTie.lean); close each card by the builder's one call (the guide's Derived/Test/ToyasCard.lean, 'card_holds'). Laid BY PROGRAM, IN A SANDBOX (cutbox-door.mjs). By AI agents, Wed Nov 11 2026. No macro, syntax, notation, axiom, sorry.
-/
import Derived.Test.YtbngmkopgoelbaaDoorRows
import GoSem.ClaimSeven
namespace Go.Proofs.YtbngmkopgoelbaaDoor
namespace Rows

/-- THE TIED CARD OF 'turnbucklelaw03.SlabClasses'. -/
def slabClassesCard : Claim7 := { stood := { row := slabClassesRow, standIns := [], harness := (true, "04ebc209109b2dc3fb02db5bd9f906fcd8c36b1aa652a63c19f8805eddd2a70c"), looks := false }, kinds := [], alts := [], laidByText := true, laidKinds := [.data], laidTests := true, laidLooks := .later }
def SlabClassesCardSaid : Prop := Claim7.holds Tryd.pinned (.plain (OpenSpec.ofChange slabClassesSpec)) slabClassesCard

/-- THE TIED CARD OF 'turnbucklelaw03.SlabLast'. -/
def slabLastCard : Claim7 := { stood := { row := slabLastRow, standIns := [], harness := (true, "04ebc209109b2dc3fb02db5bd9f906fcd8c36b1aa652a63c19f8805eddd2a70c"), looks := false }, kinds := [], alts := [], laidByText := true, laidKinds := [.data], laidTests := true, laidLooks := .later }
def SlabLastCardSaid : Prop := Claim7.holds Tryd.pinned (.plain (OpenSpec.ofChange slabLastSpec)) slabLastCard

/-- THE TIED CARD OF 'turnbucklelaw03.SlabApart'. -/
def slabApartCard : Claim7 := { stood := { row := slabApartRow, standIns := [], harness := (true, "04ebc209109b2dc3fb02db5bd9f906fcd8c36b1aa652a63c19f8805eddd2a70c"), looks := false }, kinds := [], alts := [], laidByText := true, laidKinds := [.data], laidTests := true, laidLooks := .later }
def SlabApartCardSaid : Prop := Claim7.holds Tryd.pinned (.plain (OpenSpec.ofChange slabApartSpec)) slabApartCard

/-- THE TIED CARD OF 'turnbucklelaw03.SlabEmpty'. -/
def slabEmptyCard : Claim7 := { stood := { row := slabEmptyRow, standIns := [], harness := (true, "04ebc209109b2dc3fb02db5bd9f906fcd8c36b1aa652a63c19f8805eddd2a70c"), looks := false }, kinds := [], alts := [], laidByText := true, laidKinds := [.data], laidTests := true, laidLooks := .later }
def SlabEmptyCardSaid : Prop := Claim7.holds Tryd.pinned (.plain (OpenSpec.ofChange slabEmptySpec)) slabEmptyCard

/-- THE TIED CARD OF 'turnbucklelaw03.SlabNobody'. -/
def slabNobodyCard : Claim7 := { stood := { row := slabNobodyRow, standIns := [], harness := (true, "04ebc209109b2dc3fb02db5bd9f906fcd8c36b1aa652a63c19f8805eddd2a70c"), looks := false }, kinds := [], alts := [], laidByText := true, laidKinds := [.data], laidTests := true, laidLooks := .later }
def SlabNobodyCardSaid : Prop := Claim7.holds Tryd.pinned (.plain (OpenSpec.ofChange slabNobodySpec)) slabNobodyCard

/-- THE TIED CARD OF 'turnbucklelaw03.SlabPlays'. -/
def slabPlaysCard : Claim7 := { stood := { row := slabPlaysRow, standIns := [], harness := (true, "04ebc209109b2dc3fb02db5bd9f906fcd8c36b1aa652a63c19f8805eddd2a70c"), looks := false }, kinds := [], alts := [], laidByText := true, laidKinds := [.data], laidTests := true, laidLooks := .later }
def SlabPlaysCardSaid : Prop := Claim7.holds Tryd.pinned (.plain (OpenSpec.ofChange slabPlaysSpec)) slabPlaysCard

/-- THE SECOND FORM's CARD OF 'turnbucklelaw03.SlabClasses'. -/
def slabClassesUptoCard : Claim7 := { stood := { row := slabClassesUptoRow, standIns := [], harness := (true, "04ebc209109b2dc3fb02db5bd9f906fcd8c36b1aa652a63c19f8805eddd2a70c"), looks := false }, kinds := [], alts := [], laidByText := true, laidKinds := [.data], laidTests := true, laidLooks := .later }
def SlabClassesUptoCardSaid : Prop := Claim7.holds Tryd.pinned (.plain (OpenSpec.upto slabClassesSpec)) slabClassesUptoCard

/-- THE SECOND FORM's CARD OF 'turnbucklelaw03.SlabLast'. -/
def slabLastUptoCard : Claim7 := { stood := { row := slabLastUptoRow, standIns := [], harness := (true, "04ebc209109b2dc3fb02db5bd9f906fcd8c36b1aa652a63c19f8805eddd2a70c"), looks := false }, kinds := [], alts := [], laidByText := true, laidKinds := [.data], laidTests := true, laidLooks := .later }
def SlabLastUptoCardSaid : Prop := Claim7.holds Tryd.pinned (.plain (OpenSpec.upto slabLastSpec)) slabLastUptoCard

/-- THE SECOND FORM's CARD OF 'turnbucklelaw03.SlabApart'. -/
def slabApartUptoCard : Claim7 := { stood := { row := slabApartUptoRow, standIns := [], harness := (true, "04ebc209109b2dc3fb02db5bd9f906fcd8c36b1aa652a63c19f8805eddd2a70c"), looks := false }, kinds := [], alts := [], laidByText := true, laidKinds := [.data], laidTests := true, laidLooks := .later }
def SlabApartUptoCardSaid : Prop := Claim7.holds Tryd.pinned (.plain (OpenSpec.upto slabApartSpec)) slabApartUptoCard

/-- THE SECOND FORM's CARD OF 'turnbucklelaw03.SlabEmpty'. -/
def slabEmptyUptoCard : Claim7 := { stood := { row := slabEmptyUptoRow, standIns := [], harness := (true, "04ebc209109b2dc3fb02db5bd9f906fcd8c36b1aa652a63c19f8805eddd2a70c"), looks := false }, kinds := [], alts := [], laidByText := true, laidKinds := [.data], laidTests := true, laidLooks := .later }
def SlabEmptyUptoCardSaid : Prop := Claim7.holds Tryd.pinned (.plain (OpenSpec.upto slabEmptySpec)) slabEmptyUptoCard

/-- THE SECOND FORM's CARD OF 'turnbucklelaw03.SlabNobody'. -/
def slabNobodyUptoCard : Claim7 := { stood := { row := slabNobodyUptoRow, standIns := [], harness := (true, "04ebc209109b2dc3fb02db5bd9f906fcd8c36b1aa652a63c19f8805eddd2a70c"), looks := false }, kinds := [], alts := [], laidByText := true, laidKinds := [.data], laidTests := true, laidLooks := .later }
def SlabNobodyUptoCardSaid : Prop := Claim7.holds Tryd.pinned (.plain (OpenSpec.upto slabNobodySpec)) slabNobodyUptoCard

/-- THE SECOND FORM's CARD OF 'turnbucklelaw03.SlabPlays'. -/
def slabPlaysUptoCard : Claim7 := { stood := { row := slabPlaysUptoRow, standIns := [], harness := (true, "04ebc209109b2dc3fb02db5bd9f906fcd8c36b1aa652a63c19f8805eddd2a70c"), looks := false }, kinds := [], alts := [], laidByText := true, laidKinds := [.data], laidTests := true, laidLooks := .later }
def SlabPlaysUptoCardSaid : Prop := Claim7.holds Tryd.pinned (.plain (OpenSpec.upto slabPlaysSpec)) slabPlaysUptoCard
end Rows
end Go.Proofs.YtbngmkopgoelbaaDoor
