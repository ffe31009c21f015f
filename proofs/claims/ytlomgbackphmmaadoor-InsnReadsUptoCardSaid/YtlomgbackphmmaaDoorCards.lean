/-
  DERIVED. GIVEN WITH THE SEED: THE CARDS: each row of YtlomgbackphmmaaDoorRows.lean that lists a variable, with what it lists TIED to the program's text (the seventh form; the later family's looks); each row that meets fmt, with fmt's text TOLD by the authors' own Lean function (tested against real Go, not proved from fmt's source: count such statements apart). THE CARD IS WHAT COUNTS. Prove the row's statement (the work); the ties are given (YtlomgbackphmmaaDoorTie.lean); close each card by the builder's one call (the guide's Derived/Test/ToyasCard.lean, 'card_holds'). Laid BY PROGRAM, IN A SANDBOX (cutbox-door.mjs). By AI agents, Wed Nov 11 2026. No macro, syntax, notation, axiom, sorry.
-/
import Derived.Test.YtlomgbackphmmaaDoorRows
import GoSem.ClaimSeven
namespace Go.Proofs.YtlomgbackphmmaaDoor
namespace Rows

/-- THE TIED CARD OF 'turnbucklelaw06.InsnChecks'. -/
def insnChecksCard : Claim7 := { stood := { row := insnChecksRow, standIns := [], harness := (true, "bf96893554829ebf901e50793cef863f5f681881d84ef184b7ade5c110bf5afc"), looks := false }, kinds := [], alts := [], laidByText := true, laidKinds := [.data, .data, .data, .data, .pinned], laidTests := true, laidLooks := .later }
def InsnChecksCardSaid : Prop := Claim7.holds Tryd.pinned (.plain (OpenSpec.ofChange insnChecksSpec)) insnChecksCard

/-- THE TIED CARD OF 'turnbucklelaw06.InsnReads'. -/
def insnReadsCard : Claim7 := { stood := { row := insnReadsRow, standIns := [], harness := (true, "bf96893554829ebf901e50793cef863f5f681881d84ef184b7ade5c110bf5afc"), looks := false }, kinds := [], alts := [], laidByText := true, laidKinds := [.data, .data, .data, .data, .pinned], laidTests := true, laidLooks := .later }
def InsnReadsCardSaid : Prop := Claim7.holds Tryd.pinned (.plain (OpenSpec.ofChange insnReadsSpec)) insnReadsCard

/-- THE TIED CARD OF 'turnbucklelaw06.InsnApart'. -/
def insnApartCard : Claim7 := { stood := { row := insnApartRow, standIns := [], harness := (true, "bf96893554829ebf901e50793cef863f5f681881d84ef184b7ade5c110bf5afc"), looks := false }, kinds := [], alts := [], laidByText := true, laidKinds := [.data, .data, .data, .data, .pinned], laidTests := true, laidLooks := .later }
def InsnApartCardSaid : Prop := Claim7.holds Tryd.pinned (.plain (OpenSpec.ofChange insnApartSpec)) insnApartCard

/-- THE TIED CARD OF 'turnbucklelaw06.InsnBytes'. -/
def insnBytesCard : Claim7 := { stood := { row := insnBytesRow, standIns := [], harness := (true, "bf96893554829ebf901e50793cef863f5f681881d84ef184b7ade5c110bf5afc"), looks := false }, kinds := [], alts := [], laidByText := true, laidKinds := [.data, .data, .data, .data, .pinned], laidTests := true, laidLooks := .later }
def InsnBytesCardSaid : Prop := Claim7.holds Tryd.pinned (.plain (OpenSpec.ofChange insnBytesSpec)) insnBytesCard

/-- THE TIED CARD OF 'turnbucklelaw06.InsnBack'. -/
def insnBackCard : Claim7 := { stood := { row := insnBackRow, standIns := [], harness := (true, "bf96893554829ebf901e50793cef863f5f681881d84ef184b7ade5c110bf5afc"), looks := false }, kinds := [], alts := [], laidByText := true, laidKinds := [.data, .data, .data, .data, .pinned], laidTests := true, laidLooks := .later }
def InsnBackCardSaid : Prop := Claim7.holds Tryd.pinned (.plain (OpenSpec.ofChange insnBackSpec)) insnBackCard

/-- THE TIED CARD OF 'turnbucklelaw06.InsnJoins'. -/
def insnJoinsCard : Claim7 := { stood := { row := insnJoinsRow, standIns := [], harness := (true, "bf96893554829ebf901e50793cef863f5f681881d84ef184b7ade5c110bf5afc"), looks := false }, kinds := [], alts := [], laidByText := true, laidKinds := [.data, .data, .data, .data, .pinned], laidTests := true, laidLooks := .later }
def InsnJoinsCardSaid : Prop := Claim7.holds Tryd.pinned (.plain (OpenSpec.ofChange insnJoinsSpec)) insnJoinsCard

/-- THE TIED CARD OF 'turnbucklelaw06.InsnOnes'. -/
def insnOnesCard : Claim7 := { stood := { row := insnOnesRow, standIns := [], harness := (true, "bf96893554829ebf901e50793cef863f5f681881d84ef184b7ade5c110bf5afc"), looks := false }, kinds := [], alts := [], laidByText := true, laidKinds := [.data, .data, .data, .data, .pinned], laidTests := true, laidLooks := .later }
def InsnOnesCardSaid : Prop := Claim7.holds Tryd.pinned (.plain (OpenSpec.ofChange insnOnesSpec)) insnOnesCard

/-- THE SECOND FORM's CARD OF 'turnbucklelaw06.InsnChecks'. -/
def insnChecksUptoCard : Claim7 := { stood := { row := insnChecksUptoRow, standIns := [], harness := (true, "bf96893554829ebf901e50793cef863f5f681881d84ef184b7ade5c110bf5afc"), looks := false }, kinds := [], alts := [], laidByText := true, laidKinds := [.data, .data, .data, .data, .pinned], laidTests := true, laidLooks := .later }
def InsnChecksUptoCardSaid : Prop := Claim7.holds Tryd.pinned (.plain (OpenSpec.upto insnChecksSpec)) insnChecksUptoCard

/-- THE SECOND FORM's CARD OF 'turnbucklelaw06.InsnReads'. -/
def insnReadsUptoCard : Claim7 := { stood := { row := insnReadsUptoRow, standIns := [], harness := (true, "bf96893554829ebf901e50793cef863f5f681881d84ef184b7ade5c110bf5afc"), looks := false }, kinds := [], alts := [], laidByText := true, laidKinds := [.data, .data, .data, .data, .pinned], laidTests := true, laidLooks := .later }
def InsnReadsUptoCardSaid : Prop := Claim7.holds Tryd.pinned (.plain (OpenSpec.upto insnReadsSpec)) insnReadsUptoCard

/-- THE SECOND FORM's CARD OF 'turnbucklelaw06.InsnApart'. -/
def insnApartUptoCard : Claim7 := { stood := { row := insnApartUptoRow, standIns := [], harness := (true, "bf96893554829ebf901e50793cef863f5f681881d84ef184b7ade5c110bf5afc"), looks := false }, kinds := [], alts := [], laidByText := true, laidKinds := [.data, .data, .data, .data, .pinned], laidTests := true, laidLooks := .later }
def InsnApartUptoCardSaid : Prop := Claim7.holds Tryd.pinned (.plain (OpenSpec.upto insnApartSpec)) insnApartUptoCard

/-- THE SECOND FORM's CARD OF 'turnbucklelaw06.InsnBytes'. -/
def insnBytesUptoCard : Claim7 := { stood := { row := insnBytesUptoRow, standIns := [], harness := (true, "bf96893554829ebf901e50793cef863f5f681881d84ef184b7ade5c110bf5afc"), looks := false }, kinds := [], alts := [], laidByText := true, laidKinds := [.data, .data, .data, .data, .pinned], laidTests := true, laidLooks := .later }
def InsnBytesUptoCardSaid : Prop := Claim7.holds Tryd.pinned (.plain (OpenSpec.upto insnBytesSpec)) insnBytesUptoCard

/-- THE SECOND FORM's CARD OF 'turnbucklelaw06.InsnBack'. -/
def insnBackUptoCard : Claim7 := { stood := { row := insnBackUptoRow, standIns := [], harness := (true, "bf96893554829ebf901e50793cef863f5f681881d84ef184b7ade5c110bf5afc"), looks := false }, kinds := [], alts := [], laidByText := true, laidKinds := [.data, .data, .data, .data, .pinned], laidTests := true, laidLooks := .later }
def InsnBackUptoCardSaid : Prop := Claim7.holds Tryd.pinned (.plain (OpenSpec.upto insnBackSpec)) insnBackUptoCard

/-- THE SECOND FORM's CARD OF 'turnbucklelaw06.InsnJoins'. -/
def insnJoinsUptoCard : Claim7 := { stood := { row := insnJoinsUptoRow, standIns := [], harness := (true, "bf96893554829ebf901e50793cef863f5f681881d84ef184b7ade5c110bf5afc"), looks := false }, kinds := [], alts := [], laidByText := true, laidKinds := [.data, .data, .data, .data, .pinned], laidTests := true, laidLooks := .later }
def InsnJoinsUptoCardSaid : Prop := Claim7.holds Tryd.pinned (.plain (OpenSpec.upto insnJoinsSpec)) insnJoinsUptoCard

/-- THE SECOND FORM's CARD OF 'turnbucklelaw06.InsnOnes'. -/
def insnOnesUptoCard : Claim7 := { stood := { row := insnOnesUptoRow, standIns := [], harness := (true, "bf96893554829ebf901e50793cef863f5f681881d84ef184b7ade5c110bf5afc"), looks := false }, kinds := [], alts := [], laidByText := true, laidKinds := [.data, .data, .data, .data, .pinned], laidTests := true, laidLooks := .later }
def InsnOnesUptoCardSaid : Prop := Claim7.holds Tryd.pinned (.plain (OpenSpec.upto insnOnesSpec)) insnOnesUptoCard
end Rows
end Go.Proofs.YtlomgbackphmmaaDoor
