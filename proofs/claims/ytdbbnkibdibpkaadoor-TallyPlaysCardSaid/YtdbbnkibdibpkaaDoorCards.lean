/-
  DERIVED. GIVEN WITH THE SEED: THE CARDS: each row of YtdbbnkibdibpkaaDoorRows.lean that lists a variable, with what it lists TIED to the program's text (the seventh form; the later family's looks); each row that meets fmt, with fmt's text TOLD by the authors' own Lean function (tested against real Go, not proved from fmt's source: count such statements apart). THE CARD IS WHAT COUNTS. Prove the row's statement (the work); the ties are given (YtdbbnkibdibpkaaDoorTie.lean); close each card by the builder's one call (the guide's Derived/Test/ToyasCard.lean, 'card_holds'). Laid BY PROGRAM, IN A SANDBOX (cutbox-door.mjs). By AI agents, Wed Nov 11 2026. No macro, syntax, notation, axiom, sorry.
-/
import Derived.Test.YtdbbnkibdibpkaaDoorRows
import GoSem.ClaimSeven
namespace Go.Proofs.YtdbbnkibdibpkaaDoor
namespace Rows

/-- THE TIED CARD OF 'kissinggatelaw38.TallyPlays'. -/
def tallyPlaysCard : Claim7 := { stood := { row := tallyPlaysRow, standIns := [], harness := (true, "2a0edc18becc8cbb4dd1196dee7e3cd9b8f96ecaa3862ba5c2faaa9331faf2b3"), looks := false }, kinds := [], alts := [], laidByText := true, laidKinds := [.data, .data, .data], laidTests := true, laidLooks := .later }
def TallyPlaysCardSaid : Prop := Claim7.holds Tryd.pinned (.plain (OpenSpec.ofChange tallyPlaysSpec)) tallyPlaysCard

/-- THE TIED CARD OF 'kissinggatelaw38.TallyHigh'. -/
def tallyHighCard : Claim7 := { stood := { row := tallyHighRow, standIns := [], harness := (true, "2a0edc18becc8cbb4dd1196dee7e3cd9b8f96ecaa3862ba5c2faaa9331faf2b3"), looks := false }, kinds := [], alts := [], laidByText := true, laidKinds := [.data, .data, .data], laidTests := true, laidLooks := .later }
def TallyHighCardSaid : Prop := Claim7.holds Tryd.pinned (.plain (OpenSpec.ofChange tallyHighSpec)) tallyHighCard

/-- THE TIED CARD OF 'kissinggatelaw38.TallyFlags'. -/
def tallyFlagsCard : Claim7 := { stood := { row := tallyFlagsRow, standIns := [], harness := (true, "2a0edc18becc8cbb4dd1196dee7e3cd9b8f96ecaa3862ba5c2faaa9331faf2b3"), looks := false }, kinds := [], alts := [], laidByText := true, laidKinds := [.data, .data, .data], laidTests := true, laidLooks := .later }
def TallyFlagsCardSaid : Prop := Claim7.holds Tryd.pinned (.plain (OpenSpec.ofChange tallyFlagsSpec)) tallyFlagsCard

/-- THE SECOND FORM's CARD OF 'kissinggatelaw38.TallyPlays'. -/
def tallyPlaysUptoCard : Claim7 := { stood := { row := tallyPlaysUptoRow, standIns := [], harness := (true, "2a0edc18becc8cbb4dd1196dee7e3cd9b8f96ecaa3862ba5c2faaa9331faf2b3"), looks := false }, kinds := [], alts := [], laidByText := true, laidKinds := [.data, .data, .data], laidTests := true, laidLooks := .later }
def TallyPlaysUptoCardSaid : Prop := Claim7.holds Tryd.pinned (.plain (OpenSpec.upto tallyPlaysSpec)) tallyPlaysUptoCard

/-- THE SECOND FORM's CARD OF 'kissinggatelaw38.TallyHigh'. -/
def tallyHighUptoCard : Claim7 := { stood := { row := tallyHighUptoRow, standIns := [], harness := (true, "2a0edc18becc8cbb4dd1196dee7e3cd9b8f96ecaa3862ba5c2faaa9331faf2b3"), looks := false }, kinds := [], alts := [], laidByText := true, laidKinds := [.data, .data, .data], laidTests := true, laidLooks := .later }
def TallyHighUptoCardSaid : Prop := Claim7.holds Tryd.pinned (.plain (OpenSpec.upto tallyHighSpec)) tallyHighUptoCard

/-- THE SECOND FORM's CARD OF 'kissinggatelaw38.TallyFlags'. -/
def tallyFlagsUptoCard : Claim7 := { stood := { row := tallyFlagsUptoRow, standIns := [], harness := (true, "2a0edc18becc8cbb4dd1196dee7e3cd9b8f96ecaa3862ba5c2faaa9331faf2b3"), looks := false }, kinds := [], alts := [], laidByText := true, laidKinds := [.data, .data, .data], laidTests := true, laidLooks := .later }
def TallyFlagsUptoCardSaid : Prop := Claim7.holds Tryd.pinned (.plain (OpenSpec.upto tallyFlagsSpec)) tallyFlagsUptoCard
end Rows
end Go.Proofs.YtdbbnkibdibpkaaDoor
