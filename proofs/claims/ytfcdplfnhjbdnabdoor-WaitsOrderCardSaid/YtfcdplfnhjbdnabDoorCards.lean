/-
  DERIVED. GIVEN WITH THE SEED: THE CARDS: each row of YtfcdplfnhjbdnabDoorRows.lean that lists a variable, with what it lists TIED to the program's text (the seventh form; the later family's looks); each row that meets fmt, with fmt's text TOLD by the authors' own Lean function (tested against real Go, not proved from fmt's source: count such statements apart). THE CARD IS WHAT COUNTS. Prove the row's statement (the work); the ties are given (YtfcdplfnhjbdnabDoorTie.lean); close each card by the builder's one call (the guide's Derived/Test/ToyasCard.lean, 'card_holds'). Laid BY PROGRAM, IN A SANDBOX (cutbox-door.mjs). By AI agents, Wed Nov 11 2026. No macro, syntax, notation, axiom, sorry.
-/
import Derived.Test.YtfcdplfnhjbdnabDoorRows
import GoSem.ClaimSeven
namespace Go.Proofs.YtfcdplfnhjbdnabDoor
namespace Rows

/-- THE TIED CARD OF 'kissinggatelaw13.WaitsCycle'. -/
def waitsCycleCard : Claim7 := { stood := { row := waitsCycleRow, standIns := [], harness := (true, "71b33a0b753cecd60e17af3f704f1329a20c89f2e2ae62eca5ac52a78033805b"), looks := false }, kinds := [], alts := [], laidByText := true, laidKinds := [.data], laidTests := true, laidLooks := .later }
def WaitsCycleCardSaid : Prop := Claim7.holds Tryd.pinned (.plain (OpenSpec.ofChange waitsCycleSpec)) waitsCycleCard

/-- THE TIED CARD OF 'kissinggatelaw13.WaitsBroken'. -/
def waitsBrokenCard : Claim7 := { stood := { row := waitsBrokenRow, standIns := [], harness := (true, "71b33a0b753cecd60e17af3f704f1329a20c89f2e2ae62eca5ac52a78033805b"), looks := false }, kinds := [], alts := [], laidByText := true, laidKinds := [.data], laidTests := true, laidLooks := .later }
def WaitsBrokenCardSaid : Prop := Claim7.holds Tryd.pinned (.plain (OpenSpec.ofChange waitsBrokenSpec)) waitsBrokenCard

/-- THE TIED CARD OF 'kissinggatelaw13.WaitsOrder'. -/
def waitsOrderCard : Claim7 := { stood := { row := waitsOrderRow, standIns := [], harness := (true, "71b33a0b753cecd60e17af3f704f1329a20c89f2e2ae62eca5ac52a78033805b"), looks := false }, kinds := [], alts := [], laidByText := true, laidKinds := [.data], laidTests := true, laidLooks := .later }
def WaitsOrderCardSaid : Prop := Claim7.holds Tryd.pinned (.plain (OpenSpec.ofChange waitsOrderSpec)) waitsOrderCard

/-- THE TIED CARD OF 'kissinggatelaw13.WaitsPlays'. -/
def waitsPlaysCard : Claim7 := { stood := { row := waitsPlaysRow, standIns := [], harness := (true, "71b33a0b753cecd60e17af3f704f1329a20c89f2e2ae62eca5ac52a78033805b"), looks := false }, kinds := [], alts := [], laidByText := true, laidKinds := [.data], laidTests := true, laidLooks := .later }
def WaitsPlaysCardSaid : Prop := Claim7.holds Tryd.pinned (.plain (OpenSpec.ofChange waitsPlaysSpec)) waitsPlaysCard

/-- THE SECOND FORM's CARD OF 'kissinggatelaw13.WaitsCycle'. -/
def waitsCycleUptoCard : Claim7 := { stood := { row := waitsCycleUptoRow, standIns := [], harness := (true, "71b33a0b753cecd60e17af3f704f1329a20c89f2e2ae62eca5ac52a78033805b"), looks := false }, kinds := [], alts := [], laidByText := true, laidKinds := [.data], laidTests := true, laidLooks := .later }
def WaitsCycleUptoCardSaid : Prop := Claim7.holds Tryd.pinned (.plain (OpenSpec.upto waitsCycleSpec)) waitsCycleUptoCard

/-- THE SECOND FORM's CARD OF 'kissinggatelaw13.WaitsBroken'. -/
def waitsBrokenUptoCard : Claim7 := { stood := { row := waitsBrokenUptoRow, standIns := [], harness := (true, "71b33a0b753cecd60e17af3f704f1329a20c89f2e2ae62eca5ac52a78033805b"), looks := false }, kinds := [], alts := [], laidByText := true, laidKinds := [.data], laidTests := true, laidLooks := .later }
def WaitsBrokenUptoCardSaid : Prop := Claim7.holds Tryd.pinned (.plain (OpenSpec.upto waitsBrokenSpec)) waitsBrokenUptoCard

/-- THE SECOND FORM's CARD OF 'kissinggatelaw13.WaitsOrder'. -/
def waitsOrderUptoCard : Claim7 := { stood := { row := waitsOrderUptoRow, standIns := [], harness := (true, "71b33a0b753cecd60e17af3f704f1329a20c89f2e2ae62eca5ac52a78033805b"), looks := false }, kinds := [], alts := [], laidByText := true, laidKinds := [.data], laidTests := true, laidLooks := .later }
def WaitsOrderUptoCardSaid : Prop := Claim7.holds Tryd.pinned (.plain (OpenSpec.upto waitsOrderSpec)) waitsOrderUptoCard

/-- THE SECOND FORM's CARD OF 'kissinggatelaw13.WaitsPlays'. -/
def waitsPlaysUptoCard : Claim7 := { stood := { row := waitsPlaysUptoRow, standIns := [], harness := (true, "71b33a0b753cecd60e17af3f704f1329a20c89f2e2ae62eca5ac52a78033805b"), looks := false }, kinds := [], alts := [], laidByText := true, laidKinds := [.data], laidTests := true, laidLooks := .later }
def WaitsPlaysUptoCardSaid : Prop := Claim7.holds Tryd.pinned (.plain (OpenSpec.upto waitsPlaysSpec)) waitsPlaysUptoCard
end Rows
end Go.Proofs.YtfcdplfnhjbdnabDoor
