/-
  DERIVED. GIVEN WITH THE SEED: THE CARDS: each row of YtbggadhaaphmcaaDoorRows.lean that lists a variable, with what it lists TIED to the program's text (the seventh form; the later family's looks); each row that meets fmt, with fmt's text TOLD by the authors' own Lean function (tested against real Go, not proved from fmt's source: count such statements apart). THE CARD IS WHAT COUNTS. Prove the row's statement (the work); the ties are given (YtbggadhaaphmcaaDoorTie.lean); close each card by the builder's one call (the guide's Derived/Test/ToyasCard.lean, 'card_holds'). Laid BY PROGRAM, IN A SANDBOX (cutbox-door.mjs). By AI agents, Wed Nov 11 2026. No macro, syntax, notation, axiom, sorry.
-/
import Derived.Test.YtbggadhaaphmcaaDoorRows
import GoSem.ClaimSeven
namespace Go.Proofs.YtbggadhaaphmcaaDoor
namespace Rows

/-- THE TIED CARD OF 'kissinggatelaw20.PlanRuns'. -/
def planRunsCard : Claim7 := { stood := { row := planRunsRow, standIns := [], harness := (true, "c8f0aca86b986db056a2b61d99510b7f9a0ccc4e3517c7b7bc10091e03536893"), looks := true }, kinds := [], alts := [], laidByText := true, laidKinds := [.data, .data, .data, .sentinel, .sentinel], laidTests := true, laidLooks := .later }
def PlanRunsCardSaid : Prop := Claim7.holds Tryd.pinned (.plain (OpenSpec.ofChange planRunsSpec)) planRunsCard

/-- THE TIED CARD OF 'kissinggatelaw20.PlanNumbers'. -/
def planNumbersCard : Claim7 := { stood := { row := planNumbersRow, standIns := [], harness := (true, "c8f0aca86b986db056a2b61d99510b7f9a0ccc4e3517c7b7bc10091e03536893"), looks := true }, kinds := [], alts := [], laidByText := true, laidKinds := [.data, .data, .data, .sentinel, .sentinel], laidTests := true, laidLooks := .later }
def PlanNumbersCardSaid : Prop := Claim7.holds Tryd.pinned (.plain (OpenSpec.ofChange planNumbersSpec)) planNumbersCard

/-- THE TIED CARD OF 'kissinggatelaw20.PlanAborted'. -/
def planAbortedCard : Claim7 := { stood := { row := planAbortedRow, standIns := [], harness := (true, "c8f0aca86b986db056a2b61d99510b7f9a0ccc4e3517c7b7bc10091e03536893"), looks := true }, kinds := [], alts := [], laidByText := true, laidKinds := [.data, .data, .data, .sentinel, .sentinel], laidTests := true, laidLooks := .later }
def PlanAbortedCardSaid : Prop := Claim7.holds Tryd.pinned (.plain (OpenSpec.ofChange planAbortedSpec)) planAbortedCard

/-- THE TIED CARD OF 'kissinggatelaw37.BankPlans'. -/
def bankPlansCard : Claim7 := { stood := { row := bankPlansRow, standIns := [], harness := (true, "c8f0aca86b986db056a2b61d99510b7f9a0ccc4e3517c7b7bc10091e03536893"), looks := true }, kinds := [], alts := [], laidByText := true, laidKinds := [.data, .data, .data, .sentinel, .sentinel], laidTests := true, laidLooks := .later }
def BankPlansCardSaid : Prop := Claim7.holds Tryd.pinned (.plain (OpenSpec.ofChange bankPlansSpec)) bankPlansCard

/-- THE TIED CARD OF 'kissinggatelaw37.BankKeeps'. -/
def bankKeepsCard : Claim7 := { stood := { row := bankKeepsRow, standIns := [], harness := (true, "c8f0aca86b986db056a2b61d99510b7f9a0ccc4e3517c7b7bc10091e03536893"), looks := true }, kinds := [], alts := [], laidByText := true, laidKinds := [.data, .data, .data, .sentinel, .sentinel], laidTests := true, laidLooks := .later }
def BankKeepsCardSaid : Prop := Claim7.holds Tryd.pinned (.plain (OpenSpec.ofChange bankKeepsSpec)) bankKeepsCard

/-- THE TIED CARD OF 'kissinggatelaw37.BankBalances'. -/
def bankBalancesCard : Claim7 := { stood := { row := bankBalancesRow, standIns := [], harness := (true, "c8f0aca86b986db056a2b61d99510b7f9a0ccc4e3517c7b7bc10091e03536893"), looks := true }, kinds := [], alts := [], laidByText := true, laidKinds := [.data, .data, .data, .sentinel, .sentinel], laidTests := true, laidLooks := .later }
def BankBalancesCardSaid : Prop := Claim7.holds Tryd.pinned (.plain (OpenSpec.ofChange bankBalancesSpec)) bankBalancesCard

/-- THE TIED CARD OF 'kissinggatelaw23.SerialExplains'. -/
def serialExplainsCard : Claim7 := { stood := { row := serialExplainsRow, standIns := [], harness := (true, "c8f0aca86b986db056a2b61d99510b7f9a0ccc4e3517c7b7bc10091e03536893"), looks := true }, kinds := [], alts := [], laidByText := true, laidKinds := [.data, .data, .data, .sentinel, .sentinel], laidTests := true, laidLooks := .later }
def SerialExplainsCardSaid : Prop := Claim7.holds Tryd.pinned (.plain (OpenSpec.ofChange serialExplainsSpec)) serialExplainsCard

/-- THE TIED CARD OF 'kissinggatelaw23.SerialChecks'. -/
def serialChecksCard : Claim7 := { stood := { row := serialChecksRow, standIns := [], harness := (true, "c8f0aca86b986db056a2b61d99510b7f9a0ccc4e3517c7b7bc10091e03536893"), looks := true }, kinds := [], alts := [], laidByText := true, laidKinds := [.data, .data, .data, .sentinel, .sentinel], laidTests := true, laidLooks := .later }
def SerialChecksCardSaid : Prop := Claim7.holds Tryd.pinned (.plain (OpenSpec.ofChange serialChecksSpec)) serialChecksCard

/-- THE TIED CARD OF 'kissinggatelaw23.SerialMade'. -/
def serialMadeCard : Claim7 := { stood := { row := serialMadeRow, standIns := [], harness := (true, "c8f0aca86b986db056a2b61d99510b7f9a0ccc4e3517c7b7bc10091e03536893"), looks := true }, kinds := [], alts := [], laidByText := true, laidKinds := [.data, .data, .data, .sentinel, .sentinel], laidTests := true, laidLooks := .later }
def SerialMadeCardSaid : Prop := Claim7.holds Tryd.pinned (.plain (OpenSpec.ofChange serialMadeSpec)) serialMadeCard

/-- THE TIED CARD OF 'kissinggatelaw23.SerialReplays'. -/
def serialReplaysCard : Claim7 := { stood := { row := serialReplaysRow, standIns := [], harness := (true, "c8f0aca86b986db056a2b61d99510b7f9a0ccc4e3517c7b7bc10091e03536893"), looks := true }, kinds := [], alts := [], laidByText := true, laidKinds := [.data, .data, .data, .sentinel, .sentinel], laidTests := true, laidLooks := .later }
def SerialReplaysCardSaid : Prop := Claim7.holds Tryd.pinned (.plain (OpenSpec.ofChange serialReplaysSpec)) serialReplaysCard

/-- THE SECOND FORM's CARD OF 'kissinggatelaw20.PlanRuns'. -/
def planRunsUptoCard : Claim7 := { stood := { row := planRunsUptoRow, standIns := [], harness := (true, "c8f0aca86b986db056a2b61d99510b7f9a0ccc4e3517c7b7bc10091e03536893"), looks := true }, kinds := [], alts := [], laidByText := true, laidKinds := [.data, .data, .data, .sentinel, .sentinel], laidTests := true, laidLooks := .later }
def PlanRunsUptoCardSaid : Prop := Claim7.holds Tryd.pinned (.plain (OpenSpec.upto planRunsSpec)) planRunsUptoCard

/-- THE SECOND FORM's CARD OF 'kissinggatelaw20.PlanNumbers'. -/
def planNumbersUptoCard : Claim7 := { stood := { row := planNumbersUptoRow, standIns := [], harness := (true, "c8f0aca86b986db056a2b61d99510b7f9a0ccc4e3517c7b7bc10091e03536893"), looks := true }, kinds := [], alts := [], laidByText := true, laidKinds := [.data, .data, .data, .sentinel, .sentinel], laidTests := true, laidLooks := .later }
def PlanNumbersUptoCardSaid : Prop := Claim7.holds Tryd.pinned (.plain (OpenSpec.upto planNumbersSpec)) planNumbersUptoCard

/-- THE SECOND FORM's CARD OF 'kissinggatelaw20.PlanAborted'. -/
def planAbortedUptoCard : Claim7 := { stood := { row := planAbortedUptoRow, standIns := [], harness := (true, "c8f0aca86b986db056a2b61d99510b7f9a0ccc4e3517c7b7bc10091e03536893"), looks := true }, kinds := [], alts := [], laidByText := true, laidKinds := [.data, .data, .data, .sentinel, .sentinel], laidTests := true, laidLooks := .later }
def PlanAbortedUptoCardSaid : Prop := Claim7.holds Tryd.pinned (.plain (OpenSpec.upto planAbortedSpec)) planAbortedUptoCard

/-- THE SECOND FORM's CARD OF 'kissinggatelaw37.BankPlans'. -/
def bankPlansUptoCard : Claim7 := { stood := { row := bankPlansUptoRow, standIns := [], harness := (true, "c8f0aca86b986db056a2b61d99510b7f9a0ccc4e3517c7b7bc10091e03536893"), looks := true }, kinds := [], alts := [], laidByText := true, laidKinds := [.data, .data, .data, .sentinel, .sentinel], laidTests := true, laidLooks := .later }
def BankPlansUptoCardSaid : Prop := Claim7.holds Tryd.pinned (.plain (OpenSpec.upto bankPlansSpec)) bankPlansUptoCard

/-- THE SECOND FORM's CARD OF 'kissinggatelaw37.BankKeeps'. -/
def bankKeepsUptoCard : Claim7 := { stood := { row := bankKeepsUptoRow, standIns := [], harness := (true, "c8f0aca86b986db056a2b61d99510b7f9a0ccc4e3517c7b7bc10091e03536893"), looks := true }, kinds := [], alts := [], laidByText := true, laidKinds := [.data, .data, .data, .sentinel, .sentinel], laidTests := true, laidLooks := .later }
def BankKeepsUptoCardSaid : Prop := Claim7.holds Tryd.pinned (.plain (OpenSpec.upto bankKeepsSpec)) bankKeepsUptoCard

/-- THE SECOND FORM's CARD OF 'kissinggatelaw37.BankBalances'. -/
def bankBalancesUptoCard : Claim7 := { stood := { row := bankBalancesUptoRow, standIns := [], harness := (true, "c8f0aca86b986db056a2b61d99510b7f9a0ccc4e3517c7b7bc10091e03536893"), looks := true }, kinds := [], alts := [], laidByText := true, laidKinds := [.data, .data, .data, .sentinel, .sentinel], laidTests := true, laidLooks := .later }
def BankBalancesUptoCardSaid : Prop := Claim7.holds Tryd.pinned (.plain (OpenSpec.upto bankBalancesSpec)) bankBalancesUptoCard

/-- THE SECOND FORM's CARD OF 'kissinggatelaw23.SerialExplains'. -/
def serialExplainsUptoCard : Claim7 := { stood := { row := serialExplainsUptoRow, standIns := [], harness := (true, "c8f0aca86b986db056a2b61d99510b7f9a0ccc4e3517c7b7bc10091e03536893"), looks := true }, kinds := [], alts := [], laidByText := true, laidKinds := [.data, .data, .data, .sentinel, .sentinel], laidTests := true, laidLooks := .later }
def SerialExplainsUptoCardSaid : Prop := Claim7.holds Tryd.pinned (.plain (OpenSpec.upto serialExplainsSpec)) serialExplainsUptoCard

/-- THE SECOND FORM's CARD OF 'kissinggatelaw23.SerialChecks'. -/
def serialChecksUptoCard : Claim7 := { stood := { row := serialChecksUptoRow, standIns := [], harness := (true, "c8f0aca86b986db056a2b61d99510b7f9a0ccc4e3517c7b7bc10091e03536893"), looks := true }, kinds := [], alts := [], laidByText := true, laidKinds := [.data, .data, .data, .sentinel, .sentinel], laidTests := true, laidLooks := .later }
def SerialChecksUptoCardSaid : Prop := Claim7.holds Tryd.pinned (.plain (OpenSpec.upto serialChecksSpec)) serialChecksUptoCard

/-- THE SECOND FORM's CARD OF 'kissinggatelaw23.SerialMade'. -/
def serialMadeUptoCard : Claim7 := { stood := { row := serialMadeUptoRow, standIns := [], harness := (true, "c8f0aca86b986db056a2b61d99510b7f9a0ccc4e3517c7b7bc10091e03536893"), looks := true }, kinds := [], alts := [], laidByText := true, laidKinds := [.data, .data, .data, .sentinel, .sentinel], laidTests := true, laidLooks := .later }
def SerialMadeUptoCardSaid : Prop := Claim7.holds Tryd.pinned (.plain (OpenSpec.upto serialMadeSpec)) serialMadeUptoCard

/-- THE SECOND FORM's CARD OF 'kissinggatelaw23.SerialReplays'. -/
def serialReplaysUptoCard : Claim7 := { stood := { row := serialReplaysUptoRow, standIns := [], harness := (true, "c8f0aca86b986db056a2b61d99510b7f9a0ccc4e3517c7b7bc10091e03536893"), looks := true }, kinds := [], alts := [], laidByText := true, laidKinds := [.data, .data, .data, .sentinel, .sentinel], laidTests := true, laidLooks := .later }
def SerialReplaysUptoCardSaid : Prop := Claim7.holds Tryd.pinned (.plain (OpenSpec.upto serialReplaysSpec)) serialReplaysUptoCard
end Rows
end Go.Proofs.YtbggadhaaphmcaaDoor
