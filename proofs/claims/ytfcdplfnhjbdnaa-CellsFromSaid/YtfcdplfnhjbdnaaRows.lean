/-
  No cell of these rows narrows 'for every input' (looked for: loops, veiled, ifaces, maps, wideKeys, modest, calm, conditions, laid).
  DERIVED. THE GIVEN ROWS OF THIS SEAT. 4 by the template 'for every input the law returns true; each argument reads behind the call as it read before'; 0 by the template 'total and deterministic' (their statements: YtfcdplfnhjbdnaaTotals.lean).
  GIVEN WITH THE SEED: the statements are not yours to turn. If you find one false, say at which input.
  Laid BY PROGRAM, IN A SANDBOX (cutbox-rows.mjs): the forced cells as the released guide's own fill.sh prints them over the translation 24f9a1cd730a7692… (all of the seat's roots in one cut). By AI agents, Wed Nov 11 2026. No macro, syntax, notation, axiom, sorry.
-/
import Derived.Test.YtfcdplfnhjbdnaaChecked
import GoSem.Claim
import GoSem.ClaimJoined
import GoSem.ClaimMapViews
import Derived.JoinedTies
import Derived.KernelRfl
namespace Go.Proofs.Ytfcdplfnhjbdnaa
/- THE CELL 'sum', in the pinned program and in every row, IS THE sha256 OF THE DUMP (.gsa) THAT YtfcdplfnhjbdnaaProg.lean LOADS. Nothing in Lean hashes anything: it is a label: what it is worth is what the hold of that sum in a sandbox is worth. -/
noncomputable def Try.pinned : Pinned := { name := "ytfcdplfnhjbdnaa", sum := "24f9a1cd730a76929243f8f8994ee51d7b30cf473c2566c637c9b3dd15f310f3", checked := Try.checked }
namespace Rows
def none {H : Type} : Left H := { results := [], args := [] }

/-- 'kissinggatelaw15.CellsPlays': WHATEVER THE INPUT: true; the input reads as it did. -/
def cellsPlaysSpec : ChangeSpec := { name := "cellsPlays", fn := fun _ => fun
  | [d1, d2, d3] => { results := [.lit (.bool true)], args := [d1, d2, d3] }
  | _ => none }
def cellsPlaysRow : OpenClaim := { program := "ytfcdplfnhjbdnaa", sum := "24f9a1cd730a76929243f8f8994ee51d7b30cf473c2566c637c9b3dd15f310f3", func := "kissinggate/kissinggatelaw15.CellsPlays", spec := "cellsPlays", unfollowed := true, recurses := true, apart := false }
def CellsPlaysSaid : Prop := cellsPlaysRow.holds Try.pinned (OpenSpec.ofChange cellsPlaysSpec)

/-- ITS FALSE NEIGHBOUR: 'it returns false'. Refute it at one input. -/
def cellsPlaysWrong : ChangeSpec := { name := "cellsPlays", fn := fun _ => fun
  | [d1, d2, d3] => { results := [.lit (.bool false)], args := [d1, d2, d3] }
  | _ => none }
def CellsPlaysWrongFalsely : Prop := cellsPlaysRow.holds Try.pinned (OpenSpec.ofChange cellsPlaysWrong)

/-- 'kissinggatelaw15.CellsStays': WHATEVER THE INPUT: true; the input reads as it did. -/
def cellsStaysSpec : ChangeSpec := { name := "cellsStays", fn := fun _ => fun
  | [d1, d2, d3] => { results := [.lit (.bool true)], args := [d1, d2, d3] }
  | _ => none }
def cellsStaysRow : OpenClaim := { program := "ytfcdplfnhjbdnaa", sum := "24f9a1cd730a76929243f8f8994ee51d7b30cf473c2566c637c9b3dd15f310f3", func := "kissinggate/kissinggatelaw15.CellsStays", spec := "cellsStays", unfollowed := true, recurses := true, apart := false }
def CellsStaysSaid : Prop := cellsStaysRow.holds Try.pinned (OpenSpec.ofChange cellsStaysSpec)

/-- ITS FALSE NEIGHBOUR: 'it returns false'. Refute it at one input. -/
def cellsStaysWrong : ChangeSpec := { name := "cellsStays", fn := fun _ => fun
  | [d1, d2, d3] => { results := [.lit (.bool false)], args := [d1, d2, d3] }
  | _ => none }
def CellsStaysWrongFalsely : Prop := cellsStaysRow.holds Try.pinned (OpenSpec.ofChange cellsStaysWrong)

/-- 'kissinggatelaw15.CellsTrim': WHATEVER THE INPUT: true; the input reads as it did. -/
def cellsTrimSpec : ChangeSpec := { name := "cellsTrim", fn := fun _ => fun
  | [d1, d2, d3, d4] => { results := [.lit (.bool true)], args := [d1, d2, d3, d4] }
  | _ => none }
def cellsTrimRow : OpenClaim := { program := "ytfcdplfnhjbdnaa", sum := "24f9a1cd730a76929243f8f8994ee51d7b30cf473c2566c637c9b3dd15f310f3", func := "kissinggate/kissinggatelaw15.CellsTrim", spec := "cellsTrim", unfollowed := true, recurses := true, apart := false }
def CellsTrimSaid : Prop := cellsTrimRow.holds Try.pinned (OpenSpec.ofChange cellsTrimSpec)

/-- ITS FALSE NEIGHBOUR: 'it returns false'. Refute it at one input. -/
def cellsTrimWrong : ChangeSpec := { name := "cellsTrim", fn := fun _ => fun
  | [d1, d2, d3, d4] => { results := [.lit (.bool false)], args := [d1, d2, d3, d4] }
  | _ => none }
def CellsTrimWrongFalsely : Prop := cellsTrimRow.holds Try.pinned (OpenSpec.ofChange cellsTrimWrong)

/-- 'kissinggatelaw15.CellsFrom': WHATEVER THE INPUT: true; the input reads as it did. -/
def cellsFromSpec : ChangeSpec := { name := "cellsFrom", fn := fun _ => fun
  | [d1, d2, d3] => { results := [.lit (.bool true)], args := [d1, d2, d3] }
  | _ => none }
def cellsFromRow : OpenClaim := { program := "ytfcdplfnhjbdnaa", sum := "24f9a1cd730a76929243f8f8994ee51d7b30cf473c2566c637c9b3dd15f310f3", func := "kissinggate/kissinggatelaw15.CellsFrom", spec := "cellsFrom", unfollowed := true, recurses := true, apart := false }
def CellsFromSaid : Prop := cellsFromRow.holds Try.pinned (OpenSpec.ofChange cellsFromSpec)

/-- ITS FALSE NEIGHBOUR: 'it returns false'. Refute it at one input. -/
def cellsFromWrong : ChangeSpec := { name := "cellsFrom", fn := fun _ => fun
  | [d1, d2, d3] => { results := [.lit (.bool false)], args := [d1, d2, d3] }
  | _ => none }
def CellsFromWrongFalsely : Prop := cellsFromRow.holds Try.pinned (OpenSpec.ofChange cellsFromWrong)

/- THE SECOND FORM. 'bulk': how many values and letters a reading holds, each counted each time it is reached (what is shared counts as often as it is met; a slice's spare places count too). A statement '..UptoSaid' is the law's where the arguments, and the package variables that the reading takes, are together of bulk at most 1048576: NARROWER than '..Said'. Prove '..Said' where nothing that the law and all that it calls make is longer than what came in: it says more and counts as full. Else prove '..UptoSaid'. A law counts once. -/
mutual
def uptoBulk {H : Type} : DataW H → Nat
  | .lit (.string bytes) => bytes.length + 1
  | .lit _ => 1
  | .nil => 1
  | .ptr d => uptoBulk d + 1
  | .slice elems spare => uptoBulkAll elems + uptoBulkAll spare + 1
  | .agg parts => uptoBulkAll parts + 1
  | .iface _ d => uptoBulk d + 1
  | .map entries => uptoBulkEntries entries + 1
  | .held _ => 1
def uptoBulkAll {H : Type} : List (DataW H) → Nat
  | [] => 0
  | d :: r => uptoBulk d + uptoBulkAll r
def uptoBulkEntries {H : Type} : List (Lit × DataW H) → Nat
  | [] => 0
  | x :: r => uptoBulkEntry x + uptoBulkEntries r
def uptoBulkEntry {H : Type} : Lit × DataW H → Nat
  | (.string bytes, d) => bytes.length + uptoBulk d + 1
  | (_, d) => uptoBulk d + 1
 end
def uptoSmall : (H : Type) → List (DataW H) → Bool := fun _ ds => decide (uptoBulkAll ds ≤ 1048576)
def OpenSpec.upto (s : _root_.Go.ChangeSpec) : _root_.Go.OpenSpec := { _root_.Go.OpenSpec.ofChange s with cond := some uptoSmall }

/-- 'kissinggatelaw15.CellsPlays', WHERE WHAT IT READS IS OF BULK AT MOST 1048576: true; the input reads as it did. -/
def cellsPlaysUptoRow : OpenClaim := { program := "ytfcdplfnhjbdnaa", sum := "24f9a1cd730a76929243f8f8994ee51d7b30cf473c2566c637c9b3dd15f310f3", func := "kissinggate/kissinggatelaw15.CellsPlays", spec := "cellsPlays", unfollowed := true, recurses := true, apart := false, narrowed := true }
def CellsPlaysUptoSaid : Prop := cellsPlaysUptoRow.holds Try.pinned (OpenSpec.upto cellsPlaysSpec)

/-- 'kissinggatelaw15.CellsStays', WHERE WHAT IT READS IS OF BULK AT MOST 1048576: true; the input reads as it did. -/
def cellsStaysUptoRow : OpenClaim := { program := "ytfcdplfnhjbdnaa", sum := "24f9a1cd730a76929243f8f8994ee51d7b30cf473c2566c637c9b3dd15f310f3", func := "kissinggate/kissinggatelaw15.CellsStays", spec := "cellsStays", unfollowed := true, recurses := true, apart := false, narrowed := true }
def CellsStaysUptoSaid : Prop := cellsStaysUptoRow.holds Try.pinned (OpenSpec.upto cellsStaysSpec)

/-- 'kissinggatelaw15.CellsTrim', WHERE WHAT IT READS IS OF BULK AT MOST 1048576: true; the input reads as it did. -/
def cellsTrimUptoRow : OpenClaim := { program := "ytfcdplfnhjbdnaa", sum := "24f9a1cd730a76929243f8f8994ee51d7b30cf473c2566c637c9b3dd15f310f3", func := "kissinggate/kissinggatelaw15.CellsTrim", spec := "cellsTrim", unfollowed := true, recurses := true, apart := false, narrowed := true }
def CellsTrimUptoSaid : Prop := cellsTrimUptoRow.holds Try.pinned (OpenSpec.upto cellsTrimSpec)

/-- 'kissinggatelaw15.CellsFrom', WHERE WHAT IT READS IS OF BULK AT MOST 1048576: true; the input reads as it did. -/
def cellsFromUptoRow : OpenClaim := { program := "ytfcdplfnhjbdnaa", sum := "24f9a1cd730a76929243f8f8994ee51d7b30cf473c2566c637c9b3dd15f310f3", func := "kissinggate/kissinggatelaw15.CellsFrom", spec := "cellsFrom", unfollowed := true, recurses := true, apart := false, narrowed := true }
def CellsFromUptoSaid : Prop := cellsFromUptoRow.holds Try.pinned (OpenSpec.upto cellsFromSpec)

end Rows
end Go.Proofs.Ytfcdplfnhjbdnaa
