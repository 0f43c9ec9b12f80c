/-
  No cell of these rows narrows 'for every input' (looked for: loops, veiled, ifaces, maps, wideKeys, modest, calm, conditions, laid).
  DERIVED. THE GIVEN ROWS OF THIS SEAT. 3 by the template 'for every input the law returns true; each argument reads behind the call as it read before'; 0 by the template 'total and deterministic' (their statements: YtdbbnkibdibpkabTotals.lean).
  GIVEN WITH THE SEED: the statements are not yours to turn. If you find one false, say at which input.
  Laid BY PROGRAM, IN A SANDBOX (cutbox-rows.mjs): the forced cells as the released guide's own fill.sh prints them over the translation c9f2805ffffceb36… (all of the seat's roots in one cut). By AI agents, Wed Nov 11 2026. No macro, syntax, notation, axiom, sorry.
-/
import Derived.Test.YtdbbnkibdibpkabChecked
import GoSem.Claim
import GoSem.ClaimJoined
import GoSem.ClaimMapViews
import Derived.JoinedTies
import Derived.KernelRfl
namespace Go.Proofs.Ytdbbnkibdibpkab
/- THE CELL 'sum', in the pinned program and in every row, IS THE sha256 OF THE DUMP (.gsa) THAT YtdbbnkibdibpkabProg.lean LOADS. Nothing in Lean hashes anything: it is a label: what it is worth is what the hold of that sum in a sandbox is worth. -/
noncomputable def Try.pinned : Pinned := { name := "ytdbbnkibdibpkab", sum := "c9f2805ffffceb36c2171875b2997070663754037d51a6a5a1a46733fd170269", checked := Try.checked }
namespace Rows
def none {H : Type} : Left H := { results := [], args := [] }

/-- 'kissinggatelaw31.ReadsPlays': WHATEVER THE INPUT: true; the input reads as it did. -/
def readsPlaysSpec : ChangeSpec := { name := "readsPlays", fn := fun _ => fun
  | [d1, d2, d3] => { results := [.lit (.bool true)], args := [d1, d2, d3] }
  | _ => none }
def readsPlaysRow : OpenClaim := { program := "ytdbbnkibdibpkab", sum := "c9f2805ffffceb36c2171875b2997070663754037d51a6a5a1a46733fd170269", func := "kissinggate/kissinggatelaw31.ReadsPlays", spec := "readsPlays", unfollowed := true, recurses := true, apart := false }
def ReadsPlaysSaid : Prop := readsPlaysRow.holds Try.pinned (OpenSpec.ofChange readsPlaysSpec)

/-- ITS FALSE NEIGHBOUR: 'it returns false'. Refute it at one input. -/
def readsPlaysWrong : ChangeSpec := { name := "readsPlays", fn := fun _ => fun
  | [d1, d2, d3] => { results := [.lit (.bool false)], args := [d1, d2, d3] }
  | _ => none }
def ReadsPlaysWrongFalsely : Prop := readsPlaysRow.holds Try.pinned (OpenSpec.ofChange readsPlaysWrong)

/-- 'kissinggatelaw31.ReadsFresh': WHATEVER THE INPUT: true; the input reads as it did. -/
def readsFreshSpec : ChangeSpec := { name := "readsFresh", fn := fun _ => fun
  | [d1, d2, d3] => { results := [.lit (.bool true)], args := [d1, d2, d3] }
  | _ => none }
def readsFreshRow : OpenClaim := { program := "ytdbbnkibdibpkab", sum := "c9f2805ffffceb36c2171875b2997070663754037d51a6a5a1a46733fd170269", func := "kissinggate/kissinggatelaw31.ReadsFresh", spec := "readsFresh", unfollowed := true, recurses := true, apart := false }
def ReadsFreshSaid : Prop := readsFreshRow.holds Try.pinned (OpenSpec.ofChange readsFreshSpec)

/-- ITS FALSE NEIGHBOUR: 'it returns false'. Refute it at one input. -/
def readsFreshWrong : ChangeSpec := { name := "readsFresh", fn := fun _ => fun
  | [d1, d2, d3] => { results := [.lit (.bool false)], args := [d1, d2, d3] }
  | _ => none }
def ReadsFreshWrongFalsely : Prop := readsFreshRow.holds Try.pinned (OpenSpec.ofChange readsFreshWrong)

/-- 'kissinggatelaw31.ReadsEnd': WHATEVER THE INPUT: true; the input reads as it did. -/
def readsEndSpec : ChangeSpec := { name := "readsEnd", fn := fun _ => fun
  | [d1, d2, d3] => { results := [.lit (.bool true)], args := [d1, d2, d3] }
  | _ => none }
def readsEndRow : OpenClaim := { program := "ytdbbnkibdibpkab", sum := "c9f2805ffffceb36c2171875b2997070663754037d51a6a5a1a46733fd170269", func := "kissinggate/kissinggatelaw31.ReadsEnd", spec := "readsEnd", unfollowed := true, recurses := true, apart := false }
def ReadsEndSaid : Prop := readsEndRow.holds Try.pinned (OpenSpec.ofChange readsEndSpec)

/-- ITS FALSE NEIGHBOUR: 'it returns false'. Refute it at one input. -/
def readsEndWrong : ChangeSpec := { name := "readsEnd", fn := fun _ => fun
  | [d1, d2, d3] => { results := [.lit (.bool false)], args := [d1, d2, d3] }
  | _ => none }
def ReadsEndWrongFalsely : Prop := readsEndRow.holds Try.pinned (OpenSpec.ofChange readsEndWrong)

/- THE SECOND FORM. 'bulk': how many values and letters a reading holds, each counted each time it is reached (what is shared counts as often as it is met; a slice's spare places count too). A statement '..UptoSaid' is the law's where the arguments, and the package variables that the reading takes, are together of bulk at most 1048576: NARROWER than '..Said'. Prove '..Said' where nothing that the law and all that it calls make is longer than what came in: it says more and counts as full. Else prove '..UptoSaid'. A law counts once. -/
mutual
def uptoBulk {H : Type} : DataW H → Nat
  | .lit (.string bytes) => bytes.length + 1
  | .lit _ => 1
  | .nil => 1
  | .ptr d => uptoBulk d + 1
  | .slice elems spare => uptoBulkAll elems + uptoBulkAll spare + 1
  | .agg parts => uptoBulkAll parts + 1
  | .iface _ d => uptoBulk d + 1
  | .map entries => uptoBulkEntries entries + 1
  | .held _ => 1
def uptoBulkAll {H : Type} : List (DataW H) → Nat
  | [] => 0
  | d :: r => uptoBulk d + uptoBulkAll r
def uptoBulkEntries {H : Type} : List (Lit × DataW H) → Nat
  | [] => 0
  | x :: r => uptoBulkEntry x + uptoBulkEntries r
def uptoBulkEntry {H : Type} : Lit × DataW H → Nat
  | (.string bytes, d) => bytes.length + uptoBulk d + 1
  | (_, d) => uptoBulk d + 1
 end
def uptoSmall : (H : Type) → List (DataW H) → Bool := fun _ ds => decide (uptoBulkAll ds ≤ 1048576)
def OpenSpec.upto (s : _root_.Go.ChangeSpec) : _root_.Go.OpenSpec := { _root_.Go.OpenSpec.ofChange s with cond := some uptoSmall }

/-- 'kissinggatelaw31.ReadsPlays', WHERE WHAT IT READS IS OF BULK AT MOST 1048576: true; the input reads as it did. -/
def readsPlaysUptoRow : OpenClaim := { program := "ytdbbnkibdibpkab", sum := "c9f2805ffffceb36c2171875b2997070663754037d51a6a5a1a46733fd170269", func := "kissinggate/kissinggatelaw31.ReadsPlays", spec := "readsPlays", unfollowed := true, recurses := true, apart := false, narrowed := true }
def ReadsPlaysUptoSaid : Prop := readsPlaysUptoRow.holds Try.pinned (OpenSpec.upto readsPlaysSpec)

/-- 'kissinggatelaw31.ReadsFresh', WHERE WHAT IT READS IS OF BULK AT MOST 1048576: true; the input reads as it did. -/
def readsFreshUptoRow : OpenClaim := { program := "ytdbbnkibdibpkab", sum := "c9f2805ffffceb36c2171875b2997070663754037d51a6a5a1a46733fd170269", func := "kissinggate/kissinggatelaw31.ReadsFresh", spec := "readsFresh", unfollowed := true, recurses := true, apart := false, narrowed := true }
def ReadsFreshUptoSaid : Prop := readsFreshUptoRow.holds Try.pinned (OpenSpec.upto readsFreshSpec)

/-- 'kissinggatelaw31.ReadsEnd', WHERE WHAT IT READS IS OF BULK AT MOST 1048576: true; the input reads as it did. -/
def readsEndUptoRow : OpenClaim := { program := "ytdbbnkibdibpkab", sum := "c9f2805ffffceb36c2171875b2997070663754037d51a6a5a1a46733fd170269", func := "kissinggate/kissinggatelaw31.ReadsEnd", spec := "readsEnd", unfollowed := true, recurses := true, apart := false, narrowed := true }
def ReadsEndUptoSaid : Prop := readsEndUptoRow.holds Try.pinned (OpenSpec.upto readsEndSpec)

end Rows
end Go.Proofs.Ytdbbnkibdibpkab
