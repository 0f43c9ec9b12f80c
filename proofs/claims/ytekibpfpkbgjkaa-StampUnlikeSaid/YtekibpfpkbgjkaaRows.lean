/-
  No cell of these rows narrows 'for every input' (looked for: loops, veiled, ifaces, maps, wideKeys, modest, calm, conditions, laid).
  DERIVED. THE GIVEN ROWS OF THIS SEAT. 3 by the template 'for every input the law returns true; each argument reads behind the call as it read before'; 0 by the template 'total and deterministic' (their statements: YtekibpfpkbgjkaaTotals.lean).
  GIVEN WITH THE SEED: the statements are not yours to turn. If you find one false, say at which input.
  Laid BY PROGRAM, IN A SANDBOX (cutbox-rows.mjs): the forced cells as the released guide's own fill.sh prints them over the translation 7a13bbec28901663… (all of the seat's roots in one cut). By AI agents, Wed Nov 11 2026. No macro, syntax, notation, axiom, sorry.
-/
import Derived.Test.YtekibpfpkbgjkaaChecked
import GoSem.Claim
import GoSem.ClaimJoined
import GoSem.ClaimMapViews
import Derived.JoinedTies
import Derived.KernelRfl
namespace Go.Proofs.Ytekibpfpkbgjkaa
/- THE CELL 'sum', in the pinned program and in every row, IS THE sha256 OF THE DUMP (.gsa) THAT YtekibpfpkbgjkaaProg.lean LOADS. Nothing in Lean hashes anything: it is a label: what it is worth is what the hold of that sum in a sandbox is worth. -/
noncomputable def Try.pinned : Pinned := { name := "ytekibpfpkbgjkaa", sum := "7a13bbec2890166355632c833538e18f2ddb43bc33c94d849d345a962b45f8c0", checked := Try.checked }
namespace Rows
def none {H : Type} : Left H := { results := [], args := [] }

/-- 'kissinggatelaw29.StampPlays': WHATEVER THE INPUT: true; the input reads as it did. -/
def stampPlaysSpec : ChangeSpec := { name := "stampPlays", fn := fun _ => fun
  | [d1, d2, d3] => { results := [.lit (.bool true)], args := [d1, d2, d3] }
  | _ => none }
def stampPlaysRow : OpenClaim := { program := "ytekibpfpkbgjkaa", sum := "7a13bbec2890166355632c833538e18f2ddb43bc33c94d849d345a962b45f8c0", func := "kissinggate/kissinggatelaw29.StampPlays", spec := "stampPlays", inPlace := ["sync/atomic.LoadInt64", "sync/atomic.CompareAndSwapInt64", "sync/atomic.AddInt64"], apart := false }
def StampPlaysSaid : Prop := stampPlaysRow.holds Try.pinned (OpenSpec.ofChange stampPlaysSpec)

/-- ITS FALSE NEIGHBOUR: 'it returns false'. Refute it at one input. -/
def stampPlaysWrong : ChangeSpec := { name := "stampPlays", fn := fun _ => fun
  | [d1, d2, d3] => { results := [.lit (.bool false)], args := [d1, d2, d3] }
  | _ => none }
def StampPlaysWrongFalsely : Prop := stampPlaysRow.holds Try.pinned (OpenSpec.ofChange stampPlaysWrong)

/-- 'kissinggatelaw29.StampUnlike': WHATEVER THE INPUT: true; the input reads as it did. -/
def stampUnlikeSpec : ChangeSpec := { name := "stampUnlike", fn := fun _ => fun
  | [d1, d2] => { results := [.lit (.bool true)], args := [d1, d2] }
  | _ => none }
def stampUnlikeRow : OpenClaim := { program := "ytekibpfpkbgjkaa", sum := "7a13bbec2890166355632c833538e18f2ddb43bc33c94d849d345a962b45f8c0", func := "kissinggate/kissinggatelaw29.StampUnlike", spec := "stampUnlike", inPlace := ["sync/atomic.LoadInt64", "sync/atomic.CompareAndSwapInt64", "sync/atomic.AddInt64"], apart := false }
def StampUnlikeSaid : Prop := stampUnlikeRow.holds Try.pinned (OpenSpec.ofChange stampUnlikeSpec)

/-- ITS FALSE NEIGHBOUR: 'it returns false'. Refute it at one input. -/
def stampUnlikeWrong : ChangeSpec := { name := "stampUnlike", fn := fun _ => fun
  | [d1, d2] => { results := [.lit (.bool false)], args := [d1, d2] }
  | _ => none }
def StampUnlikeWrongFalsely : Prop := stampUnlikeRow.holds Try.pinned (OpenSpec.ofChange stampUnlikeWrong)

/-- 'kissinggatelaw29.StampOf': WHATEVER THE INPUT: true; the input reads as it did. -/
def stampOfSpec : ChangeSpec := { name := "stampOf", fn := fun _ => fun
  | [d1, d2] => { results := [.lit (.bool true)], args := [d1, d2] }
  | _ => none }
def stampOfRow : OpenClaim := { program := "ytekibpfpkbgjkaa", sum := "7a13bbec2890166355632c833538e18f2ddb43bc33c94d849d345a962b45f8c0", func := "kissinggate/kissinggatelaw29.StampOf", spec := "stampOf", inPlace := ["sync/atomic.LoadInt64", "sync/atomic.CompareAndSwapInt64", "sync/atomic.AddInt64"], apart := false }
def StampOfSaid : Prop := stampOfRow.holds Try.pinned (OpenSpec.ofChange stampOfSpec)

/-- ITS FALSE NEIGHBOUR: 'it returns false'. Refute it at one input. -/
def stampOfWrong : ChangeSpec := { name := "stampOf", fn := fun _ => fun
  | [d1, d2] => { results := [.lit (.bool false)], args := [d1, d2] }
  | _ => none }
def StampOfWrongFalsely : Prop := stampOfRow.holds Try.pinned (OpenSpec.ofChange stampOfWrong)

/- THE SECOND FORM. 'bulk': how many values and letters a reading holds, each counted each time it is reached (what is shared counts as often as it is met; a slice's spare places count too). A statement '..UptoSaid' is the law's where the arguments, and the package variables that the reading takes, are together of bulk at most 1048576: NARROWER than '..Said'. Prove '..Said' where nothing that the law and all that it calls make is longer than what came in: it says more and counts as full. Else prove '..UptoSaid'. A law counts once. -/
mutual
def uptoBulk {H : Type} : DataW H → Nat
  | .lit (.string bytes) => bytes.length + 1
  | .lit _ => 1
  | .nil => 1
  | .ptr d => uptoBulk d + 1
  | .slice elems spare => uptoBulkAll elems + uptoBulkAll spare + 1
  | .agg parts => uptoBulkAll parts + 1
  | .iface _ d => uptoBulk d + 1
  | .map entries => uptoBulkEntries entries + 1
  | .held _ => 1
def uptoBulkAll {H : Type} : List (DataW H) → Nat
  | [] => 0
  | d :: r => uptoBulk d + uptoBulkAll r
def uptoBulkEntries {H : Type} : List (Lit × DataW H) → Nat
  | [] => 0
  | x :: r => uptoBulkEntry x + uptoBulkEntries r
def uptoBulkEntry {H : Type} : Lit × DataW H → Nat
  | (.string bytes, d) => bytes.length + uptoBulk d + 1
  | (_, d) => uptoBulk d + 1
 end
def uptoSmall : (H : Type) → List (DataW H) → Bool := fun _ ds => decide (uptoBulkAll ds ≤ 1048576)
def OpenSpec.upto (s : _root_.Go.ChangeSpec) : _root_.Go.OpenSpec := { _root_.Go.OpenSpec.ofChange s with cond := some uptoSmall }

/-- 'kissinggatelaw29.StampPlays', WHERE WHAT IT READS IS OF BULK AT MOST 1048576: true; the input reads as it did. -/
def stampPlaysUptoRow : OpenClaim := { program := "ytekibpfpkbgjkaa", sum := "7a13bbec2890166355632c833538e18f2ddb43bc33c94d849d345a962b45f8c0", func := "kissinggate/kissinggatelaw29.StampPlays", spec := "stampPlays", inPlace := ["sync/atomic.LoadInt64", "sync/atomic.CompareAndSwapInt64", "sync/atomic.AddInt64"], apart := false, narrowed := true }
def StampPlaysUptoSaid : Prop := stampPlaysUptoRow.holds Try.pinned (OpenSpec.upto stampPlaysSpec)

/-- 'kissinggatelaw29.StampUnlike', WHERE WHAT IT READS IS OF BULK AT MOST 1048576: true; the input reads as it did. -/
def stampUnlikeUptoRow : OpenClaim := { program := "ytekibpfpkbgjkaa", sum := "7a13bbec2890166355632c833538e18f2ddb43bc33c94d849d345a962b45f8c0", func := "kissinggate/kissinggatelaw29.StampUnlike", spec := "stampUnlike", inPlace := ["sync/atomic.LoadInt64", "sync/atomic.CompareAndSwapInt64", "sync/atomic.AddInt64"], apart := false, narrowed := true }
def StampUnlikeUptoSaid : Prop := stampUnlikeUptoRow.holds Try.pinned (OpenSpec.upto stampUnlikeSpec)

/-- 'kissinggatelaw29.StampOf', WHERE WHAT IT READS IS OF BULK AT MOST 1048576: true; the input reads as it did. -/
def stampOfUptoRow : OpenClaim := { program := "ytekibpfpkbgjkaa", sum := "7a13bbec2890166355632c833538e18f2ddb43bc33c94d849d345a962b45f8c0", func := "kissinggate/kissinggatelaw29.StampOf", spec := "stampOf", inPlace := ["sync/atomic.LoadInt64", "sync/atomic.CompareAndSwapInt64", "sync/atomic.AddInt64"], apart := false, narrowed := true }
def StampOfUptoSaid : Prop := stampOfUptoRow.holds Try.pinned (OpenSpec.upto stampOfSpec)

end Rows
end Go.Proofs.Ytekibpfpkbgjkaa
