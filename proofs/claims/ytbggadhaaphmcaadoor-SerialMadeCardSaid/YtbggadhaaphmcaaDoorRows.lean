/-
  NARROWER THAN 'FOR EVERY INPUT', by the rows' own cells (each row's printed sentence says how): PlanRuns: laid · PlanNumbers: laid · PlanAborted: laid · BankPlans: laid · BankKeeps: laid · BankBalances: laid · SerialExplains: laid · SerialChecks: laid · SerialMade: laid · SerialReplays: laid.
  DERIVED. THE GIVEN ROWS OF THIS SEAT. 10 by the template 'for every input the law returns true; each argument reads behind the call as it read before'; 0 by the template 'total and deterministic' (their statements: YtbggadhaaphmcaaDoorTotals.lean).
  GIVEN WITH THE SEED: the statements are not yours to turn. If you find one false, say at which input.
  Laid BY PROGRAM, IN A SANDBOX (cutbox-rows.mjs): the forced cells as the released guide's own fill.sh prints them over the translation 2cca5dff247e5762… (all of the seat's roots in one cut). By AI agents, Wed Nov 11 2026. No macro, syntax, notation, axiom, sorry.
-/
import Derived.Test.YtbggadhaaphmcaaDoorChecked
import GoSem.Claim
import GoSem.ClaimJoined
import GoSem.ClaimMapViews
import Derived.JoinedTies
import Derived.KernelRfl
namespace Go.Proofs.YtbggadhaaphmcaaDoor
/- THE CELL 'sum', in the pinned program and in every row, IS THE sha256 OF THE DUMP (.gsa) THAT YtbggadhaaphmcaaDoorProg.lean LOADS. Nothing in Lean hashes anything: it is a label: what it is worth is what the hold of that sum in a sandbox is worth. -/
noncomputable def Tryd.pinned : Pinned := { name := "ytbggadhaaphmcaadoor", sum := "2cca5dff247e5762a0a4d47a44d45607a2bb0516a3cbb97c78e6efff3e973dde", checked := Tryd.checked }
namespace Rows
def none {H : Type} : Left H := { results := [], args := [] }

/- WHAT THE LISTED PACKAGE-LEVEL VARIABLES READ AS WHEN THE CALL BEGINS. Each datum BY PROGRAM (the guide's laid-datum.mjs) off the statement by which the dump's own 'gosem.cut.vars' lays the variable. In a bare row this is a premise. The card (YtbggadhaaphmcaaDoorCards.lean) ties it to the program's text. -/
def laid_math_bits_deBruijn32tab {H : Type} : DataW H := .agg [.lit (.int .u8 0), .lit (.int .u8 1), .lit (.int .u8 28), .lit (.int .u8 2), .lit (.int .u8 29), .lit (.int .u8 14), .lit (.int .u8 24), .lit (.int .u8 3), .lit (.int .u8 30), .lit (.int .u8 22), .lit (.int .u8 20), .lit (.int .u8 15), .lit (.int .u8 25), .lit (.int .u8 17), .lit (.int .u8 4), .lit (.int .u8 8), .lit (.int .u8 31), .lit (.int .u8 27), .lit (.int .u8 13), .lit (.int .u8 23), .lit (.int .u8 21), .lit (.int .u8 19), .lit (.int .u8 16), .lit (.int .u8 7), .lit (.int .u8 26), .lit (.int .u8 12), .lit (.int .u8 18), .lit (.int .u8 6), .lit (.int .u8 11), .lit (.int .u8 5), .lit (.int .u8 10), .lit (.int .u8 9)]
def laid_math_bits_deBruijn64tab {H : Type} : DataW H := .agg [.lit (.int .u8 0), .lit (.int .u8 1), .lit (.int .u8 56), .lit (.int .u8 2), .lit (.int .u8 57), .lit (.int .u8 49), .lit (.int .u8 28), .lit (.int .u8 3), .lit (.int .u8 61), .lit (.int .u8 58), .lit (.int .u8 42), .lit (.int .u8 50), .lit (.int .u8 38), .lit (.int .u8 29), .lit (.int .u8 17), .lit (.int .u8 4), .lit (.int .u8 62), .lit (.int .u8 47), .lit (.int .u8 59), .lit (.int .u8 36), .lit (.int .u8 45), .lit (.int .u8 43), .lit (.int .u8 51), .lit (.int .u8 22), .lit (.int .u8 53), .lit (.int .u8 39), .lit (.int .u8 33), .lit (.int .u8 30), .lit (.int .u8 24), .lit (.int .u8 18), .lit (.int .u8 12), .lit (.int .u8 5), .lit (.int .u8 63), .lit (.int .u8 55), .lit (.int .u8 48), .lit (.int .u8 27), .lit (.int .u8 60), .lit (.int .u8 41), .lit (.int .u8 37), .lit (.int .u8 16), .lit (.int .u8 46), .lit (.int .u8 35), .lit (.int .u8 44), .lit (.int .u8 21), .lit (.int .u8 52), .lit (.int .u8 32), .lit (.int .u8 23), .lit (.int .u8 11), .lit (.int .u8 54), .lit (.int .u8 26), .lit (.int .u8 40), .lit (.int .u8 15), .lit (.int .u8 34), .lit (.int .u8 20), .lit (.int .u8 31), .lit (.int .u8 10), .lit (.int .u8 25), .lit (.int .u8 14), .lit (.int .u8 19), .lit (.int .u8 9), .lit (.int .u8 13), .lit (.int .u8 8), .lit (.int .u8 7), .lit (.int .u8 6)]
def laid_internal_strconv_uint64pow10 {H : Type} : DataW H := .agg [.lit (.int .u64 1), .lit (.int .u64 10), .lit (.int .u64 100), .lit (.int .u64 1000), .lit (.int .u64 10000), .lit (.int .u64 100000), .lit (.int .u64 1000000), .lit (.int .u64 10000000), .lit (.int .u64 100000000), .lit (.int .u64 1000000000), .lit (.int .u64 10000000000), .lit (.int .u64 100000000000), .lit (.int .u64 1000000000000), .lit (.int .u64 10000000000000), .lit (.int .u64 100000000000000), .lit (.int .u64 1000000000000000), .lit (.int .u64 10000000000000000), .lit (.int .u64 100000000000000000), .lit (.int .u64 1000000000000000000), .lit (.int .u64 10000000000000000000)]
def laid_strconv_ErrRange {H : Type} : DataW H := .iface "*errors.errorString" (.ptr (.agg [.lit (.string [118, 97, 108, 117, 101, 32, 111, 117, 116, 32, 111, 102, 32, 114, 97, 110, 103, 101])]))
def laid_strconv_ErrSyntax {H : Type} : DataW H := .iface "*errors.errorString" (.ptr (.agg [.lit (.string [105, 110, 118, 97, 108, 105, 100, 32, 115, 121, 110, 116, 97, 120])]))

/-- 'kissinggatelaw20.PlanRuns': WHATEVER THE INPUT: true; the input reads as it did. -/
def planRunsSpec : ChangeSpec := { name := "planRuns", fn := fun _ => fun
  | [d] => { results := [.lit (.bool true)], args := [d] }
  | _ => none }
def planRunsRow : OpenClaim := { program := "ytbggadhaaphmcaadoor", sum := "2cca5dff247e5762a0a4d47a44d45607a2bb0516a3cbb97c78e6efff3e973dde", func := "kissinggate/kissinggatelaw20.PlanRuns", spec := "planRuns", inPlace := ["maps.clone"], unfollowed := true, recurses := true, named := ["strconv.ErrSyntax", "strconv.ErrRange", "internal/strconv.uint64pow10", "math/bits.deBruijn32tab", "math/bits.deBruijn64tab"], plainKeys := false, apart := false, laid := [("math/bits.deBruijn32tab", laid_math_bits_deBruijn32tab), ("math/bits.deBruijn64tab", laid_math_bits_deBruijn64tab), ("internal/strconv.uint64pow10", laid_internal_strconv_uint64pow10), ("strconv.ErrRange", laid_strconv_ErrRange), ("strconv.ErrSyntax", laid_strconv_ErrSyntax)] }
def PlanRunsSaid : Prop := planRunsRow.holds Tryd.pinned (OpenSpec.ofChange planRunsSpec)

/-- ITS FALSE NEIGHBOUR: 'it returns false'. Refute it at one input. -/
def planRunsWrong : ChangeSpec := { name := "planRuns", fn := fun _ => fun
  | [d] => { results := [.lit (.bool false)], args := [d] }
  | _ => none }
def PlanRunsWrongFalsely : Prop := planRunsRow.holds Tryd.pinned (OpenSpec.ofChange planRunsWrong)

/-- 'kissinggatelaw20.PlanNumbers': WHATEVER THE INPUT: true; the input reads as it did. -/
def planNumbersSpec : ChangeSpec := { name := "planNumbers", fn := fun _ => fun
  | [d1, d2] => { results := [.lit (.bool true)], args := [d1, d2] }
  | _ => none }
def planNumbersRow : OpenClaim := { program := "ytbggadhaaphmcaadoor", sum := "2cca5dff247e5762a0a4d47a44d45607a2bb0516a3cbb97c78e6efff3e973dde", func := "kissinggate/kissinggatelaw20.PlanNumbers", spec := "planNumbers", inPlace := ["maps.clone"], unfollowed := true, recurses := true, named := ["strconv.ErrSyntax", "strconv.ErrRange", "internal/strconv.uint64pow10", "math/bits.deBruijn32tab", "math/bits.deBruijn64tab"], plainKeys := false, apart := false, laid := [("math/bits.deBruijn32tab", laid_math_bits_deBruijn32tab), ("math/bits.deBruijn64tab", laid_math_bits_deBruijn64tab), ("internal/strconv.uint64pow10", laid_internal_strconv_uint64pow10), ("strconv.ErrRange", laid_strconv_ErrRange), ("strconv.ErrSyntax", laid_strconv_ErrSyntax)] }
def PlanNumbersSaid : Prop := planNumbersRow.holds Tryd.pinned (OpenSpec.ofChange planNumbersSpec)

/-- ITS FALSE NEIGHBOUR: 'it returns false'. Refute it at one input. -/
def planNumbersWrong : ChangeSpec := { name := "planNumbers", fn := fun _ => fun
  | [d1, d2] => { results := [.lit (.bool false)], args := [d1, d2] }
  | _ => none }
def PlanNumbersWrongFalsely : Prop := planNumbersRow.holds Tryd.pinned (OpenSpec.ofChange planNumbersWrong)

/-- 'kissinggatelaw20.PlanAborted': WHATEVER THE INPUT: true; the input reads as it did. -/
def planAbortedSpec : ChangeSpec := { name := "planAborted", fn := fun _ => fun
  | [d1, d2, d3] => { results := [.lit (.bool true)], args := [d1, d2, d3] }
  | _ => none }
def planAbortedRow : OpenClaim := { program := "ytbggadhaaphmcaadoor", sum := "2cca5dff247e5762a0a4d47a44d45607a2bb0516a3cbb97c78e6efff3e973dde", func := "kissinggate/kissinggatelaw20.PlanAborted", spec := "planAborted", inPlace := ["maps.clone"], unfollowed := true, recurses := true, named := ["strconv.ErrSyntax", "strconv.ErrRange", "internal/strconv.uint64pow10", "math/bits.deBruijn32tab", "math/bits.deBruijn64tab"], plainKeys := false, apart := false, laid := [("math/bits.deBruijn32tab", laid_math_bits_deBruijn32tab), ("math/bits.deBruijn64tab", laid_math_bits_deBruijn64tab), ("internal/strconv.uint64pow10", laid_internal_strconv_uint64pow10), ("strconv.ErrRange", laid_strconv_ErrRange), ("strconv.ErrSyntax", laid_strconv_ErrSyntax)] }
def PlanAbortedSaid : Prop := planAbortedRow.holds Tryd.pinned (OpenSpec.ofChange planAbortedSpec)

/-- ITS FALSE NEIGHBOUR: 'it returns false'. Refute it at one input. -/
def planAbortedWrong : ChangeSpec := { name := "planAborted", fn := fun _ => fun
  | [d1, d2, d3] => { results := [.lit (.bool false)], args := [d1, d2, d3] }
  | _ => none }
def PlanAbortedWrongFalsely : Prop := planAbortedRow.holds Tryd.pinned (OpenSpec.ofChange planAbortedWrong)

/-- 'kissinggatelaw37.BankPlans': WHATEVER THE INPUT: true; the input reads as it did. -/
def bankPlansSpec : ChangeSpec := { name := "bankPlans", fn := fun _ => fun
  | [d1, d2, d3, d4] => { results := [.lit (.bool true)], args := [d1, d2, d3, d4] }
  | _ => none }
def bankPlansRow : OpenClaim := { program := "ytbggadhaaphmcaadoor", sum := "2cca5dff247e5762a0a4d47a44d45607a2bb0516a3cbb97c78e6efff3e973dde", func := "kissinggate/kissinggatelaw37.BankPlans", spec := "bankPlans", inPlace := ["maps.clone"], unfollowed := true, recurses := true, named := ["internal/strconv.uint64pow10", "math/bits.deBruijn32tab", "math/bits.deBruijn64tab", "strconv.ErrSyntax", "strconv.ErrRange"], plainKeys := false, apart := false, laid := [("math/bits.deBruijn32tab", laid_math_bits_deBruijn32tab), ("math/bits.deBruijn64tab", laid_math_bits_deBruijn64tab), ("internal/strconv.uint64pow10", laid_internal_strconv_uint64pow10), ("strconv.ErrRange", laid_strconv_ErrRange), ("strconv.ErrSyntax", laid_strconv_ErrSyntax)] }
def BankPlansSaid : Prop := bankPlansRow.holds Tryd.pinned (OpenSpec.ofChange bankPlansSpec)

/-- ITS FALSE NEIGHBOUR: 'it returns false'. Refute it at one input. -/
def bankPlansWrong : ChangeSpec := { name := "bankPlans", fn := fun _ => fun
  | [d1, d2, d3, d4] => { results := [.lit (.bool false)], args := [d1, d2, d3, d4] }
  | _ => none }
def BankPlansWrongFalsely : Prop := bankPlansRow.holds Tryd.pinned (OpenSpec.ofChange bankPlansWrong)

/-- 'kissinggatelaw37.BankKeeps': WHATEVER THE INPUT: true; the input reads as it did. -/
def bankKeepsSpec : ChangeSpec := { name := "bankKeeps", fn := fun _ => fun
  | [d1, d2, d3] => { results := [.lit (.bool true)], args := [d1, d2, d3] }
  | _ => none }
def bankKeepsRow : OpenClaim := { program := "ytbggadhaaphmcaadoor", sum := "2cca5dff247e5762a0a4d47a44d45607a2bb0516a3cbb97c78e6efff3e973dde", func := "kissinggate/kissinggatelaw37.BankKeeps", spec := "bankKeeps", inPlace := ["maps.clone"], unfollowed := true, recurses := true, named := ["internal/strconv.uint64pow10", "math/bits.deBruijn32tab", "math/bits.deBruijn64tab", "strconv.ErrSyntax", "strconv.ErrRange"], plainKeys := false, apart := false, laid := [("math/bits.deBruijn32tab", laid_math_bits_deBruijn32tab), ("math/bits.deBruijn64tab", laid_math_bits_deBruijn64tab), ("internal/strconv.uint64pow10", laid_internal_strconv_uint64pow10), ("strconv.ErrRange", laid_strconv_ErrRange), ("strconv.ErrSyntax", laid_strconv_ErrSyntax)] }
def BankKeepsSaid : Prop := bankKeepsRow.holds Tryd.pinned (OpenSpec.ofChange bankKeepsSpec)

/-- ITS FALSE NEIGHBOUR: 'it returns false'. Refute it at one input. -/
def bankKeepsWrong : ChangeSpec := { name := "bankKeeps", fn := fun _ => fun
  | [d1, d2, d3] => { results := [.lit (.bool false)], args := [d1, d2, d3] }
  | _ => none }
def BankKeepsWrongFalsely : Prop := bankKeepsRow.holds Tryd.pinned (OpenSpec.ofChange bankKeepsWrong)

/-- 'kissinggatelaw37.BankBalances': WHATEVER THE INPUT: true; the input reads as it did. -/
def bankBalancesSpec : ChangeSpec := { name := "bankBalances", fn := fun _ => fun
  | [d] => { results := [.lit (.bool true)], args := [d] }
  | _ => none }
def bankBalancesRow : OpenClaim := { program := "ytbggadhaaphmcaadoor", sum := "2cca5dff247e5762a0a4d47a44d45607a2bb0516a3cbb97c78e6efff3e973dde", func := "kissinggate/kissinggatelaw37.BankBalances", spec := "bankBalances", inPlace := ["maps.clone"], unfollowed := true, recurses := true, named := ["internal/strconv.uint64pow10", "math/bits.deBruijn32tab", "math/bits.deBruijn64tab", "strconv.ErrSyntax", "strconv.ErrRange"], plainKeys := false, apart := false, laid := [("math/bits.deBruijn32tab", laid_math_bits_deBruijn32tab), ("math/bits.deBruijn64tab", laid_math_bits_deBruijn64tab), ("internal/strconv.uint64pow10", laid_internal_strconv_uint64pow10), ("strconv.ErrRange", laid_strconv_ErrRange), ("strconv.ErrSyntax", laid_strconv_ErrSyntax)] }
def BankBalancesSaid : Prop := bankBalancesRow.holds Tryd.pinned (OpenSpec.ofChange bankBalancesSpec)

/-- ITS FALSE NEIGHBOUR: 'it returns false'. Refute it at one input. -/
def bankBalancesWrong : ChangeSpec := { name := "bankBalances", fn := fun _ => fun
  | [d] => { results := [.lit (.bool false)], args := [d] }
  | _ => none }
def BankBalancesWrongFalsely : Prop := bankBalancesRow.holds Tryd.pinned (OpenSpec.ofChange bankBalancesWrong)

/-- 'kissinggatelaw23.SerialExplains': WHATEVER THE INPUT: true; the input reads as it did. -/
def serialExplainsSpec : ChangeSpec := { name := "serialExplains", fn := fun _ => fun
  | [d] => { results := [.lit (.bool true)], args := [d] }
  | _ => none }
def serialExplainsRow : OpenClaim := { program := "ytbggadhaaphmcaadoor", sum := "2cca5dff247e5762a0a4d47a44d45607a2bb0516a3cbb97c78e6efff3e973dde", func := "kissinggate/kissinggatelaw23.SerialExplains", spec := "serialExplains", inPlace := ["maps.clone"], unfollowed := true, recurses := true, named := ["strconv.ErrSyntax", "strconv.ErrRange", "internal/strconv.uint64pow10", "math/bits.deBruijn32tab", "math/bits.deBruijn64tab"], plainKeys := false, apart := false, laid := [("math/bits.deBruijn32tab", laid_math_bits_deBruijn32tab), ("math/bits.deBruijn64tab", laid_math_bits_deBruijn64tab), ("internal/strconv.uint64pow10", laid_internal_strconv_uint64pow10), ("strconv.ErrRange", laid_strconv_ErrRange), ("strconv.ErrSyntax", laid_strconv_ErrSyntax)] }
def SerialExplainsSaid : Prop := serialExplainsRow.holds Tryd.pinned (OpenSpec.ofChange serialExplainsSpec)

/-- ITS FALSE NEIGHBOUR: 'it returns false'. Refute it at one input. -/
def serialExplainsWrong : ChangeSpec := { name := "serialExplains", fn := fun _ => fun
  | [d] => { results := [.lit (.bool false)], args := [d] }
  | _ => none }
def SerialExplainsWrongFalsely : Prop := serialExplainsRow.holds Tryd.pinned (OpenSpec.ofChange serialExplainsWrong)

/-- 'kissinggatelaw23.SerialChecks': WHATEVER THE INPUT: true; the input reads as it did. -/
def serialChecksSpec : ChangeSpec := { name := "serialChecks", fn := fun _ => fun
  | [d1, d2] => { results := [.lit (.bool true)], args := [d1, d2] }
  | _ => none }
def serialChecksRow : OpenClaim := { program := "ytbggadhaaphmcaadoor", sum := "2cca5dff247e5762a0a4d47a44d45607a2bb0516a3cbb97c78e6efff3e973dde", func := "kissinggate/kissinggatelaw23.SerialChecks", spec := "serialChecks", inPlace := ["maps.clone"], unfollowed := true, recurses := true, named := ["strconv.ErrSyntax", "strconv.ErrRange", "internal/strconv.uint64pow10", "math/bits.deBruijn32tab", "math/bits.deBruijn64tab"], plainKeys := false, apart := false, laid := [("math/bits.deBruijn32tab", laid_math_bits_deBruijn32tab), ("math/bits.deBruijn64tab", laid_math_bits_deBruijn64tab), ("internal/strconv.uint64pow10", laid_internal_strconv_uint64pow10), ("strconv.ErrRange", laid_strconv_ErrRange), ("strconv.ErrSyntax", laid_strconv_ErrSyntax)] }
def SerialChecksSaid : Prop := serialChecksRow.holds Tryd.pinned (OpenSpec.ofChange serialChecksSpec)

/-- ITS FALSE NEIGHBOUR: 'it returns false'. Refute it at one input. -/
def serialChecksWrong : ChangeSpec := { name := "serialChecks", fn := fun _ => fun
  | [d1, d2] => { results := [.lit (.bool false)], args := [d1, d2] }
  | _ => none }
def SerialChecksWrongFalsely : Prop := serialChecksRow.holds Tryd.pinned (OpenSpec.ofChange serialChecksWrong)

/-- 'kissinggatelaw23.SerialMade': WHATEVER THE INPUT: true; the input reads as it did. -/
def serialMadeSpec : ChangeSpec := { name := "serialMade", fn := fun _ => fun
  | [d] => { results := [.lit (.bool true)], args := [d] }
  | _ => none }
def serialMadeRow : OpenClaim := { program := "ytbggadhaaphmcaadoor", sum := "2cca5dff247e5762a0a4d47a44d45607a2bb0516a3cbb97c78e6efff3e973dde", func := "kissinggate/kissinggatelaw23.SerialMade", spec := "serialMade", inPlace := ["maps.clone"], unfollowed := true, recurses := true, named := ["strconv.ErrSyntax", "strconv.ErrRange", "internal/strconv.uint64pow10", "math/bits.deBruijn32tab", "math/bits.deBruijn64tab"], plainKeys := false, apart := false, laid := [("math/bits.deBruijn32tab", laid_math_bits_deBruijn32tab), ("math/bits.deBruijn64tab", laid_math_bits_deBruijn64tab), ("internal/strconv.uint64pow10", laid_internal_strconv_uint64pow10), ("strconv.ErrRange", laid_strconv_ErrRange), ("strconv.ErrSyntax", laid_strconv_ErrSyntax)] }
def SerialMadeSaid : Prop := serialMadeRow.holds Tryd.pinned (OpenSpec.ofChange serialMadeSpec)

/-- ITS FALSE NEIGHBOUR: 'it returns false'. Refute it at one input. -/
def serialMadeWrong : ChangeSpec := { name := "serialMade", fn := fun _ => fun
  | [d] => { results := [.lit (.bool false)], args := [d] }
  | _ => none }
def SerialMadeWrongFalsely : Prop := serialMadeRow.holds Tryd.pinned (OpenSpec.ofChange serialMadeWrong)

/-- 'kissinggatelaw23.SerialReplays': WHATEVER THE INPUT: true; the input reads as it did. -/
def serialReplaysSpec : ChangeSpec := { name := "serialReplays", fn := fun _ => fun
  | [d] => { results := [.lit (.bool true)], args := [d] }
  | _ => none }
def serialReplaysRow : OpenClaim := { program := "ytbggadhaaphmcaadoor", sum := "2cca5dff247e5762a0a4d47a44d45607a2bb0516a3cbb97c78e6efff3e973dde", func := "kissinggate/kissinggatelaw23.SerialReplays", spec := "serialReplays", inPlace := ["maps.clone"], unfollowed := true, recurses := true, named := ["strconv.ErrSyntax", "strconv.ErrRange", "internal/strconv.uint64pow10", "math/bits.deBruijn32tab", "math/bits.deBruijn64tab"], plainKeys := false, apart := false, laid := [("math/bits.deBruijn32tab", laid_math_bits_deBruijn32tab), ("math/bits.deBruijn64tab", laid_math_bits_deBruijn64tab), ("internal/strconv.uint64pow10", laid_internal_strconv_uint64pow10), ("strconv.ErrRange", laid_strconv_ErrRange), ("strconv.ErrSyntax", laid_strconv_ErrSyntax)] }
def SerialReplaysSaid : Prop := serialReplaysRow.holds Tryd.pinned (OpenSpec.ofChange serialReplaysSpec)

/-- ITS FALSE NEIGHBOUR: 'it returns false'. Refute it at one input. -/
def serialReplaysWrong : ChangeSpec := { name := "serialReplays", fn := fun _ => fun
  | [d] => { results := [.lit (.bool false)], args := [d] }
  | _ => none }
def SerialReplaysWrongFalsely : Prop := serialReplaysRow.holds Tryd.pinned (OpenSpec.ofChange serialReplaysWrong)

/- THE SECOND FORM. 'bulk': how many values and letters a reading holds, each counted each time it is reached (what is shared counts as often as it is met; a slice's spare places count too). A statement '..UptoSaid' is the law's where the arguments, and the package variables that the reading takes, are together of bulk at most 1048576: NARROWER than '..Said'. Prove '..Said' where nothing that the law and all that it calls make is longer than what came in: it says more and counts as full. Else prove '..UptoSaid'. A law counts once. -/
mutual
def uptoBulk {H : Type} : DataW H → Nat
  | .lit (.string bytes) => bytes.length + 1
  | .lit _ => 1
  | .nil => 1
  | .ptr d => uptoBulk d + 1
  | .slice elems spare => uptoBulkAll elems + uptoBulkAll spare + 1
  | .agg parts => uptoBulkAll parts + 1
  | .iface _ d => uptoBulk d + 1
  | .map entries => uptoBulkEntries entries + 1
  | .held _ => 1
def uptoBulkAll {H : Type} : List (DataW H) → Nat
  | [] => 0
  | d :: r => uptoBulk d + uptoBulkAll r
def uptoBulkEntries {H : Type} : List (Lit × DataW H) → Nat
  | [] => 0
  | x :: r => uptoBulkEntry x + uptoBulkEntries r
def uptoBulkEntry {H : Type} : Lit × DataW H → Nat
  | (.string bytes, d) => bytes.length + uptoBulk d + 1
  | (_, d) => uptoBulk d + 1
 end
def uptoSmall : (H : Type) → List (DataW H) → Bool := fun _ ds => decide (uptoBulkAll ds ≤ 1048576)
def OpenSpec.upto (s : _root_.Go.ChangeSpec) : _root_.Go.OpenSpec := { _root_.Go.OpenSpec.ofChange s with cond := some uptoSmall }

/-- 'kissinggatelaw20.PlanRuns', WHERE WHAT IT READS IS OF BULK AT MOST 1048576: true; the input reads as it did. -/
def planRunsUptoRow : OpenClaim := { program := "ytbggadhaaphmcaadoor", sum := "2cca5dff247e5762a0a4d47a44d45607a2bb0516a3cbb97c78e6efff3e973dde", func := "kissinggate/kissinggatelaw20.PlanRuns", spec := "planRuns", inPlace := ["maps.clone"], unfollowed := true, recurses := true, named := ["strconv.ErrSyntax", "strconv.ErrRange", "internal/strconv.uint64pow10", "math/bits.deBruijn32tab", "math/bits.deBruijn64tab"], plainKeys := false, apart := false, laid := [("math/bits.deBruijn32tab", laid_math_bits_deBruijn32tab), ("math/bits.deBruijn64tab", laid_math_bits_deBruijn64tab), ("internal/strconv.uint64pow10", laid_internal_strconv_uint64pow10), ("strconv.ErrRange", laid_strconv_ErrRange), ("strconv.ErrSyntax", laid_strconv_ErrSyntax)], narrowed := true }
def PlanRunsUptoSaid : Prop := planRunsUptoRow.holds Tryd.pinned (OpenSpec.upto planRunsSpec)

/-- 'kissinggatelaw20.PlanNumbers', WHERE WHAT IT READS IS OF BULK AT MOST 1048576: true; the input reads as it did. -/
def planNumbersUptoRow : OpenClaim := { program := "ytbggadhaaphmcaadoor", sum := "2cca5dff247e5762a0a4d47a44d45607a2bb0516a3cbb97c78e6efff3e973dde", func := "kissinggate/kissinggatelaw20.PlanNumbers", spec := "planNumbers", inPlace := ["maps.clone"], unfollowed := true, recurses := true, named := ["strconv.ErrSyntax", "strconv.ErrRange", "internal/strconv.uint64pow10", "math/bits.deBruijn32tab", "math/bits.deBruijn64tab"], plainKeys := false, apart := false, laid := [("math/bits.deBruijn32tab", laid_math_bits_deBruijn32tab), ("math/bits.deBruijn64tab", laid_math_bits_deBruijn64tab), ("internal/strconv.uint64pow10", laid_internal_strconv_uint64pow10), ("strconv.ErrRange", laid_strconv_ErrRange), ("strconv.ErrSyntax", laid_strconv_ErrSyntax)], narrowed := true }
def PlanNumbersUptoSaid : Prop := planNumbersUptoRow.holds Tryd.pinned (OpenSpec.upto planNumbersSpec)

/-- 'kissinggatelaw20.PlanAborted', WHERE WHAT IT READS IS OF BULK AT MOST 1048576: true; the input reads as it did. -/
def planAbortedUptoRow : OpenClaim := { program := "ytbggadhaaphmcaadoor", sum := "2cca5dff247e5762a0a4d47a44d45607a2bb0516a3cbb97c78e6efff3e973dde", func := "kissinggate/kissinggatelaw20.PlanAborted", spec := "planAborted", inPlace := ["maps.clone"], unfollowed := true, recurses := true, named := ["strconv.ErrSyntax", "strconv.ErrRange", "internal/strconv.uint64pow10", "math/bits.deBruijn32tab", "math/bits.deBruijn64tab"], plainKeys := false, apart := false, laid := [("math/bits.deBruijn32tab", laid_math_bits_deBruijn32tab), ("math/bits.deBruijn64tab", laid_math_bits_deBruijn64tab), ("internal/strconv.uint64pow10", laid_internal_strconv_uint64pow10), ("strconv.ErrRange", laid_strconv_ErrRange), ("strconv.ErrSyntax", laid_strconv_ErrSyntax)], narrowed := true }
def PlanAbortedUptoSaid : Prop := planAbortedUptoRow.holds Tryd.pinned (OpenSpec.upto planAbortedSpec)

/-- 'kissinggatelaw37.BankPlans', WHERE WHAT IT READS IS OF BULK AT MOST 1048576: true; the input reads as it did. -/
def bankPlansUptoRow : OpenClaim := { program := "ytbggadhaaphmcaadoor", sum := "2cca5dff247e5762a0a4d47a44d45607a2bb0516a3cbb97c78e6efff3e973dde", func := "kissinggate/kissinggatelaw37.BankPlans", spec := "bankPlans", inPlace := ["maps.clone"], unfollowed := true, recurses := true, named := ["internal/strconv.uint64pow10", "math/bits.deBruijn32tab", "math/bits.deBruijn64tab", "strconv.ErrSyntax", "strconv.ErrRange"], plainKeys := false, apart := false, laid := [("math/bits.deBruijn32tab", laid_math_bits_deBruijn32tab), ("math/bits.deBruijn64tab", laid_math_bits_deBruijn64tab), ("internal/strconv.uint64pow10", laid_internal_strconv_uint64pow10), ("strconv.ErrRange", laid_strconv_ErrRange), ("strconv.ErrSyntax", laid_strconv_ErrSyntax)], narrowed := true }
def BankPlansUptoSaid : Prop := bankPlansUptoRow.holds Tryd.pinned (OpenSpec.upto bankPlansSpec)

/-- 'kissinggatelaw37.BankKeeps', WHERE WHAT IT READS IS OF BULK AT MOST 1048576: true; the input reads as it did. -/
def bankKeepsUptoRow : OpenClaim := { program := "ytbggadhaaphmcaadoor", sum := "2cca5dff247e5762a0a4d47a44d45607a2bb0516a3cbb97c78e6efff3e973dde", func := "kissinggate/kissinggatelaw37.BankKeeps", spec := "bankKeeps", inPlace := ["maps.clone"], unfollowed := true, recurses := true, named := ["internal/strconv.uint64pow10", "math/bits.deBruijn32tab", "math/bits.deBruijn64tab", "strconv.ErrSyntax", "strconv.ErrRange"], plainKeys := false, apart := false, laid := [("math/bits.deBruijn32tab", laid_math_bits_deBruijn32tab), ("math/bits.deBruijn64tab", laid_math_bits_deBruijn64tab), ("internal/strconv.uint64pow10", laid_internal_strconv_uint64pow10), ("strconv.ErrRange", laid_strconv_ErrRange), ("strconv.ErrSyntax", laid_strconv_ErrSyntax)], narrowed := true }
def BankKeepsUptoSaid : Prop := bankKeepsUptoRow.holds Tryd.pinned (OpenSpec.upto bankKeepsSpec)

/-- 'kissinggatelaw37.BankBalances', WHERE WHAT IT READS IS OF BULK AT MOST 1048576: true; the input reads as it did. -/
def bankBalancesUptoRow : OpenClaim := { program := "ytbggadhaaphmcaadoor", sum := "2cca5dff247e5762a0a4d47a44d45607a2bb0516a3cbb97c78e6efff3e973dde", func := "kissinggate/kissinggatelaw37.BankBalances", spec := "bankBalances", inPlace := ["maps.clone"], unfollowed := true, recurses := true, named := ["internal/strconv.uint64pow10", "math/bits.deBruijn32tab", "math/bits.deBruijn64tab", "strconv.ErrSyntax", "strconv.ErrRange"], plainKeys := false, apart := false, laid := [("math/bits.deBruijn32tab", laid_math_bits_deBruijn32tab), ("math/bits.deBruijn64tab", laid_math_bits_deBruijn64tab), ("internal/strconv.uint64pow10", laid_internal_strconv_uint64pow10), ("strconv.ErrRange", laid_strconv_ErrRange), ("strconv.ErrSyntax", laid_strconv_ErrSyntax)], narrowed := true }
def BankBalancesUptoSaid : Prop := bankBalancesUptoRow.holds Tryd.pinned (OpenSpec.upto bankBalancesSpec)

/-- 'kissinggatelaw23.SerialExplains', WHERE WHAT IT READS IS OF BULK AT MOST 1048576: true; the input reads as it did. -/
def serialExplainsUptoRow : OpenClaim := { program := "ytbggadhaaphmcaadoor", sum := "2cca5dff247e5762a0a4d47a44d45607a2bb0516a3cbb97c78e6efff3e973dde", func := "kissinggate/kissinggatelaw23.SerialExplains", spec := "serialExplains", inPlace := ["maps.clone"], unfollowed := true, recurses := true, named := ["strconv.ErrSyntax", "strconv.ErrRange", "internal/strconv.uint64pow10", "math/bits.deBruijn32tab", "math/bits.deBruijn64tab"], plainKeys := false, apart := false, laid := [("math/bits.deBruijn32tab", laid_math_bits_deBruijn32tab), ("math/bits.deBruijn64tab", laid_math_bits_deBruijn64tab), ("internal/strconv.uint64pow10", laid_internal_strconv_uint64pow10), ("strconv.ErrRange", laid_strconv_ErrRange), ("strconv.ErrSyntax", laid_strconv_ErrSyntax)], narrowed := true }
def SerialExplainsUptoSaid : Prop := serialExplainsUptoRow.holds Tryd.pinned (OpenSpec.upto serialExplainsSpec)

/-- 'kissinggatelaw23.SerialChecks', WHERE WHAT IT READS IS OF BULK AT MOST 1048576: true; the input reads as it did. -/
def serialChecksUptoRow : OpenClaim := { program := "ytbggadhaaphmcaadoor", sum := "2cca5dff247e5762a0a4d47a44d45607a2bb0516a3cbb97c78e6efff3e973dde", func := "kissinggate/kissinggatelaw23.SerialChecks", spec := "serialChecks", inPlace := ["maps.clone"], unfollowed := true, recurses := true, named := ["strconv.ErrSyntax", "strconv.ErrRange", "internal/strconv.uint64pow10", "math/bits.deBruijn32tab", "math/bits.deBruijn64tab"], plainKeys := false, apart := false, laid := [("math/bits.deBruijn32tab", laid_math_bits_deBruijn32tab), ("math/bits.deBruijn64tab", laid_math_bits_deBruijn64tab), ("internal/strconv.uint64pow10", laid_internal_strconv_uint64pow10), ("strconv.ErrRange", laid_strconv_ErrRange), ("strconv.ErrSyntax", laid_strconv_ErrSyntax)], narrowed := true }
def SerialChecksUptoSaid : Prop := serialChecksUptoRow.holds Tryd.pinned (OpenSpec.upto serialChecksSpec)

/-- 'kissinggatelaw23.SerialMade', WHERE WHAT IT READS IS OF BULK AT MOST 1048576: true; the input reads as it did. -/
def serialMadeUptoRow : OpenClaim := { program := "ytbggadhaaphmcaadoor", sum := "2cca5dff247e5762a0a4d47a44d45607a2bb0516a3cbb97c78e6efff3e973dde", func := "kissinggate/kissinggatelaw23.SerialMade", spec := "serialMade", inPlace := ["maps.clone"], unfollowed := true, recurses := true, named := ["strconv.ErrSyntax", "strconv.ErrRange", "internal/strconv.uint64pow10", "math/bits.deBruijn32tab", "math/bits.deBruijn64tab"], plainKeys := false, apart := false, laid := [("math/bits.deBruijn32tab", laid_math_bits_deBruijn32tab), ("math/bits.deBruijn64tab", laid_math_bits_deBruijn64tab), ("internal/strconv.uint64pow10", laid_internal_strconv_uint64pow10), ("strconv.ErrRange", laid_strconv_ErrRange), ("strconv.ErrSyntax", laid_strconv_ErrSyntax)], narrowed := true }
def SerialMadeUptoSaid : Prop := serialMadeUptoRow.holds Tryd.pinned (OpenSpec.upto serialMadeSpec)

/-- 'kissinggatelaw23.SerialReplays', WHERE WHAT IT READS IS OF BULK AT MOST 1048576: true; the input reads as it did. -/
def serialReplaysUptoRow : OpenClaim := { program := "ytbggadhaaphmcaadoor", sum := "2cca5dff247e5762a0a4d47a44d45607a2bb0516a3cbb97c78e6efff3e973dde", func := "kissinggate/kissinggatelaw23.SerialReplays", spec := "serialReplays", inPlace := ["maps.clone"], unfollowed := true, recurses := true, named := ["strconv.ErrSyntax", "strconv.ErrRange", "internal/strconv.uint64pow10", "math/bits.deBruijn32tab", "math/bits.deBruijn64tab"], plainKeys := false, apart := false, laid := [("math/bits.deBruijn32tab", laid_math_bits_deBruijn32tab), ("math/bits.deBruijn64tab", laid_math_bits_deBruijn64tab), ("internal/strconv.uint64pow10", laid_internal_strconv_uint64pow10), ("strconv.ErrRange", laid_strconv_ErrRange), ("strconv.ErrSyntax", laid_strconv_ErrSyntax)], narrowed := true }
def SerialReplaysUptoSaid : Prop := serialReplaysUptoRow.holds Tryd.pinned (OpenSpec.upto serialReplaysSpec)

end Rows
end Go.Proofs.YtbggadhaaphmcaaDoor
