/- A slice of the law's acts. -/
import Derived.Test.YtdbbnkibdibpkaaDoorFix
import Derived.Test.YtdbbnkibdibpkaaDoorLibArgs
import Derived.OpenShut
namespace Go.Proofs.YtdbbnkibdibpkaaDoor
open Go.RowKit Go.ChangeShapes Go.WideShapes
set_option linter.unusedVariables false

/-- A slice of acts: kind, number, two numbers, flags, current. -/
def ActAt (w : World) (b off i : Nat) (K N X Y F : Int) (C : Bool) : Prop :=
  w.cell? ⟨b, off + i * 6, none⟩ = some (.int .u8 K) ∧ w.cell? ⟨b, off + i * 6 + 1, none⟩ = some (.int .i64 N) ∧ w.cell? ⟨b, off + i * 6 + 2, none⟩ = some (.int .i64 X) ∧ w.cell? ⟨b, off + i * 6 + 3, none⟩ = some (.int .i64 Y) ∧
    w.cell? ⟨b, off + i * 6 + 4, none⟩ = some (.int .u64 F) ∧ w.cell? ⟨b, off + i * 6 + 5, none⟩ = some (.bool C)
def Acts (w : World) (A : Option Addr) (n : Nat) : Prop :=
  n ≤ maxLen ∧ (0 < n → ∃ b off, A = some ⟨b, off, none⟩ ∧ b < w.heap.size ∧ ∀ i, i < n → ∃ (K N X Y F : Int) (C : Bool), 0 ≤ K ∧ K ≤ 255 ∧ (Lit.int .i64 N).wf = true ∧ (Lit.int .i64 X).wf = true ∧ (Lit.int .i64 Y).wf = true ∧ (Lit.int .u64 F).wf = true ∧ ActAt w b off i K N X Y F C)
theorem ActAt.below {w0 w : World} {b off i : Nat} {K N X Y F : Int} {C : Bool} (h : ActAt w0 b off i K N X Y F C) (hb : Below w0.heap.size w0 w) (hlt : b < w0.heap.size) : ActAt w b off i K N X Y F C :=
  ⟨(hb.cell hlt).trans h.1, (hb.cell hlt).trans h.2.1, (hb.cell hlt).trans h.2.2.1, (hb.cell hlt).trans h.2.2.2.1, (hb.cell hlt).trans h.2.2.2.2.1, (hb.cell hlt).trans h.2.2.2.2.2⟩

end Go.Proofs.YtdbbnkibdibpkaaDoor
