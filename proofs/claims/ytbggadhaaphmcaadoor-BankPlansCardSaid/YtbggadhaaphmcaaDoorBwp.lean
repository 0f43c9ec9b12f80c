/- BankPlans: both parts of the walk. -/
import Derived.Test.YtbggadhaaphmcaaDoorBw
namespace Go.Proofs.YtbggadhaaphmcaaDoor
open Go.Lib Go.RowKit

theorem plans_bank_walk (n f t s : Int) (w : World) (hE : Env w) :
    Calls Tryd.prog 6 #[.int .i64 n, .int .i64 f, .int .i64 t, .int .i64 s] w fun e w' => e = .returned (.bool true) ∧ Below w.heap.size w w' := by
  by_cases h : (isB n && amB s) = false
  · exact plans_arg n f t s w hE h
  · have h' : (isB n && amB s) = true := by simpa using h
    unfold isB amB at h'
    simp at h'
    obtain ⟨N, rfl⟩ : ∃ N : Nat, n = N := ⟨n.toNat, by omega⟩
    exact plans_go N f t s w hE (by omega) (by omega) (by omega)
end Go.Proofs.YtbggadhaaphmcaaDoor
