/- Which reading is the first of a kind: slices.IndexFunc with the two predicates that the leader hands over. -/
import Derived.Test.YtdbbnkibdibpkabTake
import Derived.Deep.QuietTactic
import Derived.BigQuiet
namespace Go.Proofs.Ytdbbnkibdibpkab
open Go.RowKit
set_option linter.unusedVariables false

theorem ch_cell {w w' : World} (h : Ch (fun _ => False) w w') {a : Addr} (ha : a.block < w.heap.size) : w'.cell? a = w.cell? a := World.cell?_of_block (h.block a.block ha (fun h => h))
def NewW (w w' : World) : Prop := Ch (fun _ => False) w w'
theorem same25 (x1 x2 x3 id : Int) (ib : Nat) (w : World) (hc : w.cell? ⟨ib, 0, none⟩ = some (.int .i64 id)) :
    Calls Try.prog 25 #[.agg #[.int .i64 x1, .int .i64 x2, .int .i64 x3], .pointer (some ⟨ib, 0, none⟩)] w fun e w' => e = .returned (.bool (x1 == id)) ∧ NewW w w' := by
  have hlt : ib < w.heap.size := block_lt_of_cell hc
  have hc' : (w.alloc (.cells #[.int .i64 x1, .int .i64 x2, .int .i64 x3] 53)).cell? ⟨ib, 0, none⟩ = some (.int .i64 id) := by rw [World.cell?_alloc_lt _ _ _ hlt]; exact hc
  have HN := Lib.hid (show NewW w (w.alloc (.cells #[.int .i64 x1, .int .i64 x2, .int .i64 x3] 53)) from (Ch.refl _ _).alloc _)
  clear hlt
  go_enter Try.func25, Try.ntmps25
  go_wp2
  go_ret
  exact ⟨rfl, HN.out⟩
def blocked (S A : Int) (x : Rdg) : Bool := decide (S ≤ x.2.1) || decide (A < x.2.2)
theorem blocked27 (x1 x2 x3 S A : Int) (sb pb b : Nat) (w : World) (hs : w.cell? ⟨sb, 0, none⟩ = some (.int .i64 S)) (hp : w.cell? ⟨pb, 0, none⟩ = some (.pointer (some ⟨b, 0, none⟩))) (ha : w.cell? ⟨b, 11, none⟩ = some (.int .i64 A)) :
    Calls Try.prog 27 #[.agg #[.int .i64 x1, .int .i64 x2, .int .i64 x3], .pointer (some ⟨sb, 0, none⟩), .pointer (some ⟨pb, 0, none⟩)] w fun e w' => e = .returned (.bool (blocked S A (x1, x2, x3))) ∧ NewW w w' := by
  have l1 : sb < w.heap.size := block_lt_of_cell hs
  have l2 : pb < w.heap.size := block_lt_of_cell hp
  have l3 : b < w.heap.size := block_lt_of_cell ha
  have hs' : (w.alloc (.cells #[.int .i64 x1, .int .i64 x2, .int .i64 x3] 53)).cell? ⟨sb, 0, none⟩ = some (.int .i64 S) := by rw [World.cell?_alloc_lt _ _ _ l1]; exact hs
  have hp' : (w.alloc (.cells #[.int .i64 x1, .int .i64 x2, .int .i64 x3] 53)).cell? ⟨pb, 0, none⟩ = some (.pointer (some ⟨b, 0, none⟩)) := by rw [World.cell?_alloc_lt _ _ _ l2]; exact hp
  have ha' : (w.alloc (.cells #[.int .i64 x1, .int .i64 x2, .int .i64 x3] 53)).cell? ⟨b, 11, none⟩ = some (.int .i64 A) := by rw [World.cell?_alloc_lt _ _ _ l3]; exact ha
  have HN := Lib.hid (fun n => (show NewW w ((w.alloc (.cells #[.int .i64 x1, .int .i64 x2, .int .i64 x3] 53)).drewN n) from ((Ch.refl _ _).alloc _).drewN n))
  clear hs hp ha l1 l2 l3
  by_cases h1 : S ≤ x2
  · have e1 : blocked S A (x1, x2, x3) = true := by simp [blocked, h1]
    have d1 : decide (S ≤ x2) = true := by simpa using h1
    rw [e1]
    clear e1 h1
    go_enter Try.func27, Try.ntmps27
    go_wp2_with fail
    go_quiet (fail)
    go_wp2_with fail
    go_ret
    exact ⟨rfl, HN.out _⟩
  · by_cases h2 : A < x3
    · have e1 : blocked S A (x1, x2, x3) = true := by simp [blocked, h2]
      have d1 : decide (S ≤ x2) = false := by simpa using h1
      have d2 : decide (A < x3) = true := by simpa using h2
      rw [e1]
      clear e1 h1 h2
      go_enter Try.func27, Try.ntmps27
      go_wp2_with fail
      go_quiet (fail)
      go_wp2_with fail
      go_ret
      exact ⟨rfl, HN.out _⟩
    · have e1 : blocked S A (x1, x2, x3) = false := by simp [blocked]; omega
      have d1 : decide (S ≤ x2) = false := by simpa using h1
      have d2 : decide (A < x3) = false := by simpa using h2
      rw [e1]
      clear e1 h1 h2
      go_enter Try.func27, Try.ntmps27
      go_wp2_with fail
      go_quiet (fail)
      go_wp2_with fail
      go_ret
      exact ⟨rfl, HN.out _⟩
/-- The first place at which p holds, or -1. -/
def firstIdx (p : Rdg → Bool) (W : List Rdg) : Int := match W.findIdx? p with
  | some i => (i : Int)
  | none => -1
theorem firstIdx_at {p : Rdg → Bool} {W : List Rdg} {k : Nat} {x : Rdg} (hx : W[k]? = some x) (hp : p x = true) (hb : ∀ j y, j < k → W[j]? = some y → p y = false) : firstIdx p W = k := by
  unfold firstIdx
  have : W.findIdx? p = some k := by
    rw [List.findIdx?_eq_some_iff_getElem]
    have hk := lt_of_some hx
    refine ⟨hk, ?_, fun j hj => ?_⟩
    · rw [List.getElem?_eq_getElem hk] at hx; injection hx with hx; rw [hx]; exact hp
    · have := hb j _ hj (List.getElem?_eq_getElem (by omega))
      simp [this]
  rw [this]
theorem firstIdx_none {p : Rdg → Bool} {W : List Rdg} (hb : ∀ j y, j < W.length → W[j]? = some y → p y = false) : firstIdx p W = -1 := by
  unfold firstIdx
  have : W.findIdx? p = none := by
    rw [List.findIdx?_eq_none_iff]
    intro x hx
    obtain ⟨j, hj⟩ := List.getElem?_of_mem hx
    exact hb j x (lt_of_some hj) hj
  rw [this]
end Go.Proofs.Ytdbbnkibdibpkab
