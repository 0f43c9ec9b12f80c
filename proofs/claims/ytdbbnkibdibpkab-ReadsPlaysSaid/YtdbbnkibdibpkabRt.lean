/- same: two rows of like numbers. -/
import Derived.Test.YtdbbnkibdibpkabRp
namespace Go.Proofs.Ytdbbnkibdibpkab
open Go.RowKit
set_option linter.unusedVariables false

set_option maxRecDepth 100000 in
theorem r_same (B1 B2 : Nat) (L : List Rdg) (A1 A2 : Option Addr) (n c1 c2 : Nat) (w : World) (h1 : w.ownsRow B1 3 1 (.slice A1 n c1) n (ids L)) (h2 : w.ownsRow B2 3 1 (.slice A2 n c2) n (ids L)) (hn : n ≤ 64) :
    Calls Try.prog 17 #[.slice A1 n c1, .slice A2 n c2] w fun e w' => e = .returned (.bool true) ∧ NewW w w' := by
  have H := Lib.hid (And.intro h1 h2)
  have hll : L.length = n := by have := h1.1; simp [ids] at this; omega
  clear h1 h2
  go_enter Try.func17, Try.ntmps17
  go_wp2_with fail
  go_loopw [13] (fun i w' => ∃ k : Nat, k ≤ n ∧ i = .int .i64 k ∧ NewW w w') (fun i _ => n - (intOf i).toNat)
  case atStart => exact ⟨0, by omega, rfl, Ch.refl _ _⟩
  case round =>
    obtain ⟨k, hk, rfl, hC⟩ := hrel
    have HN := Lib.hid (fun m => (hC.drewN m : NewW w (wr.drewN m)))
    by_cases hlt : k < n
    · obtain ⟨x, hx⟩ := some_of_lt (L := L) (i := k) (by omega)
      obtain ⟨h1, h2⟩ := H.out
      obtain ⟨g1, q1, hv1, _⟩ := h1.form (by omega)
      obtain ⟨g2, q2, hv2, _⟩ := h2.form (by omega)
      injection hv1 with hv1 _ hq1
      injection hv2 with hv2 _ hq2
      subst hv1 hv2 hq1 hq2
      have hid : (ids L)[k]? = some (.int .i64 x.1) := by unfold ids; rw [List.getElem?_map, hx]; rfl
      have p1 := h1.cells (g := g1) rfl k _ hid
      have p2 := h2.cells (g := g2) rfl k _ hid
      rw [add_mk, Nat.zero_add] at p1 p2
      have r1 := (ch_cell hC (block_lt_of_cell p1)).trans p1
      have r2 := (ch_cell hC (block_lt_of_cell p2)).trans p2
      have hne : (x.1 != x.1) = false := by simp
      have hkI : (k : Int) < (n : Int) := by omega
      clear p1 p2 h1 h2 hid hx hC
      generalize x.1 = X at *
      go_wp2_with fail
      go_quiet (fail)
      go_wp2_with fail
      exact ⟨⟨k + 1, by omega, by go_num, HN.out _⟩, by simp [intOf]; omega⟩
    · obtain rfl : k = n := by omega
      clear hlt hk
      go_wp2_with fail
      go_ret
      exact ⟨rfl, HN.out 0⟩
end Go.Proofs.Ytdbbnkibdibpkab
