/- bank: Move. -/
import Derived.Test.YtbggadhaaphmcaaDoorBk
namespace Go.Proofs.YtbggadhaaphmcaaDoor
open Go.Lib Go.RowKit
set_option linter.unusedVariables false

def moveE (n f t s : Int) : Int := if mayE n f s = 0 then mayE n t s else mayE n f s
def moveL (n f t s : Int) : List OpD := if moveE n f t s = 0 then (if f = t then [addO f 0] else [addO f (-s), addO t s]) else []
theorem may_zero {n f s : Int} (h : mayE n f s = 0) : 0 ≤ f ∧ f < n ∧ n ≤ 16 ∧ -1048576 ≤ s ∧ s ≤ 1048576 := by
  rcases may_cases n f s with ⟨_, e⟩ | ⟨_, _, e⟩ | ⟨_, _, _, e⟩ | ⟨_, _, _, _, e⟩ | ⟨h1, h2, h3, h4, e⟩
  · rw [h] at e; cases e
  · rw [h] at e; cases e
  · rw [h] at e; cases e
  · rw [h] at e; cases e
  · unfold isB at h1
    unfold amB at h2
    simp at h1 h2
    omega
theorem ops_nil {w : World} : Ops w none 0 [] := ⟨rfl, fun h => absurd rfl h⟩
set_option maxRecDepth 100000 in
set_option maxHeartbeats 4000000 in
theorem Move_any (n f t s : Int) (w : World) : Calls Tryd.prog 31 #[.int .i64 n, .int .i64 f, .int .i64 t, .int .i64 s] w fun e w' => ∃ (A : Option Addr) (c : Nat), e = .returned (.tuple #[.slice A (moveL n f t s).length c, .int .i64 (moveE n f t s)]) ∧ Ops w' A (moveL n f t s).length (moveL n f t s) ∧ NewW w w' := by
  have H1 := Lib.hid (fun w' => may_any n f s w')
  have H2 := Lib.hid (fun w' => may_any n t s w')
  by_cases h1 : mayE n f s = 0
  · have hb1 := may_zero h1
    have hE : moveE n f t s = mayE n t s := by unfold moveE; rw [if_pos h1]
    rw [h1] at H1
    by_cases h2 : mayE n t s = 0
    · have hb2 := may_zero h2
      rw [h2] at H2 hE
      have hK1 := Lib.hid (fun x w' => add_any f x hb1.1 (by omega) w')
      have hK2 := Lib.hid (fun x w' => add_any t x hb2.1 (by omega) w')
      have hng : IntKind.i64.wrap (-s) = -s := IntWalk.i64_in _ ⟨by omega, by omega⟩
      by_cases h3 : f = t
      · have hL : moveL n f t s = [addO f 0] := by unfold moveL; rw [if_pos hE, if_pos h3]
        rw [hL, hE]
        have HOP := Lib.hid (fun w' => ops_new w' [addO f 0])
        have d : decide (f = t) = true := by simpa using h3
        have d' : (f == t) = true := by simpa using h3
        clear h1 h2 hE hL hb1 hb2 h3 hK2
        obtain ⟨K1, hk1⟩ : ∃ K, keyT f = K := ⟨_, rfl⟩
        have HKK := Lib.hid hk1
        rw [hk1] at hK1
        clear hk1
        go_enter Tryd.func31, Tryd.ntmps31
        go_wp2_with fail
        refine (H1.out _).mono ?_
        rintro e w2 ⟨rfl, rfl⟩
        dsimp only
        go_wp2_with fail
        refine (H2.out _).mono ?_
        rintro e w2 ⟨rfl, rfl⟩
        dsimp only
        go_wp2_with fail
        refine (hK1.out _ _).mono ?_
        rintro e w2 ⟨rfl, hN⟩
        dsimp only
        have HN := Lib.hid hN
        clear hN
        go_wp2_with fail
        go_ret2
        refine ⟨_, _, rfl, ?_, HN.out.alloc _⟩
        rw [← HKK.out]
        exact HOP.out w2
      · have hL : moveL n f t s = [addO f (-s), addO t s] := by unfold moveL; rw [if_pos hE, if_neg h3]
        rw [hL, hE]
        have HOP := Lib.hid (fun w' => ops_new w' [addO f (-s), addO t s])
        have d : decide (f = t) = false := by simpa using h3
        have d' : (f == t) = false := by simpa using h3
        clear h1 h2 hE hL hb1 hb2 h3
        obtain ⟨K1, hk1⟩ : ∃ K, keyT f = K := ⟨_, rfl⟩
        obtain ⟨K2, hk2⟩ : ∃ K, keyT t = K := ⟨_, rfl⟩
        have HKK := Lib.hid hk1
        have HKT := Lib.hid hk2
        rw [hk1] at hK1
        rw [hk2] at hK2
        clear hk1 hk2
        go_enter Tryd.func31, Tryd.ntmps31
        go_wp2_with fail
        refine (H1.out _).mono ?_
        rintro e w2 ⟨rfl, rfl⟩
        dsimp only
        go_wp2_with fail
        refine (H2.out _).mono ?_
        rintro e w2 ⟨rfl, rfl⟩
        dsimp only
        go_wp2_with fail
        refine (hK1.out _ _).mono ?_
        rintro e w2 ⟨rfl, hN⟩
        dsimp only
        have HN := Lib.hid hN
        clear hN
        go_wp2_with fail
        refine (hK2.out _ _).mono ?_
        rintro e w3 ⟨rfl, hN⟩
        dsimp only
        have HN3 := Lib.hid (HN.out.trans' hN)
        clear hN
        go_wp2_with fail
        go_ret2
        refine ⟨_, _, rfl, ?_, HN3.out.alloc _⟩
        rw [← HKK.out, ← HKT.out]
        exact HOP.out w3
    · have hL : moveL n f t s = [] := by unfold moveL; rw [if_neg (by rw [hE]; exact h2)]
      rw [hL, hE]
      obtain ⟨E, hEE⟩ : ∃ E, mayE n t s = E := ⟨_, rfl⟩
      rw [hEE] at H2 h2 ⊢
      have d : decide (E = 0) = false := by simpa using h2
      have d' : (E != 0) = true := by simpa using h2
      have d'' : (E == 0) = false := by simpa using h2
      clear h1 hE hL hEE hb1 h2
      go_enter Tryd.func31, Tryd.ntmps31
      go_wp2_with fail
      refine (H1.out _).mono ?_
      rintro e w2 ⟨rfl, rfl⟩
      dsimp only
      go_wp2_with fail
      refine (H2.out _).mono ?_
      rintro e w2 ⟨rfl, rfl⟩
      dsimp only
      go_wp2_with fail
      go_ret2
      exact ⟨none, 0, rfl, ops_nil, Ch.refl _ _⟩
  · have hE : moveE n f t s = mayE n f s := by unfold moveE; rw [if_neg h1]
    have hL : moveL n f t s = [] := by unfold moveL; rw [if_neg (by rw [hE]; exact h1)]
    rw [hL, hE]
    obtain ⟨E, hEE⟩ : ∃ E, mayE n f s = E := ⟨_, rfl⟩
    rw [hEE] at H1 h1 ⊢
    have d : decide (E = 0) = false := by simpa using h1
    have d' : (E != 0) = true := by simpa using h1
    have d'' : (E == 0) = false := by simpa using h1
    clear hE hL hEE h1
    go_enter Tryd.func31, Tryd.ntmps31
    go_wp2_with fail
    refine (H1.out _).mono ?_
    rintro e w2 ⟨rfl, rfl⟩
    dsimp only
    go_wp2_with fail
    go_ret2
    exact ⟨none, 0, rfl, ops_nil, Ch.refl _ _⟩
end Go.Proofs.YtbggadhaaphmcaaDoor
