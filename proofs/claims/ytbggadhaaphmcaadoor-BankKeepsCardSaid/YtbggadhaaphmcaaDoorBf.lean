/- bank: keys, which amounts may go; the program's functions and the document's. -/
import Derived.Test.YtbggadhaaphmcaaDoorFx
import Derived.Test.YtbggadhaaphmcaaDoorSa
namespace Go.Proofs.YtbggadhaaphmcaaDoor
open Go.RowKit Go.Sort
set_option linter.unusedVariables false

def isB (n : Int) : Bool := decide (1 ≤ n) && decide (n ≤ 16)
def amB (n : Int) : Bool := decide (-1048576 ≤ n) && decide (n ≤ 1048576)
def mayE (n from_ sum : Int) : Int := if (isB n && amB sum) = true then (if from_ < 0 ∨ n ≤ from_ then 6 else 0) else 1
theorem is_any (n : Int) (w : World) : Calls Tryd.prog 64 #[.int .i64 n] w fun e w' => e = .returned (.bool (isB n)) ∧ w = w' := by
  unfold isB
  by_cases h : 1 ≤ n
  · have d : decide (1 ≤ n) = true := by simpa using h
    rw [d]
    go_enter Tryd.func64, Tryd.ntmps64
    go_wp2_with fail
    go_ret
    exact ⟨rfl, rfl⟩
  · have d : decide (1 ≤ n) = false := by simpa using h
    rw [d]
    go_enter Tryd.func64, Tryd.ntmps64
    go_wp2_with fail
    go_ret
    exact ⟨rfl, rfl⟩
theorem amount_any (n : Int) (w : World) : Calls Tryd.prog 65 #[.int .i64 n] w fun e w' => e = .returned (.bool (amB n)) ∧ w = w' := by
  unfold amB
  by_cases h : -1048576 ≤ n
  · have d : decide (-1048576 ≤ n) = true := by simpa using h
    rw [d]
    go_enter Tryd.func65, Tryd.ntmps65
    go_wp2_with fail
    go_ret
    exact ⟨rfl, rfl⟩
  · have d : decide (-1048576 ≤ n) = false := by simpa using h
    rw [d]
    go_enter Tryd.func65, Tryd.ntmps65
    go_wp2_with fail
    go_ret
    exact ⟨rfl, rfl⟩
theorem may_cases (n f s : Int) : (isB n = false ∧ mayE n f s = 1) ∨ (isB n = true ∧ amB s = false ∧ mayE n f s = 1) ∨ (isB n = true ∧ amB s = true ∧ f < 0 ∧ mayE n f s = 6) ∨ (isB n = true ∧ amB s = true ∧ 0 ≤ f ∧ n ≤ f ∧ mayE n f s = 6) ∨ (isB n = true ∧ amB s = true ∧ 0 ≤ f ∧ f < n ∧ mayE n f s = 0) := by
  unfold mayE
  rcases Bool.eq_false_or_eq_true (isB n) with h1 | h1 <;> rcases Bool.eq_false_or_eq_true (amB s) with h2 | h2
  · rw [h1, h2, if_pos (by rfl)]
    by_cases h : f < 0
    · exact .inr (.inr (.inl ⟨rfl, rfl, h, if_pos (by omega)⟩))
    · by_cases h' : n ≤ f
      · exact .inr (.inr (.inr (.inl ⟨rfl, rfl, by omega, h', if_pos (by omega)⟩)))
      · exact .inr (.inr (.inr (.inr ⟨rfl, rfl, by omega, by omega, if_neg (by omega)⟩)))
  · rw [h1, h2]; exact .inr (.inl ⟨rfl, rfl, if_neg (by simp)⟩)
  · rw [h1, h2]; exact .inl ⟨rfl, if_neg (by simp)⟩
  · rw [h1, h2]; exact .inl ⟨rfl, if_neg (by simp)⟩
theorem may_any (n f s : Int) (w : World) : Calls Tryd.prog 66 #[.int .i64 n, .int .i64 f, .int .i64 s] w fun e w' => e = .returned (.int .i64 (mayE n f s)) ∧ w = w' := by
  have HI := Lib.hid (fun w => is_any n w)
  have HA := Lib.hid (fun w => amount_any s w)
  rcases may_cases n f s with ⟨h1, h⟩ | ⟨h1, h2, h⟩ | ⟨h1, h2, h3, h⟩ | ⟨h1, h2, h3, h4, h⟩ | ⟨h1, h2, h3, h4, h⟩
  · rw [h]
    rw [h1] at HI
    clear h h1
    go_enter Tryd.func66, Tryd.ntmps66
    go_wp2_with fail
    refine (HI.out _).mono ?_
    rintro e w2 ⟨rfl, rfl⟩
    dsimp only
    go_wp2_with fail
    go_ret
    exact ⟨rfl, rfl⟩
  all_goals
    rw [h]
    rw [h1] at HI
    rw [h2] at HA
    try (have d3 : decide (f < 0) = true := by simpa using h3)
    try (have d5 : decide (f < 0) = false := by simpa using h3)
    try (have d4 : decide (n ≤ f) = true := by simpa using h4)
    try (have d6 : decide (n ≤ f) = false := by simpa using h4)
    clear h h1 h2
    go_enter Tryd.func66, Tryd.ntmps66
    go_wp2_with fail
    refine (HI.out _).mono ?_
    rintro e w2 ⟨rfl, rfl⟩
    dsimp only
    go_wp2_with fail
    refine (HA.out _).mono ?_
    rintro e w2 ⟨rfl, rfl⟩
    dsimp only
    go_wp2_with fail
    go_ret
    exact ⟨rfl, rfl⟩
theorem may_ref (n f s : Int) (w : World) : Calls Tryd.prog 34 #[.int .i64 n, .int .i64 f, .int .i64 s] w fun e w' => e = .returned (.int .i64 (mayE n f s)) ∧ w = w' := by
  obtain ⟨R, hR⟩ : ∃ R, mayE n f s = R := ⟨_, rfl⟩
  have HR := Lib.hid hR
  rw [hR]
  clear hR
  by_cases a : n < 1
  · obtain rfl : R = 1 := by rw [← HR.out]; unfold mayE isB; rw [if_neg (by simp; omega)]
    have d : decide (n < 1) = true := by simpa using a
    go_enter Tryd.func34, Tryd.ntmps34
    go_wp2_with fail
    go_ret
    exact ⟨rfl, rfl⟩
  have d1 : decide (n < 1) = false := by simpa using a
  by_cases b : 16 < n
  · obtain rfl : R = 1 := by rw [← HR.out]; unfold mayE isB; rw [if_neg (by simp; omega)]
    have d : decide (16 < n) = true := by simpa using b
    go_enter Tryd.func34, Tryd.ntmps34
    go_wp2_with fail
    go_ret
    exact ⟨rfl, rfl⟩
  have d2 : decide (16 < n) = false := by simpa using b
  by_cases c : s < -1048576
  · obtain rfl : R = 1 := by rw [← HR.out]; unfold mayE isB amB; rw [if_neg (by simp; omega)]
    have d : decide (s < -1048576) = true := by simpa using c
    go_enter Tryd.func34, Tryd.ntmps34
    go_wp2_with fail
    go_ret
    exact ⟨rfl, rfl⟩
  have d3 : decide (s < -1048576) = false := by simpa using c
  by_cases c' : 1048576 < s
  · obtain rfl : R = 1 := by rw [← HR.out]; unfold mayE isB amB; rw [if_neg (by simp; omega)]
    have d : decide (1048576 < s) = true := by simpa using c'
    go_enter Tryd.func34, Tryd.ntmps34
    go_wp2_with fail
    go_ret
    exact ⟨rfl, rfl⟩
  have d4 : decide (1048576 < s) = false := by simpa using c'
  have hin : (isB n && amB s) = true := by unfold isB amB; simp; omega
  by_cases g : f < 0
  · obtain rfl : R = 6 := by rw [← HR.out]; unfold mayE; rw [if_pos hin, if_pos (by omega)]
    have d : decide (f < 0) = true := by simpa using g
    clear hin
    go_enter Tryd.func34, Tryd.ntmps34
    go_wp2_with fail
    go_ret
    exact ⟨rfl, rfl⟩
  have d5 : decide (f < 0) = false := by simpa using g
  by_cases g' : n ≤ f
  · obtain rfl : R = 6 := by rw [← HR.out]; unfold mayE; rw [if_pos hin, if_pos (by omega)]
    have d : decide (n ≤ f) = true := by simpa using g'
    clear hin
    go_enter Tryd.func34, Tryd.ntmps34
    go_wp2_with fail
    go_ret
    exact ⟨rfl, rfl⟩
  have d6 : decide (n ≤ f) = false := by simpa using g'
  obtain rfl : R = 0 := by rw [← HR.out]; unfold mayE; rw [if_pos hin, if_neg (by omega)]
  clear hin
  go_enter Tryd.func34, Tryd.ntmps34
  go_wp2_with fail
  go_ret
  exact ⟨rfl, rfl⟩
end Go.Proofs.YtbggadhaaphmcaaDoor
