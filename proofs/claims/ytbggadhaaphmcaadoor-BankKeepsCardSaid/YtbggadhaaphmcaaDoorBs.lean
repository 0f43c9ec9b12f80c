/- bank: what each account gets when one shares out, in plain words. No program is spoken of. -/
import Derived.Test.YtbggadhaaphmcaaDoorBo
namespace Go.Proofs.YtbggadhaaphmcaaDoor
open Go.Lib Go.RowKit
set_option linter.unusedVariables false

/-- One account more: what is left over, and what each got. -/
def shStep (f s part : Int) (st : Int × List Int) (i : Nat) : Int × List Int :=
  if (i : Int) = f then (st.1, st.2 ++ [-s])
  else if 0 < st.1 then (st.1 - 1, st.2 ++ [part + 1])
  else if st.1 < 0 then (st.1 + 1, st.2 ++ [part - 1])
  else (st.1, st.2 ++ [part])
def shRun (f s part rest : Int) (k : Nat) : Int × List Int := (List.range k).foldl (shStep f s part) (rest, [])
def shareI (n : Nat) (f s : Int) : List Int := if n = 1 then [0] else (shRun f s (s.tdiv ((n : Int) - 1)) (s.tmod ((n : Int) - 1)) n).2
theorem shRun_zero (f s part rest : Int) : shRun f s part rest 0 = (rest, []) := rfl
theorem shRun_succ (f s part rest : Int) (k : Nat) : shRun f s part rest (k + 1) = shStep f s part (shRun f s part rest k) k := by
  unfold shRun
  rw [List.range_succ, List.foldl_append]
  rfl
theorem shStep_len (f s part : Int) (st : Int × List Int) (i : Nat) : (shStep f s part st i).2.length = st.2.length + 1 := by
  unfold shStep
  split
  · simp
  · split
    · simp
    · split <;> simp
theorem shRun_len (f s part rest : Int) (k : Nat) : (shRun f s part rest k).2.length = k := by
  induction k with
  | zero => rfl
  | succ k ih => rw [shRun_succ, shStep_len, ih]
theorem shareI_len {n : Nat} (f s : Int) (h : 1 ≤ n) : (shareI n f s).length = n := by
  unfold shareI
  split
  · rename_i h; simp [h]
  · exact shRun_len _ _ _ _ _
/-- What is left over never grows away from 0. -/
theorem shRun_rest (f s part rest : Int) (k : Nat) : (0 ≤ rest → 0 ≤ (shRun f s part rest k).1 ∧ (shRun f s part rest k).1 ≤ rest) ∧ (rest ≤ 0 → rest ≤ (shRun f s part rest k).1 ∧ (shRun f s part rest k).1 ≤ 0) := by
  induction k with
  | zero => rw [shRun_zero]; exact ⟨fun h => ⟨h, Int.le_refl _⟩, fun h => ⟨Int.le_refl _, h⟩⟩
  | succ k ih =>
    rw [shRun_succ]
    unfold shStep
    split
    · exact ih
    · split
      · constructor
        · intro h
          have := ih.1 h
          dsimp only
          omega
        · intro h
          have := ih.2 h
          dsimp only
          omega
      · split
        · constructor
          · intro h
            have := ih.1 h
            dsimp only
            omega
          · intro h
            have := ih.2 h
            dsimp only
            omega
        · exact ih
/-- The document's way: one unit after the other. -/
theorem shStep_unit {f s part unit left : Int} (hu : (unit = 1 ∨ unit = -1)) (hl : 0 ≤ left) (l : List Int) (i : Nat) (hi : ¬ (i : Int) = f) :
    shStep f s part (unit * left, l) i = if 0 < left then (unit * (left - 1), l ++ [part + unit]) else (unit * left, l ++ [part]) := by
  unfold shStep
  rw [if_neg hi]
  dsimp only
  rcases hu with rfl | rfl
  · by_cases h : 0 < left
    · rw [if_pos (by omega), if_pos h]
      congr 1
      omega
    · rw [if_neg (by omega), if_neg (by omega), if_neg h]
  · by_cases h : 0 < left
    · rw [if_neg (by omega), if_pos (by omega), if_pos h]
      refine Prod.ext (by dsimp only; omega) ?_
      dsimp only
      congr 2
    · rw [if_neg (by omega), if_neg (by omega), if_neg h]
theorem share_signs (s m : Int) (hm : 0 < m) : (0 ≤ s → s.tdiv m = 1 * (s / m) ∧ s.tmod m = 1 * (s % m)) ∧ (s < 0 → s.tdiv m = -1 * ((-s) / m) ∧ s.tmod m = -1 * ((-s) % m)) := by
  constructor
  · intro h
    rw [Int.one_mul, Int.one_mul]
    exact ⟨Int.tdiv_eq_ediv_of_nonneg h, Int.tmod_eq_emod_of_nonneg h⟩
  · intro h
    have h1 : s.tdiv m = -((-s).tdiv m) := by rw [Int.neg_tdiv, Int.neg_neg]
    have h2 : s.tmod m = -((-s).tmod m) := by rw [Int.neg_tmod, Int.neg_neg]
    rw [h1, h2, Int.tdiv_eq_ediv_of_nonneg (by omega), Int.tmod_eq_emod_of_nonneg (by omega)]
    omega
end Go.Proofs.YtbggadhaaphmcaaDoor
