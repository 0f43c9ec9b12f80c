/- SerialMade: a history that was made, in plain words. No program is spoken of. -/
import Derived.Test.YtbggadhaaphmcaaDoorZu
namespace Go.Proofs.YtbggadhaaphmcaaDoor
open Go.Lib Go.RowKit
set_option linter.unusedVariables false

structure WasD where
  plan : List OpD
  ah : Int
  be : Int
  op : Bool
def was0 : WasD := ⟨[], 0, 0, false⟩
def plansL (l : List WasD) : List (List OpD) := l.map fun d => d.plan
def SmallW (l : List WasD) : Prop := ∀ d ∈ l, 0 ≤ d.ah ∧ d.ah ≤ 255 ∧ 0 ≤ d.be ∧ d.be ≤ 255
noncomputable def deedOf (l : List WasD) (k : Nat) (d : WasD) : DeedD :=
  ⟨1000 + 100 * (k : Int) - d.ah, 1000 + 100 * (k : Int) + d.be, d.plan, (runO (fAt (plansL l) k) d.plan).map prR, d.op⟩
noncomputable def deedK (l : List WasD) (k : Nat) : DeedD := deedOf l k ((l[k]?).getD was0)
theorem deedK_of {l : List WasD} {k : Nat} {d : WasD} (h : l[k]? = some d) : deedK l k = deedOf l k d := by unfold deedK; rw [h]; rfl
/-- The first k of them, the last one ahead. -/
noncomputable def madeK (l : List WasD) : Nat → Hist
  | 0 => []
  | k + 1 => deedK l k :: madeK l k
theorem madeK_len (l : List WasD) : ∀ k, (madeK l k).length = k
  | 0 => rfl
  | k + 1 => by rw [madeK, List.length_cons, madeK_len l k]
theorem madeK_at (l : List WasD) : ∀ {k j : Nat}, j < k → (madeK l k)[j]? = some (deedK l (k - 1 - j))
  | 0, j, h => by omega
  | k + 1, 0, h => by rw [madeK]; rfl
  | k + 1, j + 1, h => by
    rw [madeK, List.getElem?_cons_succ, madeK_at l (by omega), show k + 1 - 1 - (j + 1) = k - 1 - j by omega]
theorem madeK_get (l : List WasD) {k j : Nat} (h : j < k) : (madeK l k).get j = deedK l (k - 1 - j) := Hist.get_of (madeK_at l h)
def ordK (n k : Nat) : List Int := (List.range k).map fun i : Nat => (n : Int) - 1 - (i : Int)
theorem ordK_len (n k : Nat) : (ordK n k).length = k := by simp [ordK]
theorem ordK_snoc (n k : Nat) : ordK n (k + 1) = ordK n k ++ [(n : Int) - 1 - (k : Int)] := by simp [ordK, List.range_succ]
def doneK (n k : Nat) : List Nat := (List.range k).map fun i => n - 1 - i
theorem doneK_snoc (n k : Nat) : doneK n (k + 1) = doneK n k ++ [n - 1 - k] := by simp [doneK, List.range_succ]
theorem doneK_mem {n k j : Nat} (hk : k ≤ n) (hj : j < n) : j ∈ doneK n k ↔ n - 1 - j < k := by
  unfold doneK
  rw [List.mem_map]
  constructor
  · rintro ⟨i, hi, rfl⟩
    have := List.mem_range.1 hi
    omega
  · intro h
    exact ⟨n - 1 - j, List.mem_range.2 h, by omega⟩
theorem ord_drop {n k : Nat} (h : k < n) : (ordK n n).drop k = ((n - 1 - k : Nat) : Int) :: (ordK n n).drop (k + 1) := by
  rw [List.drop_eq_getElem_cons (by rw [ordK_len]; exact h)]
  congr 1
  simp only [ordK, List.getElem_map, List.getElem_range]
  omega
theorem deedK_bound {l : List WasD} (hs : SmallW l) (k : Nat) : 1000 + 100 * (k : Int) - 255 ≤ (deedK l k).fr ∧ (deedK l k).fr ≤ 1000 + 100 * (k : Int) ∧ 1000 + 100 * (k : Int) ≤ (deedK l k).to := by
  unfold deedK deedOf
  cases h : l[k]? with
  | none => simp [was0]; omega
  | some d =>
    have := hs d (mem_of_some h)
    simp only [Option.getD_some]
    omega
theorem chk_made {l : List WasD} (hs : SmallW l) {n : Nat} (hn : l.length = n) : ∀ (q k : Nat), k + q = n → chkB (madeK l n) (doneK n k) (fAt (plansL l) k) ((ordK n n).drop k) = true
  | 0, k, h => by
    obtain rfl : k = n := by omega
    rw [List.drop_of_length_le (by rw [ordK_len]; omega), chkB]
    unfold allB
    rw [List.all_eq_true]
    intro j hj
    have hj := List.mem_range.1 hj
    rw [madeK_len] at hj
    rw [Bool.or_eq_true]
    exact .inl (decide_eq_true ((doneK_mem (Nat.le_refl _) hj).2 (by omega)))
  | q + 1, k, h => by
    have hk : k < n := by omega
    rw [ord_drop hk, chkB, madeK_len, Int.toNat_natCast]
    obtain ⟨d, hd⟩ := some_of_lt (show k < l.length by omega)
    have hp : (plansL l)[k]? = some d.plan := by unfold plansL; rw [List.getElem?_map, hd]; rfl
    have hg : (madeK l n).get (n - 1 - k) = deedOf l k d := by
      rw [madeK_get l (by omega), show n - 1 - (n - 1 - k) = k by omega, deedK_of hd]
    have hf := fAt_succ hp
    have h1 : mayB (madeK l n) (doneK n k) (n - 1 - k) = true := by
      rw [may_iff]
      refine ⟨fun j hj => ?_, fun hm => ?_⟩
      · rw [madeK_len] at hj
        rw [doneK_mem (by omega) hj]
        by_cases hlt : n - 1 - j < k
        · exact .inl hlt
        · refine .inr ?_
          rw [madeK_get l hj, madeK_get l (show n - 1 - k < n by omega), show n - 1 - (n - 1 - k) = k by omega]
          have a := deedK_bound hs (n - 1 - j)
          have b := deedK_bound hs k
          unfold lateB
          rw [Bool.and_eq_false_iff]
          right
          rw [decide_eq_false_iff_not]
          omega
      · have := (doneK_mem (show k ≤ n by omega) (show n - 1 - k < n by omega)).1 hm
        omega
    have h2 : tellB ((madeK l n).get (n - 1 - k)) (fAt (plansL l) k) = true := by
      rw [hg]
      unfold tellB deedOf
      simp
    have h3 : chkB (madeK l n) (doneK n (k + 1)) (fAt (plansL l) (k + 1)) ((ordK n n).drop (k + 1)) = true := chk_made hs hn q (k + 1) (by omega)
    rw [doneK_snoc, hf] at h3
    rw [h1, h2, hg, show (deedOf l k d).plan = d.plan from rfl, h3, show decide ((0 : Int) ≤ ((n - 1 - k : Nat) : Int)) = true by simp, show decide (((n - 1 - k : Nat) : Int) < (n : Int)) = true by simp; omega]
    rfl
theorem made_law {l : List WasD} (hs : SmallW l) {n : Nat} (hn : l.length = n) (h0 : rightD (madeK l n) = 0) :
    checkO (madeK l n) (ordK n n) = true ∧ ∃ o, explO (madeK l n) = some o ∧ checkO (madeK l n) (natL o) = true ∧ o.length ≤ n := by
  have hc := chk_made hs hn n 0 (by omega)
  have hc : chkB (madeK l n) [] none0 (ordK n n) = true := hc
  have hf := chk_find _ n [] none0 hc (by simp) (by simp) (by rw [madeK_len]; omega)
  obtain ⟨o, ho⟩ := Option.isSome_iff_exists.1 hf
  refine ⟨by unfold checkO; rw [h0, hc]; rfl, o, by unfold explO; rw [if_pos h0, madeK_len]; exact ho, ?_, find_short n ho⟩
  unfold checkO
  rw [h0, (find_chk n [] none0 o ho).1]
  rfl
end Go.Proofs.YtbggadhaaphmcaaDoor
