/- bank: sharing out: what all get comes to nothing; rows that are reckoned. No program is spoken of. -/
import Derived.Test.YtbggadhaaphmcaaDoorBp
namespace Go.Proofs.YtbggadhaaphmcaaDoor
open Go.Lib Go.RowKit
set_option linter.unusedVariables false

def oth (f : Int) (k : Nat) : Int := if f < (k : Int) then (k : Int) - 1 else k
theorem sumI_snoc (l : List Int) (x : Int) : sumI (l ++ [x]) = sumI l + x := by simp [sumI]
theorem shRun_inv (f s part rest : Int) (h0 : 0 ≤ f) (k : Nat) :
    sumI (shRun f s part rest k).2 = part * oth f k + (rest - (shRun f s part rest k).1) + (if f < (k : Int) then -s else 0) ∧
    (0 ≤ rest → (shRun f s part rest k).1 = max 0 (rest - oth f k)) ∧ (rest ≤ 0 → (shRun f s part rest k).1 = min 0 (rest + oth f k)) := by
  induction k with
  | zero =>
    rw [shRun_zero]
    unfold oth
    rw [if_neg (by simp; omega), if_neg (by simp; omega)]
    refine ⟨by simp [sumI], fun h => ?_, fun h => ?_⟩
    · dsimp only; simp; omega
    · dsimp only; simp; omega
  | succ k ih =>
    rw [shRun_succ]
    obtain ⟨i1, i2, i3⟩ := ih
    generalize hst : shRun f s part rest k = st at *
    obtain ⟨r, l⟩ := st
    dsimp only at i1 i2 i3
    by_cases e : (k : Int) = f
    · have ho : oth f k = k := by unfold oth; rw [if_neg (by omega)]
      have ho' : oth f (k + 1) = k := by unfold oth; rw [if_pos (by push_cast; omega)]; push_cast; omega
      have hs : shStep f s part (r, l) k = (r, l ++ [-s]) := by unfold shStep; rw [if_pos e]
      rw [hs, ho']
      rw [ho] at i1 i2 i3
      rw [if_neg (by omega)] at i1
      rw [if_pos (by push_cast; omega), sumI_snoc, i1]
      exact ⟨by dsimp only; omega, i2, i3⟩
    · have ho : oth f (k + 1) = oth f k + 1 := by
        unfold oth
        by_cases h : f < (k : Int)
        · rw [if_pos h, if_pos (by push_cast; omega)]; push_cast; omega
        · rw [if_neg h, if_neg (by push_cast; omega)]; push_cast; omega
      have hif : (if f < ((k + 1 : Nat) : Int) then -s else 0) = (if f < (k : Int) then -s else 0) := by
        by_cases h : f < (k : Int)
        · rw [if_pos h, if_pos (by push_cast; omega)]
        · rw [if_neg h, if_neg (by push_cast; omega)]
      have hno : 0 ≤ oth f k := by unfold oth; split <;> omega
      rw [ho, hif, Int.mul_add, Int.mul_one]
      generalize part * oth f k = P at *
      generalize oth f k = O at *
      generalize (if f < (k : Int) then -s else 0) = Z at *
      clear hst ho hif
      unfold shStep
      rw [if_neg e]
      dsimp only
      by_cases hp : 0 < r
      · rw [if_pos hp]
        dsimp only
        rw [sumI_snoc, i1]
        refine ⟨by omega, fun h => ?_, fun h => ?_⟩
        · have := i2 h; omega
        · have := i3 h; omega
      · rw [if_neg hp]
        by_cases hn : r < 0
        · rw [if_pos hn]
          dsimp only
          rw [sumI_snoc, i1]
          refine ⟨by omega, fun h => ?_, fun h => ?_⟩
          · have := i2 h; omega
          · have := i3 h; omega
        · rw [if_neg hn]
          dsimp only
          rw [sumI_snoc, i1]
          refine ⟨by omega, fun h => ?_, fun h => ?_⟩
          · have := i2 h; omega
          · have := i3 h; omega
theorem share_sum {n : Nat} {f s : Int} (h1 : 1 ≤ n) (h0 : 0 ≤ f) (hf : f < n) : sumI (shareI n f s) = 0 := by
  unfold shareI
  by_cases e : n = 1
  · rw [if_pos e]; rfl
  · rw [if_neg e]
    have hm : (0 : Int) < (n : Int) - 1 := by omega
    obtain ⟨a, b, c⟩ := shRun_inv f s (s.tdiv ((n : Int) - 1)) (s.tmod ((n : Int) - 1)) h0 n
    have ho : oth f n = (n : Int) - 1 := by unfold oth; rw [if_pos hf]
    rw [ho] at a b c
    rw [if_pos hf] at a
    have hd := Int.tdiv_mul_add_tmod s ((n : Int) - 1)
    have hlt := Int.tmod_lt_of_pos s hm
    have hgt := Int.lt_tmod_of_pos s hm
    generalize s.tdiv ((n : Int) - 1) * ((n : Int) - 1) = P at *
    generalize s.tmod ((n : Int) - 1) = R at *
    rw [a]
    rcases Int.le_total 0 R with h | h
    · have := b h; omega
    · have := c h; omega
theorem shStep_bound {f s part : Int} {st : Int × List Int} {i : Nat} {M : Int} (hs : -M ≤ s ∧ s ≤ M) (hp : -M ≤ part - 1 ∧ part + 1 ≤ M) (h : Bnd M st.2) : Bnd M (shStep f s part st i).2 := by
  have key : ∀ x, -M ≤ x ∧ x ≤ M → Bnd M (st.2 ++ [x]) := fun x hx y hy => by
    rcases List.mem_append.1 hy with hy | hy
    · exact h y hy
    · simp only [List.mem_singleton] at hy
      subst hy; exact hx
  unfold shStep
  split
  · exact key _ (by omega)
  · split
    · exact key _ (by omega)
    · split
      · exact key _ (by omega)
      · exact key _ (by omega)
theorem shRun_bound {f s part rest M : Int} (hs : -M ≤ s ∧ s ≤ M) (hp : -M ≤ part - 1 ∧ part + 1 ≤ M) (k : Nat) : Bnd M (shRun f s part rest k).2 := by
  induction k with
  | zero => intro x hx; simp [shRun_zero] at hx
  | succ k ih => rw [shRun_succ]; exact shStep_bound hs hp ih
theorem part_bound {s m M : Int} (hm : 0 < m) (h : -M ≤ s ∧ s ≤ M) : -M ≤ s.tdiv m ∧ s.tdiv m ≤ M := by
  obtain ⟨a, b⟩ := share_signs s m hm
  rcases Int.lt_or_le s 0 with h' | h'
  · rw [(b h').1]
    have h1 : 0 ≤ (-s) / m := Int.ediv_nonneg (by omega) (by omega)
    have h2 : (-s) / m ≤ -s := Int.ediv_le_self _ (by omega)
    omega
  · rw [(a h').1]
    have h1 : 0 ≤ s / m := Int.ediv_nonneg (by omega) (by omega)
    have h2 : s / m ≤ s := Int.ediv_le_self _ (by omega)
    omega
theorem share_bound {n : Nat} {f s : Int} (h1 : 1 ≤ n) (hs : -1048576 ≤ s ∧ s ≤ 1048576) : Bnd 10000000 (shareI n f s) := by
  unfold shareI
  split
  · intro x hx; simp at hx; subst hx; omega
  · have := part_bound (M := 1048576) (show (0 : Int) < (n : Int) - 1 by omega) hs
    exact shRun_bound (by omega) (by omega) n
/-! ### Gifts by number -/
def giftsOf (l : List Int) : List Gift := (List.range l.length).zip l
theorem gifts_len (l : List Int) : (giftsOf l).length = l.length := by simp [giftsOf]
theorem gifts_snoc (l : List Int) (x : Int) : giftsOf (l ++ [x]) = giftsOf l ++ [(l.length, x)] := by
  unfold giftsOf
  rw [List.length_append, List.length_singleton, List.range_succ, List.zip_append (by simp)]
  rfl
theorem gifts_snd (l : List Int) : (giftsOf l).map (·.2) = l := by
  unfold giftsOf
  exact List.map_snd_zip (by simp)
theorem gifts_mem {l : List Int} {p : Gift} (h : p ∈ giftsOf l) : p.1 < l.length ∧ p.2 ∈ l := by
  unfold giftsOf at h
  obtain ⟨a, b⟩ := p
  have := List.of_mem_zip h
  exact ⟨by simpa using this.1, this.2⟩
theorem addsR_snoc (row : List Int) (l : List Gift) (p : Gift) : addsR row (l ++ [p]) = addR (addsR row l) p := by simp [addsR]
theorem addsL_snoc (l : List Gift) (p : Gift) : addsL (l ++ [p]) = addsL l ++ [addO (p.1 : Int) p.2] := by simp [addsL]
theorem addsL_len (l : List Gift) : (addsL l).length = l.length := by simp [addsL]
end Go.Proofs.YtbggadhaaphmcaaDoor
