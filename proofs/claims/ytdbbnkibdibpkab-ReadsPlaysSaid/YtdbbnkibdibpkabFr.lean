/- ReadsFresh, in plain words: what is answered began ahead of a round that a majority answered. -/
import Derived.Test.YtdbbnkibdibpkabLaw
namespace Go.Proofs.Ytdbbnkibdibpkab
open Go.RowKit
set_option linter.unusedVariables false

/-- How many of the nodes answered later than a round. -/
def later (s : RS) (r : Int) : Nat := ((List.range s.n).map s.ans).countP fun x => decide (r < x)
theorem later_sorted (s : RS) (r : Int) : later s r = (sorted s).countP fun x => decide (r < x) := by
  unfold later sorted anss
  exact ((List.mergeSort_perm _ _).countP_eq _).symm
theorem sorted_le (s : RS) : (sorted s).Pairwise fun x y => x ≤ y := by
  have := List.pairwise_mergeSort (le := fun x y : Int => decide (x ≤ y)) (fun a b c h1 h2 => by simp at h1 h2 ⊢; omega) (fun a b => by simp; omega) (anss s)
  exact this.imp fun h => by simpa using h
theorem majority (s : RS) (r : Int) (h1 : 1 ≤ s.n) (h : r < sureOf s) : s.n < 2 * later s r := by
  rw [later_sorted]
  have hl := sorted_len s
  have hp := sorted_le s
  have hlt : (s.n - 1) / 2 < (sorted s).length := by rw [hl]; omega
  have hs : sureOf s = (sorted s)[(s.n - 1) / 2] := by
    unfold sureOf
    rw [List.getD_eq_getElem?_getD, List.getElem?_eq_getElem hlt]
    rfl
  rw [hs] at h
  generalize sorted s = L at *
  have hsplit : L.countP (fun x => decide (r < x)) = (L.take ((s.n - 1) / 2)).countP (fun x => decide (r < x)) + (L.drop ((s.n - 1) / 2)).countP (fun x => decide (r < x)) := by
    rw [← List.countP_append, List.take_append_drop]
  have hall : (L.drop ((s.n - 1) / 2)).countP (fun x => decide (r < x)) = (L.drop ((s.n - 1) / 2)).length := by
    rw [List.countP_eq_length]
    intro x hx
    obtain ⟨j, hj⟩ := List.getElem?_of_mem hx
    rw [List.getElem?_drop] at hj
    have hjl := lt_of_some hj
    rw [List.getElem?_eq_getElem hjl] at hj
    injection hj with hj
    simp
    rcases Nat.eq_zero_or_pos j with h0 | h0
    · subst h0
      rw [← hj]
      simpa using h
    · have := List.pairwise_iff_getElem.1 hp ((s.n - 1) / 2) ((s.n - 1) / 2 + j) hlt hjl (by omega)
      rw [← hj]
      omega
  rw [List.length_drop] at hall
  omega
/-- What the first readings that may be answered tell. -/
theorem ready_head (s : RS) (W : List Rdg) {j : Nat} {x : Rdg} (hj : j < readyK s W) (hx : W[j]? = some x) : x.2.1 < sureOf s ∧ x.2.2 ≤ s.applied := by
  have hb : blocked (sureOf s) s.applied x = false := by
    unfold readyK firstIdx at hj
    rcases hf : W.findIdx? (blocked (sureOf s) s.applied) with _ | i
    · rw [List.findIdx?_eq_none_iff] at hf
      exact hf x (mem_of_some hx)
    · rw [hf] at hj
      simp at hj
      have := (List.findIdx?_eq_some_iff_getElem.1 hf).2.2 j hj
      have hjl := lt_of_some hx
      rw [List.getElem?_eq_getElem hjl] at hx
      injection hx with hx
      rw [hx] at this
      simpa using this
  simp [blocked] at hb
  omega
end Go.Proofs.Ytdbbnkibdibpkab
