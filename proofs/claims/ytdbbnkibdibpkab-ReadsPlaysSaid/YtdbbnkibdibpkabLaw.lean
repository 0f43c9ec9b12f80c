/- ReadsEnd, in plain words: when all answer the new round and all is applied, nothing is blocked. -/
import Derived.Test.YtdbbnkibdibpkabRdy
namespace Go.Proofs.Ytdbbnkibdibpkab
open Go.RowKit
set_option linter.unusedVariables false

theorem mem_sorted (s : RS) (x : Int) : x ∈ sorted s ↔ ∃ i, i < s.n ∧ s.ans i = x := by
  unfold sorted
  rw [List.mem_mergeSort]
  simp [anss]
/-- Where all answered one round, that one is sure. -/
theorem sure_all (s : RS) (R : Int) (h1 : 1 ≤ s.n) (h : ∀ i, i < s.n → s.ans i = R) : sureOf s = R := by
  unfold sureOf
  have hl := sorted_len s
  have hlt : (s.n - 1) / 2 < (sorted s).length := by rw [hl]; omega
  rw [List.getD_eq_getElem?_getD, List.getElem?_eq_getElem hlt]
  obtain ⟨i, hi, he⟩ := (mem_sorted s _).1 (List.getElem_mem hlt)
  show (sorted s)[(s.n - 1) / 2] = R
  rw [← he, h i hi]
/-- What always holds. -/
structure Fine (s : RS) (W : List (Int × Int × Int)) : Prop where
  r0 : 0 ≤ s.rounds
  ans : ∀ i, i < s.n → s.ans i ≤ s.rounds
  row : ∀ x ∈ W, x.2.1 ≤ s.rounds ∧ x.2.2 ≤ s.commit
  app : s.applied ≤ s.commit
  app0 : 0 ≤ s.applied
theorem fine_fresh (me n : Nat) (f : Nat → Int) (hf : ∀ i, f i = 0) : Fine { self := me, n := n, ans := f, rounds := 0, commit := 0, applied := 0 } [] :=
  ⟨Int.le_refl 0, fun i _ => by show f i ≤ 0; rw [hf]; exact Int.le_refl 0, by simp, Int.le_refl 0, Int.le_refl 0⟩
theorem fine_commit {s : RS} {W : List Rdg} (h : Fine s W) (x : Int) : Fine (commitS s x) W := by
  unfold commitS
  split
  · exact h
  split
  · exact h
  · rename_i h1 h2
    exact ⟨h.r0, h.ans, fun y hy => ⟨(h.row y hy).1, by have := (h.row y hy).2; show y.2.2 ≤ x; omega⟩, by have := h.app; show s.applied ≤ x; omega, h.app0⟩
theorem fine_apply {s : RS} {W : List Rdg} (h : Fine s W) (x : Int) : Fine (applyS s x) W := by
  unfold applyS
  split
  · exact h
  split
  · exact h
  · rename_i h1 h2
    exact ⟨h.r0, h.ans, h.row, by show x ≤ s.commit; omega, by show 0 ≤ x; omega⟩
theorem fine_beat {s : RS} {W : List Rdg} (h : Fine s W) : Fine (beatS s) W := by
  refine ⟨by have := h.r0; show 0 ≤ s.rounds + 1; omega, fun i hi => ?_, fun y hy => ⟨by have := (h.row y hy).1; show y.2.1 ≤ s.rounds + 1; omega, (h.row y hy).2⟩, h.app, h.app0⟩
  have := h.ans i hi
  show upd s.ans s.self (s.rounds + 1) i ≤ s.rounds + 1
  unfold upd
  split <;> omega
theorem fine_ackS {s : RS} {W : List Rdg} (h : Fine s W) (k : Nat) (r : Int) (hr : r ≤ s.rounds) : Fine (ackS s k r) W := by
  refine ⟨h.r0, fun i hi => ?_, h.row, h.app, h.app0⟩
  have h1 := h.ans i hi
  show upd s.ans k (max (s.ans k) r) i ≤ s.rounds
  unfold upd
  split
  · rename_i e; subst e; omega
  · exact h1
theorem fine_more {s : RS} {W : List Rdg} (h : Fine s W) (id : Int) : Fine s (W ++ [(id, s.rounds, s.commit)]) :=
  ⟨h.r0, h.ans, fun y hy => by
    rcases List.mem_append.1 hy with hy | hy
    · exact h.row y hy
    · simp at hy; subst hy; exact ⟨Int.le_refl _, Int.le_refl _⟩, h.app, h.app0⟩
theorem fine_drop {s : RS} {W : List Rdg} (h : Fine s W) (k : Nat) : Fine s (W.drop k) := ⟨h.r0, h.ans, fun y hy => h.row y (List.mem_of_mem_drop hy), h.app, h.app0⟩
theorem fine_nil {s : RS} {W : List Rdg} (h : Fine s W) : Fine s [] := ⟨h.r0, h.ans, by simp, h.app, h.app0⟩
/-- All may be answered. -/
theorem ready_all {s : RS} {W : List Rdg} (h1 : 1 ≤ s.n) (ha : ∀ i, i < s.n → s.ans i = s.rounds) (hr : ∀ x ∈ W, x.2.1 < s.rounds ∧ x.2.2 ≤ s.applied) : readyK s W = W.length := by
  have hs := sure_all s s.rounds h1 ha
  have hf : firstIdx (blocked (sureOf s) s.applied) W = -1 := firstIdx_none fun j y _ hy => by
    have := hr y (mem_of_some hy)
    rw [hs]
    simp [blocked]
    omega
  unfold readyK
  rw [hf]
  rfl
end Go.Proofs.Ytdbbnkibdibpkab
