/- General words for rows of structs in one block: a list of rows of one width laid flat. No program is spoken of. -/
import Derived.Test.YtbggadhaaphmcaaDoorLib
namespace Go.Proofs.YtbggadhaaphmcaaDoor
open Go.RowKit
set_option linter.unusedVariables false

section
variable {α β : Type} {f : α → List β} {m : Nat}
theorem flat_len {L : List α} (h : ∀ x ∈ L, (f x).length = m) : (L.flatMap f).length = L.length * m := by
  induction L with
  | nil => simp
  | cons x r ih =>
    rw [List.flatMap_cons, List.length_append, h x (by simp), ih (fun y hy => h y (by simp [hy])), List.length_cons, Nat.add_mul, Nat.one_mul, Nat.add_comm]
theorem flat_get {L : List α} (h : ∀ x ∈ L, (f x).length = m) {i j : Nat} {x : α} (hx : L[i]? = some x) (hj : j < m) : (L.flatMap f)[i * m + j]? = (f x)[j]? := by
  induction L generalizing i with
  | nil => simp at hx
  | cons y r ih =>
    rw [List.flatMap_cons]
    have hy := h y (by simp)
    cases i with
    | zero =>
      simp only [List.getElem?_cons_zero, Option.some.injEq] at hx
      subst hx
      rw [Nat.zero_mul, Nat.zero_add, List.getElem?_append_left (by omega)]
    | succ i =>
      simp only [List.getElem?_cons_succ] at hx
      rw [List.getElem?_append_right (by rw [hy, Nat.add_mul]; omega), hy, show (i + 1) * m + j - m = i * m + j by rw [Nat.add_mul]; omega]
      exact ih (fun z hz => h z (by simp [hz])) hx
theorem flat_set {L : List α} (h : ∀ x ∈ L, (f x).length = m) {i j : Nat} {x x' : α} {u : β} (hx : L[i]? = some x) (hj : j < m) (hu : f x' = (f x).set j u) : (L.flatMap f).set (i * m + j) u = (L.set i x').flatMap f := by
  induction L generalizing i with
  | nil => simp at hx
  | cons y r ih =>
    have hy := h y (by simp)
    cases i with
    | zero =>
      simp only [List.getElem?_cons_zero, Option.some.injEq] at hx
      subst hx
      rw [Nat.zero_mul, Nat.zero_add, List.set_cons_zero, List.flatMap_cons, List.flatMap_cons, List.set_append_left _ _ (by omega), hu]
    | succ i =>
      simp only [List.getElem?_cons_succ] at hx
      rw [List.set_cons_succ, List.flatMap_cons, List.flatMap_cons, List.set_append_right _ _ (by rw [hy, Nat.add_mul]; omega), hy, show (i + 1) * m + j - m = i * m + j by rw [Nat.add_mul]; omega, ih (fun z hz => h z (by simp [hz])) hx]
end
theorem some_of_lt {α : Type} {L : List α} {i : Nat} (h : i < L.length) : ∃ x, L[i]? = some x := ⟨L[i], List.getElem?_eq_getElem h⟩
theorem lt_of_some {α : Type} {L : List α} {i : Nat} {x : α} (h : L[i]? = some x) : i < L.length := by
  rcases Nat.lt_or_ge i L.length with h' | h'
  · exact h'
  · rw [List.getElem?_eq_none h'] at h; cases h
theorem mem_of_some {α : Type} {L : List α} {i : Nat} {x : α} (h : L[i]? = some x) : x ∈ L := List.mem_of_getElem? h
/-- An owned row's block, behind a store into another one. -/
theorem own_set_far {w : World} {base : Nat} {e : TypeId} {size n : Nat} {v : Value} {xs : List Value} (h : w.ownsRow base e size v n xs) {a : Addr} (ha : v.ownBlock ≠ some a.block) (u : Value) : (w.setCell a u).ownsRow base e size v n xs := ownsRow_setCell_other h ha u
theorem own_blk {w : World} {base : Nat} {e : TypeId} {size g n cap : Nat} {xs : List Value} (h : w.ownsRow base e size (.slice (some ⟨g, 0, none⟩) n cap) n xs) : ∃ cur, Blk w g e cur := by
  rcases h.2 with ⟨h1, _⟩ | ⟨g', cap', cur, h1, _, hh, _⟩
  · cases h1
  · injection h1 with h1
    injection h1 with h1
    injection h1 with h1
    subst h1
    exact ⟨cur, hh⟩
theorem ret_bool {a b : Bool} (h : a = b) : Ending.returned (.bool a) = .returned (.bool b) := by rw [h]
end Go.Proofs.YtbggadhaaphmcaaDoor
