/- The reference's way, in plain words. -/
import Derived.Test.YtfcdplfnhjbdnabDoorRa
namespace Go.Proofs.YtfcdplfnhjbdnabDoor
open Go.RowKit Go.Sort
set_option linter.unusedVariables false

/-- A way along edges, by those that may be passed. -/
inductive Wr (E : List (Int × Int)) (P : Int → Bool) (f : Int) : Int → Prop
  | one {t : Int} : (f, t) ∈ E → Wr E P f t
  | more {m t : Int} : Wr E P f m → P m = true → (m, t) ∈ E → Wr E P f t
/-- All edges of y are done. -/
def Shut (E : List (Int × Int)) (P : Int → Bool) (t : Int) (S : List Int) (y : Int) : Prop := ∀ z, (y, z) ∈ E → z ≠ t ∧ (z ∈ S ∨ P z = false)
/-- A search: what was seen, what is left; x is under way, as far as its k-th edge. -/
structure Sr (E : List (Int × Int)) (P : Int → Bool) (f t : Int) (S T : List Int) (x : Int) (k : Nat) : Prop where
  nd : S.Nodup
  seen : ∀ y, y ∈ S → Wr E P f y ∧ P y = true ∧ ∃ a, (a, y) ∈ E
  todo : ∀ y, y ∈ T → y = f ∨ y ∈ S
  at_ : x = f ∨ x ∈ S
  done : ∀ y, (y = f ∨ y ∈ S) → y ∈ T ∨ y = x ∨ Shut E P t S y
  part : ∀ i z, i < k → E[i]? = some (x, z) → z ≠ t ∧ (z ∈ S ∨ P z = false)
/-- Between two of them. -/
structure Sw (E : List (Int × Int)) (P : Int → Bool) (f t : Int) (S T : List Int) : Prop where
  nd : S.Nodup
  seen : ∀ y, y ∈ S → Wr E P f y ∧ P y = true ∧ ∃ a, (a, y) ∈ E
  todo : ∀ y, y ∈ T → y = f ∨ y ∈ S
  done : ∀ y, (y = f ∨ y ∈ S) → y ∈ T ∨ Shut E P t S y
section
variable {E : List (Int × Int)} {P : Int → Bool} {f t : Int} {S T : List Int}
theorem sw_begin : Sw E P f t [] [f] := ⟨by simp, by simp, by simp, by simp⟩
theorem sw_pop {x : Int} (h : Sw E P f t S (x :: T)) : Sr E P f t S T x 0 :=
  ⟨h.nd, h.seen, fun y hy => h.todo y (by simp [hy]), h.todo x (by simp), fun y hy => by
    rcases h.done y hy with h1 | h1
    · rcases List.mem_cons.1 h1 with rfl | h1
      · exact .inr (.inl rfl)
      · exact .inl h1
    · exact .inr (.inr h1), fun i z hi => absurd hi (by omega)⟩
theorem sr_end {x : Int} (h : Sr E P f t S T x E.length) : Sw E P f t S T :=
  ⟨h.nd, h.seen, h.todo, fun y hy => by
    rcases h.done y hy with h1 | rfl | h1
    · exact .inl h1
    · refine .inr fun z hz => ?_
      obtain ⟨i, hi⟩ := List.mem_iff_getElem?.1 hz
      exact h.part i z (lt_of_some hi) hi
    · exact .inr h1⟩
theorem sr_skip {x a b : Int} {k : Nat} (h : Sr E P f t S T x k) (he : E[k]? = some (a, b)) (hs : a = x → b ≠ t ∧ (b ∈ S ∨ P b = false)) : Sr E P f t S T x (k + 1) :=
  ⟨h.nd, h.seen, h.todo, h.at_, h.done, fun i z hi hz => by
    by_cases e : i = k
    · subst e
      rw [he] at hz
      injection hz with hz
      injection hz with h1 h2
      subst h2
      exact hs h1
    · exact h.part i z (by omega) hz⟩
theorem sr_way {x b : Int} {k : Nat} (h : Sr E P f t S T x k) (he : E[k]? = some (x, b)) : Wr E P f b := by
  rcases h.at_ with rfl | hx
  · exact .one (mem_of_some he)
  · obtain ⟨h1, h2, _⟩ := h.seen x hx
    exact .more h1 h2 (mem_of_some he)
theorem sr_new {x b : Int} {k : Nat} (h : Sr E P f t S T x k) (he : E[k]? = some (x, b)) (hbt : b ≠ t) (hn : b ∉ S) (hp : P b = true) : Sr E P f t (S ++ [b]) (T ++ [b]) x (k + 1) := by
  have hw := sr_way h he
  refine ⟨?_, fun y hy => ?_, fun y hy => ?_, ?_, fun y hy => ?_, fun i z hi hz => ?_⟩
  · rw [List.nodup_append]
    refine ⟨h.nd, by simp, fun a ha b' hb' e => ?_⟩
    simp at hb'
    subst hb' e
    exact hn ha
  · rcases List.mem_append.1 hy with hy | hy
    · exact h.seen y hy
    · simp at hy
      subst hy
      exact ⟨hw, hp, x, mem_of_some he⟩
  · rcases List.mem_append.1 hy with hy | hy
    · rcases h.todo y hy with h1 | h1
      · exact .inl h1
      · exact .inr (List.mem_append.2 (.inl h1))
    · exact .inr (List.mem_append.2 (.inr hy))
  · rcases h.at_ with h1 | h1
    · exact .inl h1
    · exact .inr (List.mem_append.2 (.inl h1))
  · have old : (y = f ∨ y ∈ S) ∨ y = b := by
      rcases hy with h1 | h1
      · exact .inl (.inl h1)
      · rcases List.mem_append.1 h1 with h1 | h1
        · exact .inl (.inr h1)
        · simp at h1; exact .inr h1
    rcases old with h1 | rfl
    · rcases h.done y h1 with h2 | h2 | h2
      · exact .inl (List.mem_append.2 (.inl h2))
      · exact .inr (.inl h2)
      · refine .inr (.inr fun z hz => ?_)
        obtain ⟨h3, h4⟩ := h2 z hz
        exact ⟨h3, h4.imp (fun h => List.mem_append.2 (.inl h)) id⟩
    · exact .inl (by simp)
  · by_cases e : i = k
    · subst e
      rw [he] at hz
      injection hz with hz
      injection hz with h1 h2
      subst h2
      exact ⟨hbt, .inl (by simp)⟩
    · obtain ⟨h3, h4⟩ := h.part i z (by omega) hz
      exact ⟨h3, h4.imp (fun h => List.mem_append.2 (.inl h)) id⟩
theorem sw_end (h : Sw E P f t S []) : ¬ Wr E P f t := by
  have key : ∀ y, Wr E P f y → ∃ x, (x = f ∨ x ∈ S) ∧ (x, y) ∈ E := by
    intro y hy
    induction hy with
    | one he => exact ⟨f, .inl rfl, he⟩
    | more hw hp he ih =>
      obtain ⟨x, hx, hxe⟩ := ih
      rcases h.done x hx with h1 | h1
      · cases h1
      · rcases (h1 _ hxe).2 with h2 | h2
        · exact ⟨_, .inr h2, he⟩
        · rw [hp] at h2; cases h2
  intro hw
  obtain ⟨x, hx, hxe⟩ := key t hw
  rcases h.done x hx with h1 | h1
  · cases h1
  · exact (h1 _ hxe).1 rfl
theorem seen_len (hn : S.Nodup) (hs : ∀ y, y ∈ S → Wr E P f y ∧ P y = true ∧ ∃ a, (a, y) ∈ E) : S.length ≤ E.length := by
  have h1 : S ⊆ E.map Prod.snd := fun y hy => by
    obtain ⟨_, _, a, ha⟩ := hs y hy
    exact List.mem_map.2 ⟨_, ha, rfl⟩
  have := List.Nodup.length_le_of_subset hn h1
  simpa using this
end
end Go.Proofs.YtfcdplfnhjbdnabDoor
