/- The order, in plain words. -/
import Derived.Test.YtfcdplfnhjbdnabDoorDr
namespace Go.Proofs.YtfcdplfnhjbdnabDoor
open Go.RowKit Go.Sort
set_option linter.unusedVariables false

theorem way_cons {l : List Nd} {by_ i j k : Nat} (h : Eg l i j) (hb : by_.testBit j = true) (hw : Way l by_ j k) : Way l by_ i k := by
  induction hw with
  | one h' => exact .more (.one h) hb h'
  | more _ hb' h' ih => exact .more ih hb' h'
theorem allN_bit {l : List Nd} {j : Nat} : (allN l).testBit j = decide (j < l.length) := by
  unfold allN
  rw [Nat.testBit_two_pow_sub_one]
theorem eg_lt {l : List Nd} (h : Ok l) {i j : Nat} (he : Eg l i j) : i < l.length ∧ j < l.length := by
  obtain ⟨x, hx, hb⟩ := he
  exact ⟨lt_of_some hx, bit_lt (h.bits x (mem_of_some hx)) hb⟩
theorem and_zero {a b : Nat} : a &&& b = 0 ↔ ∀ j, a.testBit j = true → b.testBit j = false := by
  constructor
  · intro h j hj
    have := congrArg (fun x => x.testBit j) h
    simp only [Nat.testBit_and, hj, Bool.true_and, Nat.zero_testBit] at this
    exact this
  · intro h
    refine zero_of fun j => ?_
    rw [Nat.testBit_and]
    rcases ha : a.testBit j with _ | _
    · rfl
    · rw [h j ha]; rfl
theorem sub_lt {x y j : Nat} (h : ∀ k, x.testBit k = true → y.testBit k = true) (hj : y.testBit j = true) (hx : x.testBit j = false) : x < y := by
  have h1 : x &&& y = x := bits_eq fun k => by
    rw [Nat.testBit_and]
    rcases hk : x.testBit k with _ | _
    · rfl
    · rw [h k hk]; rfl
  have h2 : x ≤ y := by rw [← h1]; exact Nat.and_le_right
  rcases Nat.lt_or_ge x y with h3 | h3
  · exact h3
  · have : x = y := Nat.le_antisymm h2 h3
    rw [this, hj] at hx
    cases hx
/-- Where there is no cycle one of those that are left may come. -/
theorem free_some {l : List Nd} (h : Ok l) (hc : ∀ i, i < l.length → cycAt l i = false) {left : Nat} (hl : left < 2 ^ l.length) (h0 : left ≠ 0) : ∃ i, left.testBit i = true ∧ toAt l i &&& left = 0 := by
  have key : ∀ (N i : Nat), fromG l (allN l) i ≤ N → left.testBit i = true → ∃ i, left.testBit i = true ∧ toAt l i &&& left = 0 := by
    intro N
    induction N with
    | zero =>
      intro i hN hi
      refine ⟨i, hi, and_zero.2 fun j hj => ?_⟩
      have hz : fromG l (allN l) i = 0 := by omega
      have := (fromG_spec h (allN l) i j).2 (.one (eg_iff.2 hj))
      rw [hz] at this
      simp at this
    | succ N ih =>
      intro i hN hi
      by_cases hf : toAt l i &&& left = 0
      · exact ⟨i, hi, hf⟩
      · rw [and_zero] at hf
        obtain ⟨j, hj⟩ : ∃ j, ¬ ((toAt l i).testBit j = true → left.testBit j = false) := Classical.not_forall.1 hf
        obtain ⟨hj1, hj2⟩ := Classical.not_imp.1 hj
        have hj2 : left.testBit j = true := by simpa using hj2
        have he : Eg l i j := eg_iff.2 hj1
        have hjl := (eg_lt h he).2
        have hab : (allN l).testBit j = true := by rw [allN_bit]; simpa using hjl
        have hlt : fromG l (allN l) j < fromG l (allN l) i := sub_lt (j := j) (fun k hk => (fromG_spec h _ _ _).2 (way_cons he hab ((fromG_spec h _ _ _).1 hk))) ((fromG_spec h _ _ _).2 (.one he)) (hc j hjl)
        exact ih j (by omega) hj2
  obtain ⟨i, hi⟩ : ∃ i, left.testBit i = true := by
    refine Classical.byContradiction fun hn => h0 (zero_of fun j => ?_)
    rcases hj : left.testBit j with _ | _
    · rfl
    · exact absurd ⟨j, hj⟩ hn
  exact key _ i (Nat.le_refl _) hi
def ndAt (l : List Nd) (i : Nat) : Nd := l.getD i ⟨0, 0, 0⟩
theorem ndAt_of {l : List Nd} {i : Nat} {x : Nd} (h : l[i]? = some x) : ndAt l i = x := by
  unfold ndAt
  rw [List.getD_eq_getElem?_getD, h]; rfl
theorem at_ndAt {l : List Nd} {i : Nat} (h : i < l.length) : l[i]? = some (ndAt l i) := by
  obtain ⟨x, hx⟩ := some_of_lt h
  rw [ndAt_of hx, hx]
/-- One that may come: it is left, and waits for none that is left. -/
def Free (l : List Nd) (left i : Nat) : Prop := left.testBit i = true ∧ toAt l i &&& left = 0
/-- The best one so far. -/
def Best (l : List Nd) (left k : Nat) (b : Int) : Prop := (b = -1 ∧ ∀ i, i < k → ¬ Free l left i) ∨ ∃ n : Nat, b = n ∧ n < k ∧ Free l left n ∧ ∀ i, i < k → Free l left i → bef (ndAt l i) (ndAt l n) = false
theorem best_zero (l : List Nd) (left : Nat) : Best l left 0 (-1) := .inl ⟨rfl, fun i hi => absurd hi (by omega)⟩
theorem best_not {l : List Nd} {left k : Nat} {b : Int} (h : Best l left k b) (hf : ¬ Free l left k) : Best l left (k + 1) b := by
  rcases h with ⟨h1, h2⟩ | ⟨n, h1, h2, h3, h4⟩
  · refine .inl ⟨h1, fun i hi => ?_⟩
    by_cases e : i = k
    · rw [e]; exact hf
    · exact h2 i (by omega)
  · refine .inr ⟨n, h1, by omega, h3, fun i hi hfi => ?_⟩
    by_cases e : i = k
    · rw [e] at hfi; exact absurd hfi hf
    · exact h4 i (by omega) hfi
theorem best_first {l : List Nd} {left k : Nat} {b : Int} (h : Best l left k b) (hb : b < 0) (hf : Free l left k) : Best l left (k + 1) k := by
  rcases h with ⟨h1, h2⟩ | ⟨n, h1, _⟩
  · refine .inr ⟨k, rfl, by omega, hf, fun i hi hfi => ?_⟩
    by_cases e : i = k
    · rw [e]; exact bef_irrefl _
    · exact absurd hfi (h2 i (by omega))
  · omega
theorem best_new {l : List Nd} {left k n : Nat} (h : Best l left k n) (hf : Free l left k) (hb : bef (ndAt l k) (ndAt l n) = true) : Best l left (k + 1) k := by
  rcases h with ⟨h1, _⟩ | ⟨n', h1, h2, h3, h4⟩
  · omega
  · obtain rfl : n = n' := by omega
    refine .inr ⟨k, rfl, by omega, hf, fun i hi hfi => ?_⟩
    by_cases e : i = k
    · rw [e]; exact bef_irrefl _
    · rcases hx : bef (ndAt l i) (ndAt l k) with _ | _
      · rfl
      · have := h4 i (by omega) hfi
        rw [bef_trans hx hb] at this
        cases this
theorem best_old {l : List Nd} {left k n : Nat} (h : Best l left k n) (hb : bef (ndAt l k) (ndAt l n) = false) : Best l left (k + 1) n := by
  rcases h with ⟨h1, _⟩ | ⟨n', h1, h2, h3, h4⟩
  · omega
  · obtain rfl : n = n' := by omega
    refine .inr ⟨n, rfl, by omega, h3, fun i hi hfi => ?_⟩
    by_cases e : i = k
    · rw [e]; exact hb
    · exact h4 i (by omega) hfi
/-- An order, as far as it goes: each comes behind those for which it waits, the elder ones first. -/
structure Ord (l : List Nd) (o : List Nat) (left : Nat) : Prop where
  nd : o.Nodup
  lt : ∀ i, i ∈ o → i < l.length
  left_ : ∀ i, left.testBit i = true ↔ i < l.length ∧ i ∉ o
  behind : ∀ (p n : Nat), o[p]? = some n → ∀ j, Eg l n j → j ∈ o.take p
  first : ∀ (p n : Nat), o[p]? = some n → ∀ i, i < l.length → i ∉ o.take p → (∀ j, Eg l i j → j ∈ o.take p) → bef (ndAt l i) (ndAt l n) = false
theorem ord_zero {l : List Nd} : Ord l [] (allN l) :=
  ⟨by simp, by simp, fun i => by rw [allN_bit]; simp, by simp, by simp⟩
theorem ord_lt {l : List Nd} {o : List Nat} {left : Nat} (h : Ord l o left) : left < 2 ^ l.length := lt_of_bits fun j hj => ((h.left_ j).1 hj).1
theorem ord_len {l : List Nd} {o : List Nat} {left : Nat} (h : Ord l o left) : o.length ≤ l.length := by
  have h1 : o ⊆ List.range l.length := fun i hi => List.mem_range.2 (h.lt i hi)
  have h2 := List.Nodup.length_le_of_subset h.nd h1
  simpa using h2
theorem ord_end {l : List Nd} {o : List Nat} (h : Ord l o 0) : o.length = l.length := by
  refine Nat.le_antisymm (ord_len h) ?_
  have h1 : List.range l.length ⊆ o := fun i hi => by
    have hi := List.mem_range.1 hi
    refine Classical.byContradiction fun hn => ?_
    have := (h.left_ i).2 ⟨hi, hn⟩
    simp at this
  have h2 := List.Nodup.length_le_of_subset (List.nodup_range (n := l.length)) h1
  simpa using h2
theorem take_snoc {o : List Nat} {n p : Nat} (hp : p ≤ o.length) : (o ++ [n]).take p = o.take p := by rw [List.take_append_of_le_length hp]
theorem ord_snoc {l : List Nd} (hk : Ok l) {o : List Nat} {left n : Nat} (h : Ord l o left) (hb : Best l left l.length n) (hl64 : left < 18446744073709551616) : Ord l (o ++ [n]) (minus left (2 ^ n)) ∧ minus left (2 ^ n) < left := by
  rcases hb with ⟨h1, _⟩ | ⟨n', h1, h2, h3, h4⟩
  · omega
  · obtain rfl : n = n' := by omega
    have h64 := hk.len
    have hno := (h.left_ n).1 h3.1
    have hbm : ∀ j, (minus left (2 ^ n)).testBit j = (left.testBit j && !decide (n = j)) := fun j => by rw [bit_minus hl64 (pow64 (by omega)), bit_pow]
    have hfree : ∀ i, Free l left i ↔ i < l.length ∧ i ∉ o ∧ ∀ j, Eg l i j → j ∈ o := by
      intro i
      unfold Free
      rw [h.left_, and_zero]
      constructor
      · rintro ⟨⟨a, b⟩, c⟩
        refine ⟨a, b, fun j hj => ?_⟩
        have := c j (eg_iff.1 hj)
        refine Classical.byContradiction fun hn => ?_
        rw [(h.left_ j).2 ⟨(eg_lt hk hj).2, hn⟩] at this
        cases this
      · rintro ⟨a, b, c⟩
        refine ⟨⟨a, b⟩, fun j hj => ?_⟩
        rcases hx : left.testBit j with _ | _
        · rfl
        · exact absurd (c j (eg_iff.2 hj)) ((h.left_ j).1 hx).2
    have hfn := (hfree n).1 h3
    refine ⟨⟨?_, fun i hi => ?_, fun i => ?_, fun p m hp j hj => ?_, fun p m hp i hi hni hij => ?_⟩, sub_lt (j := n) (fun k hk => ?_) h3.1 ?_⟩
    · rw [List.nodup_append]
      refine ⟨h.nd, by simp, fun a ha b hb e => ?_⟩
      simp at hb
      subst hb
      subst e
      exact hno.2 ha
    · rcases List.mem_append.1 hi with hi | hi
      · exact h.lt i hi
      · simp at hi; omega
    · rw [hbm, Bool.and_eq_true, h.left_, List.mem_append]
      simp
      constructor
      · rintro ⟨⟨a, b⟩, c⟩
        exact ⟨a, b, fun e => c e.symm⟩
      · rintro ⟨a, b, c⟩
        exact ⟨⟨a, b⟩, fun e => c e.symm⟩
    · by_cases hpl : p < o.length
      · rw [List.getElem?_append_left hpl] at hp
        rw [take_snoc (by omega)]
        exact h.behind p m hp j hj
      · have hpe : p = o.length := by
          have := lt_of_some hp
          simp at this; omega
        subst hpe
        rw [List.getElem?_append_right (Nat.le_refl _), Nat.sub_self] at hp
        simp at hp
        subst hp
        rw [take_snoc (Nat.le_refl _), List.take_length]
        exact hfn.2.2 j hj
    · by_cases hpl : p < o.length
      · rw [List.getElem?_append_left hpl] at hp
        rw [take_snoc (by omega)] at hni hij
        exact h.first p m hp i hi hni hij
      · have hpe : p = o.length := by
          have := lt_of_some hp
          simp at this; omega
        subst hpe
        rw [List.getElem?_append_right (Nat.le_refl _), Nat.sub_self] at hp
        simp at hp
        subst hp
        rw [take_snoc (Nat.le_refl _), List.take_length] at hni hij
        exact h4 i hi ((hfree i).2 ⟨hi, hni, hij⟩)
    · rw [hbm] at hk
      simp only [Bool.and_eq_true] at hk
      exact hk.1
    · rw [hbm]; simp
end Go.Proofs.YtfcdplfnhjbdnabDoor
