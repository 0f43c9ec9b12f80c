/- Which operations and plans may be; clamping; which operations write: the program's functions and the document's. -/
import Derived.Test.YtbggadhaaphmcaaDoorSl
import Derived.Test.YtbggadhaaphmcaaDoorRows
import Derived.RegionTactic
import Derived.BigRegion
import Derived.Laws.StructEq
namespace Go.Proofs.YtbggadhaaphmcaaDoor
open Go.Lib Go.RowKit
set_option linter.unusedVariables false

theorem ret_int {k : IntKind} {a b : Int} (h : a = b) : Ending.returned (.int k a) = .returned (.int k b) := by rw [h]
theorem size_len (s : ByteArray) : s.data.toList.length = s.size := by cases s; rfl
theorem size_zero {s : ByteArray} (h : s.size = 0) : s = ⟨#[]⟩ := by
  have h1 := size_len s
  rw [h] at h1
  have h2 := List.eq_nil_of_length_eq_zero h1
  exact key_inj (by rw [h2])
theorem not_empty {s : ByteArray} (h : 0 < s.size) : s.toList.isEmpty = false ∧ decide (s.toList = []) = false ∧ s.toList ≠ [] := by
  have h1 : s.toList ≠ [] := by
    rw [ByteArray.toList_eq]
    intro e
    have := congrArg List.length e
    rw [size_len, List.length_nil] at this
    omega
  refine ⟨?_, by simpa using h1, h1⟩
  rcases hl : s.toList with _ | _
  · exact absurd hl h1
  · rfl
theorem clamp_any (n : Int) (w : World) : Calls Tryd.prog 61 #[.int .i64 n] w fun e w' => e = .returned (.int .i64 (clampI n)) ∧ w = w' := by
  go_enter Tryd.func61, Tryd.ntmps61
  go_wp2_with fail
  all_goals
    go_ret
    exact ⟨ret_int (by unfold clampI; omega), rfl⟩
theorem writes_any (o : OpD) (w : World) : Calls Tryd.prog 55 #[.agg #[.int .i64 o.k, .string o.key, .string o.val, .int .i64 o.n]] w fun e w' => e = .returned (.bool (wrB o)) ∧ NewW w w' := by
  obtain ⟨K, key, val, N⟩ := o
  unfold wrB
  dsimp only
  by_cases h2 : 2 ≤ K
  · have d : decide (2 ≤ K) = true := by simpa using h2
    have d2 : decide (K ≤ 5) = decide (K ≤ 5) := rfl
    rw [d]
    go_enter Tryd.func55, Tryd.ntmps55
    go_wp2_with fail
    go_ret
    exact ⟨rfl, (Ch.refl _ w).alloc _⟩
  · have d : decide (2 ≤ K) = false := by simpa using h2
    rw [d]
    go_enter Tryd.func55, Tryd.ntmps55
    go_wp2_with fail
    go_ret
    exact ⟨rfl, (Ch.refl _ w).alloc _⟩
/-- May an operation be? (the program) -/
theorem right_any (o : OpD) (w : World) : Calls Tryd.prog 52 #[.agg #[.int .i64 o.k, .string o.key, .string o.val, .int .i64 o.n]] w fun e w' => e = .returned (.bool (okB o)) ∧ NewW w w' := by
  obtain ⟨K, key, val, N⟩ := o
  unfold okB
  dsimp only
  have fin : ∀ (a b : Bool), a = b → Ending.returned (.bool a) = .returned (.bool b) := fun _ _ h => by rw [h]
  by_cases h6 : K = 6
  · subst h6
    go_enter Tryd.func52, Tryd.ntmps52
    go_wp2_with fail
    go_ret
    exact ⟨rfl, (Ch.refl _ w).alloc _⟩
  have d6 : (K == 6) = false := by simpa using h6
  rw [d6, Bool.false_or]
  have key_ok : ∀ b : Bool, b = (decide (0 < key.size) && decide (key.size ≤ 16)) → ((key.size = 0 ∧ b = false) ∨ (0 < key.size ∧ b = decide ((key.size : Int) ≤ 16))) := fun b hb => by
    rcases Nat.eq_zero_or_pos key.size with h | h
    · exact .inl ⟨h, by rw [hb, h]; rfl⟩
    · refine .inr ⟨h, ?_⟩
      rw [hb, decide_eq_true h, Bool.true_and]
      exact decide_eq_decide.2 (by omega)
  obtain ⟨Q, hQ⟩ : ∃ Q, (decide (0 < key.size) && decide (key.size ≤ 16)) = Q := ⟨_, rfl⟩
  rw [hQ]
  have hk := key_ok Q hQ.symm
  clear hQ key_ok
  by_cases h2 : K = 2
  · subst h2
    by_cases hv : val.size ≤ 32
    · have dv : decide (32 < (val.size : Int)) = false := by simp; omega
      have dv' : decide (32 < val.size) = false := by simp; omega
      rw [decide_eq_true hv]
      rcases hk with ⟨hk0, rfl⟩ | ⟨hk0, rfl⟩
      · obtain rfl := size_zero hk0
        clear hk0
        go_enter Tryd.func52, Tryd.ntmps52
        go_wp2_with fail
        go_ret
        exact ⟨rfl, (Ch.refl _ w).alloc _⟩
      · obtain ⟨e1, e2, e3⟩ := not_empty hk0
        clear hk0
        go_enter Tryd.func52, Tryd.ntmps52
        go_wp2_with fail
        go_ret
        exact ⟨by simp, (Ch.refl _ w).alloc _⟩
    · have dv : decide (32 < (val.size : Int)) = true := by simp; omega
      have dv' : decide (32 < val.size) = true := by simp; omega
      rw [decide_eq_false hv]
      clear hk
      go_enter Tryd.func52, Tryd.ntmps52
      go_wp2_with fail
      go_ret
      exact ⟨by simp, (Ch.refl _ w).alloc _⟩
  have d2 : (K == 2) = false := by simpa using h2
  rw [d2]
  by_cases h5 : K = 5
  · subst h5
    by_cases hn : -1125899906842624 ≤ N ∧ N ≤ 1125899906842624
    · have n1 : decide (N < -1125899906842624) = false := by simp; omega
      have n2 : decide (1125899906842624 < N) = false := by simp; omega
      rw [decide_eq_true hn.1, decide_eq_true hn.2]
      clear hn
      rcases hk with ⟨hk0, rfl⟩ | ⟨hk0, rfl⟩
      · obtain rfl := size_zero hk0
        clear hk0
        go_enter Tryd.func52, Tryd.ntmps52
        go_wp2_with fail
        go_ret
        exact ⟨rfl, (Ch.refl _ w).alloc _⟩
      · obtain ⟨e1, e2, e3⟩ := not_empty hk0
        clear hk0
        go_enter Tryd.func52, Tryd.ntmps52
        go_wp2_with fail
        go_ret
        exact ⟨by simp, (Ch.refl _ w).alloc _⟩
    · have hb : (decide (-1125899906842624 ≤ N) && decide (N ≤ 1125899906842624)) = false := by
        rcases Classical.em (-1125899906842624 ≤ N) with h | h
        · rw [decide_eq_false (fun h' => hn ⟨h, h'⟩), Bool.and_false]
        · rw [decide_eq_false h, Bool.false_and]
      rw [hb]
      clear hk
      by_cases hl : N < -1125899906842624
      · have n1 : decide (N < -1125899906842624) = true := by simpa using hl
        clear hn hl hb
        go_enter Tryd.func52, Tryd.ntmps52
        go_wp2_with fail
        go_ret
        exact ⟨by simp, (Ch.refl _ w).alloc _⟩
      · have n1 : decide (N < -1125899906842624) = false := by simpa using hl
        have n2 : decide (1125899906842624 < N) = true := by simp; omega
        clear hn hl hb
        go_enter Tryd.func52, Tryd.ntmps52
        go_wp2_with fail
        go_ret
        exact ⟨by simp, (Ch.refl _ w).alloc _⟩
  have d5 : (K == 5) = false := by simpa using h5
  rw [d5]
  by_cases h134 : K = 1 ∨ K = 3 ∨ K = 4
  · rcases h134 with rfl | rfl | rfl
    all_goals
      rcases hk with ⟨hk0, rfl⟩ | ⟨hk0, rfl⟩
      · obtain rfl := size_zero hk0
        clear hk0
        go_enter Tryd.func52, Tryd.ntmps52
        go_wp2_with fail
        go_ret
        exact ⟨rfl, (Ch.refl _ w).alloc _⟩
      · obtain ⟨e1, e2, e3⟩ := not_empty hk0
        clear hk0
        go_enter Tryd.func52, Tryd.ntmps52
        go_wp2_with fail
        go_ret
        exact ⟨by simp, (Ch.refl _ w).alloc _⟩
  · have d1 : (K == 1) = false := by simp; omega
    have d3 : (K == 3) = false := by simp; omega
    have d4 : (K == 4) = false := by simp; omega
    rw [d1, d3, d4]
    clear hk h134 h5 h2 h6
    go_enter Tryd.func52, Tryd.ntmps52
    go_wp2_with fail
    go_ret
    exact ⟨by simp, (Ch.refl _ w).alloc _⟩
end Go.Proofs.YtbggadhaaphmcaaDoor
