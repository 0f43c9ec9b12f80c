/- Put as one contract, what it keeps; At. -/
import Derived.Test.YtfcdplfnhjbdnaaPu
namespace Go.Proofs.Ytfcdplfnhjbdnaa
open Go.RowKit Go.Maps
set_option linter.unusedVariables false

theorem cutAt_sub (l : List Ver) (m : Int) : ∀ v ∈ cutAt l m, v ∈ l := by
  intro v hv
  unfold cutAt at hv
  split at hv
  · split at hv
    · rw [List.dropLast_eq_take] at hv; exact List.mem_of_mem_take hv
    · exact hv
  · exact hv
theorem cutAt_rise {l : List Ver} (h : l.Pairwise fun a b => a.t < b.t) (m : Int) : (cutAt l m).Pairwise fun a b => a.t < b.t := by
  unfold cutAt
  split
  · split
    · rw [List.dropLast_eq_take]; exact h.sublist (List.take_sublist _ _)
    · exact h
  · exact h
/-- What a cut row holds is earlier. -/
theorem cutAt_lt {l : List Ver} (h : l.Pairwise fun a b => a.t < b.t) {m : Int} (hm : ∀ v ∈ l, v.t ≤ m) : ∀ v ∈ cutAt l m, v.t < m := by
  intro v hv
  unfold cutAt at hv
  rcases hl : l.getLast? with _ | x
  · rw [hl] at hv
    rw [List.getLast?_eq_none_iff] at hl
    subst hl
    simp at hv
  · rw [hl] at hv
    obtain ⟨r, rfl⟩ := List.getLast?_eq_some_iff.1 hl
    have hp := List.pairwise_append.1 h
    have hx := hm x (by simp)
    simp only at hv
    split at hv
    · rename_i hxt
      rw [List.dropLast_concat] at hv
      have := hp.2.2 v hv x (by simp)
      omega
    · rename_i hxt
      rcases List.mem_append.1 hv with hv | hv
      · have := hp.2.2 v hv x (by simp)
        omega
      · simp at hv
        subst hv
        omega
theorem cutAt_len (l : List Ver) (m : Int) : (cutAt l m).length ≤ l.length := by
  unfold cutAt
  split
  · split
    · simp
    · exact Nat.le_refl _
  · exact Nat.le_refl _
theorem good_put {s : CS} (h : Good s) (key val : ByteArray) (has : Bool) (m : Int) : Good (putS s key val has m) := by
  unfold putS
  split
  · rename_i he
    unfold putE at he
    split at he
    · omega
    split at he
    · omega
    rename_i h1 h2
    have hle : ∀ k, ∀ v ∈ s.f k, v.t ≤ m := fun k v hv => by have := (h.ver k v hv).2; omega
    refine ⟨fun k => ?_, fun k v hv => ?_, by show 0 ≤ m; omega, by show m ≤ maxClock; omega, h.f0, h.f1⟩
    · show (updF _ _ _ k).Pairwise _
      unfold updF
      split
      · rw [List.pairwise_append]
        refine ⟨cutAt_rise (h.rise _) m, by simp, fun a ha b hb => ?_⟩
        simp at hb
        subst hb
        exact cutAt_lt (h.rise _) (hle _) a ha
      · exact h.rise k
    · show 0 ≤ v.t ∧ v.t ≤ m
      have hv' : v ∈ updF s.f key.data.toList (cutAt (s.f key.data.toList) m ++ [putV val has m]) k := hv
      unfold updF at hv'
      split at hv'
      · rcases List.mem_append.1 hv' with hv' | hv'
        · have := h.ver _ v (cutAt_sub _ _ v hv')
          omega
        · simp at hv'
          subst hv'
          simp [putV]
          omega
      · have := h.ver _ v hv'
        omega
  · exact h
section
variable {w : World} {B cb mb n : Nat} {D : DataW Value} {V : List UInt8 → Value} {s : CS}
theorem put_any (h : CM w B cb mb n D V s) (hB : B ≤ w.heap.size) (hn : n ≤ 1000000) (key val : ByteArray) (has : Bool) (m : Int) (hl : (s.f key.data.toList).length ≤ 1000000) :
    Calls Try.prog 21 #[.pointer (some ⟨cb, 0, none⟩), .string key, .string val, .bool has, .int .i64 m] w fun e w' => e = .returned (.int .i64 (putE s key val m)) ∧ CP B cb mb (n + 1) V (putS s key val has m) w w' := by
  by_cases h1 : 16 < key.size ∨ 32 < val.size ∨ m < 0 ∨ maxClock < m
  · have e1 : putE s key val m = 1 := by unfold putE; rw [if_pos h1]
    have e2 : putS s key val has m = s := by unfold putS; rw [e1]; rfl
    rw [e1, e2]
    exact (put_bad h key val has m h1).mono fun _ _ ⟨q1, q2⟩ => ⟨q1, by subst q2; exact CP.refl h⟩
  · by_cases h2 : m < s.last ∨ m ≤ s.floor
    · have e1 : putE s key val m = 5 := by unfold putE; rw [if_neg h1, if_pos h2]
      have e2 : putS s key val has m = s := by unfold putS; rw [e1]; rfl
      rw [e1, e2]
      exact (put_late h key val has m (by omega) (by omega) (by omega) (by omega) h2).mono fun _ _ ⟨q1, q2⟩ => ⟨q1, by subst q2; exact CP.refl h⟩
    · have e1 : putE s key val m = 0 := by unfold putE; rw [if_neg h1, if_neg h2]
      have e2 : putS s key val has m = { s with f := updF s.f key.data.toList (cutAt (s.f key.data.toList) m ++ [putV val has m]), last := m } := by unfold putS; rw [e1]; rfl
      rw [e1, e2]
      exact put_ok h hB hn key val has m (by omega) (by omega) (by omega) (by omega) (by omega) (by omega) hl
def atE (s : CS) (m : Int) : Int := if m < 0 ∨ maxClock < m then 1 else if m < s.floor then 9 else 0
def atV (s : CS) (k : List UInt8) (m : Int) : ByteArray × Bool := if atE s m = 0 then valOf (s.f k) m else (⟨#[]⟩, false)
set_option maxRecDepth 100000 in
theorem at_any (h : CM w B cb mb n D V s) (hg : Good s) {key : ByteArray} (hk : key.size ≤ maxLen) (hl : (s.f key.data.toList).length ≤ 1000000) (m : Int) :
    Calls Try.prog 16 #[.pointer (some ⟨cb, 0, none⟩), .string key, .int .i64 m] w fun e w' => e = .returned (.tuple #[.string (atV s key.data.toList m).1, .bool (atV s key.data.toList m).2, .int .i64 (atE s m)]) ∧ NewW w w' := by
  have hmo := Lib.hid (moment_any m w)
  have c2 := h.c2
  by_cases h1 : m < 0 ∨ maxClock < m
  · have e1 : atE s m = 1 := by unfold atE; rw [if_pos h1]
    have e2 : atV s key.data.toList m = (⟨#[]⟩, false) := by unfold atV; rw [if_neg (by omega)]
    rw [e1, e2]
    have d3 : (decide (0 ≤ m) && decide (m ≤ 1099511627776)) = false := by
      unfold maxClock at h1
      by_cases h3 : 0 ≤ m
      · rw [decide_eq_false (show ¬ m ≤ 1099511627776 by omega), Bool.and_false]
      · rw [decide_eq_false h3, Bool.false_and]
    rw [d3] at hmo
    clear h hg e1 e2 h1 d3 hl hk
    go_enter Try.func16, Try.ntmps16
    go_wp2_with (go_at_call 29; refine hmo.out.mono ?_; rintro e w2 ⟨rfl, rfl⟩)
    go_ret3
    exact ⟨rfl, Ch.refl _ _⟩
  · have d3 : (decide (0 ≤ m) && decide (m ≤ 1099511627776)) = true := by
      unfold maxClock at h1
      rw [decide_eq_true (show 0 ≤ m by omega), decide_eq_true (show m ≤ 1099511627776 by omega)]; rfl
    rw [d3] at hmo
    by_cases h2 : m < s.floor
    · have e1 : atE s m = 9 := by unfold atE; rw [if_neg h1, if_pos h2]
      have e2 : atV s key.data.toList m = (⟨#[]⟩, false) := by unfold atV; rw [if_neg (by omega)]
      rw [e1, e2]
      have d4 : decide (m < s.floor) = true := by simpa using h2
      clear h hg e1 e2 h1 h2 d3 hl hk
      generalize s.floor = F at *
      go_enter Try.func16, Try.ntmps16
      go_wp2_with (go_at_call 29; refine hmo.out.mono ?_; rintro e w2 ⟨rfl, rfl⟩)
      go_ret3
      exact ⟨rfl, Ch.refl _ _⟩
    · have e1 : atE s m = 0 := by unfold atE; rw [if_neg h1, if_neg h2]
      have e2 : atV s key.data.toList m = valOf (s.f key.data.toList) m := by unfold atV; rw [if_pos e1]
      rw [e1, e2]
      have d4 : decide (m < s.floor) = false := by simpa using h2
      have hlk := h.look hk
      obtain ⟨A, c, hv⟩ := own_form (h.row key.data.toList)
      have hrow := h.row key.data.toList
      rw [hv] at hlk hrow
      have HV := Lib.hid (value_any A c _ m w (own_rdv hrow) (hg.rise _) hl)
      have c0 := h.c0
      clear h hv hrow hg e1 e2 h1 h2 d3 hk
      generalize s.f key.data.toList = l at *
      generalize valOf l m = vo at *
      generalize l.length = N at *
      generalize s.floor = F at *
      go_enter Try.func16, Try.ntmps16
      go_wp2_with (first
        | (go_at_call 29; refine hmo.out.mono ?_; rintro e w2 ⟨rfl, rfl⟩)
        | (go_at_call 30; refine HV.out.mono ?_; rintro e w3 ⟨rfl, hN⟩; have HN := Lib.hid hN; clear hN))
      go_ret3
      exact ⟨rfl, HN.out⟩
end
end Go.Proofs.Ytfcdplfnhjbdnaa
