/- Which places are reached: in plain words, and as the walk reckons it. -/
import Derived.Test.YtfcdplfnhjbdnabDoorIx
import Derived.Lib.TrailingZeros
namespace Go.Proofs.YtfcdplfnhjbdnabDoor
open Go.RowKit
set_option linter.unusedVariables false

/-- An edge between two places. -/
def Eg (l : List Nd) (i j : Nat) : Prop := ∃ x : Nd, l[i]? = some x ∧ x.to.testBit j = true
/-- A way, by some places alone. -/
inductive Way (l : List Nd) (by_ : Nat) (i : Nat) : Nat → Prop
  | one {j : Nat} (h : Eg l i j) : Way l by_ i j
  | more {j k : Nat} (h : Way l by_ i j) (hb : by_.testBit j = true) (h' : Eg l j k) : Way l by_ i k
def toAt (l : List Nd) (i : Nat) : Nat := (l.getD i ⟨0, 0, 0⟩).to
theorem toAt_of {l : List Nd} {i : Nat} {x : Nd} (h : l[i]? = some x) : toAt l i = x.to := by
  unfold toAt
  rw [List.getD_eq_getElem?_getD, h]; rfl
theorem eg_iff {l : List Nd} {i j : Nat} : Eg l i j ↔ (toAt l i).testBit j = true := by
  constructor
  · rintro ⟨x, hx, h⟩
    rwa [toAt_of hx]
  · intro h
    unfold toAt at h
    rw [List.getD_eq_getElem?_getD] at h
    rcases hx : l[i]? with _ | x
    · rw [hx] at h; simp at h
    · rw [hx] at h; exact ⟨x, hx, h⟩
/-! ### Sets of places as bits -/
def full : Nat := 18446744073709551615
def minus (a b : Nat) : Nat := a &&& (full - b)
theorem bit_minus {a b j : Nat} (ha : a < 18446744073709551616) (hb : b < 18446744073709551616) : (minus a b).testBit j = (a.testBit j && !b.testBit j) := by
  unfold minus full
  rw [Nat.testBit_and]
  by_cases hj : j < 64
  · have : (18446744073709551615 - b) = 2 ^ 64 - (b + 1) := by omega
    rw [this, Nat.testBit_two_pow_sub_succ (by omega)]
    simp [hj]
  · have : a.testBit j = false := Nat.testBit_lt_two_pow (Nat.lt_of_lt_of_le (show a < 2 ^ 64 by omega) (Nat.pow_le_pow_right (by decide) (by omega)))
    rw [this]; simp
theorem minus_lt {a b : Nat} (ha : a < 18446744073709551616) : minus a b < 18446744073709551616 := Nat.lt_of_le_of_lt Nat.and_le_left ha
theorem or_lt64 {a b : Nat} (ha : a < 18446744073709551616) (hb : b < 18446744073709551616) : a ||| b < 18446744073709551616 := Nat.or_lt_two_pow (n := 64) ha hb
theorem bit_pow {i j : Nat} : (2 ^ i).testBit j = decide (i = j) := Nat.testBit_two_pow
theorem bit_big {a j : Nat} (ha : a < 18446744073709551616) (hj : 64 ≤ j) : a.testBit j = false :=
  Nat.testBit_lt_two_pow (Nat.lt_of_lt_of_le (show a < 2 ^ 64 by omega) (Nat.pow_le_pow_right (by decide) hj))
theorem bits_eq {a b : Nat} (h : ∀ j, a.testBit j = b.testBit j) : a = b := Nat.eq_of_testBit_eq h
theorem zero_of {a : Nat} (h : ∀ j, a.testBit j = false) : a = 0 := bits_eq fun j => by rw [h j]; simp
theorem ctz_bit {x : Nat} (h0 : x ≠ 0) (h : x < 18446744073709551616) : Lib.ctz 64 x < 64 ∧ x.testBit (Lib.ctz 64 x) = true := by
  unfold Lib.ctz
  rw [if_neg h0]
  obtain ⟨m, hm, hk⟩ := Lib.ctzFrom_spec 64 x (by omega) (by omega)
  refine ⟨hk, ?_⟩
  generalize Lib.ctzFrom 64 x = k at *
  rw [hm, Nat.mul_comm, Nat.testBit_mul_two_pow]
  simp
/-! ### The walk's own reckoning -/
def goStep (l : List Nd) (by_ : Nat) (seen todo : Nat) : Nat × Nat :=
  let i := Lib.ctz 64 todo
  let t := minus todo (2 ^ i)
  let s := seen ||| 2 ^ i
  (s, if by_.testBit i then t ||| minus (toAt l i) s else t)
noncomputable def goG (l : List Nd) (by_ : Nat) (n : Nat) : Nat → Nat → Nat :=
  Nat.rec (fun s _ => s) (fun _ ih s t => if t = 0 then s else ih (goStep l by_ s t).1 (goStep l by_ s t).2) n
theorem goG_succ (l : List Nd) (by_ n s t : Nat) : goG l by_ (n + 1) s t = if t = 0 then s else goG l by_ n (goStep l by_ s t).1 (goStep l by_ s t).2 := rfl
noncomputable def fromG (l : List Nd) (by_ at_ : Nat) : Nat := goG l by_ 18446744073709551616 0 (toAt l at_)
/-- What holds at the head of the loop. -/
structure Mid (l : List Nd) (by_ at_ n s t : Nat) : Prop where
  s64 : s < 18446744073709551616
  t64 : t < 2 ^ l.length
  fuel : 18446744073709551616 - s ≤ n
  apart : ∀ j, s.testBit j = true → t.testBit j = false
  sound : ∀ j, s.testBit j = true ∨ t.testBit j = true → Way l by_ at_ j
  start : ∀ j, Eg l at_ j → s.testBit j = true ∨ t.testBit j = true
  shut : ∀ i j, s.testBit i = true → by_.testBit i = true → Eg l i j → s.testBit j = true ∨ t.testBit j = true
theorem to_lt {l : List Nd} (h : Ok l) (i : Nat) : toAt l i < 2 ^ l.length := by
  unfold toAt
  rw [List.getD_eq_getElem?_getD]
  rcases hx : l[i]? with _ | x
  · exact Nat.two_pow_pos _
  · exact h.bits x (mem_of_some hx)
theorem len64 {l : List Nd} (h : Ok l) {a : Nat} (ha : a < 2 ^ l.length) : a < 18446744073709551616 := by
  have h2 : 2 ^ l.length ≤ 2 ^ 64 := Nat.pow_le_pow_right (by decide) h.len
  omega
theorem bit_lt {a n j : Nat} (ha : a < 2 ^ n) (hj : a.testBit j = true) : j < n := by
  rcases Nat.lt_or_ge j n with h | h
  · exact h
  · rw [Nat.testBit_lt_two_pow (Nat.lt_of_lt_of_le ha (Nat.pow_le_pow_right (by decide) h))] at hj
    cases hj
theorem lt_of_bits {a n : Nat} (h : ∀ j, a.testBit j = true → j < n) : a < 2 ^ n := by
  rcases Nat.lt_or_ge a (2 ^ n) with h' | h'
  · exact h'
  · obtain ⟨i, hi, hb⟩ := Nat.exists_ge_and_testBit_of_ge_two_pow h'
    have := h i hb
    omega
theorem Mid.begin {l : List Nd} (h : Ok l) (by_ at_ : Nat) : Mid l by_ at_ 18446744073709551616 0 (toAt l at_) :=
  ⟨by decide, to_lt h _, by omega, by simp, fun j hj => by
    rcases hj with hj | hj
    · simp at hj
    · exact .one (eg_iff.2 hj), fun j hj => .inr (eg_iff.1 hj), by simp⟩
theorem Mid.next {l : List Nd} (h : Ok l) {by_ at_ n s t : Nat} (hm : Mid l by_ at_ (n + 1) s t) (ht : t ≠ 0) : Mid l by_ at_ n (goStep l by_ s t).1 (goStep l by_ s t).2 := by
  have t64 := len64 h hm.t64
  obtain ⟨hi, hb⟩ := ctz_bit ht t64
  have hil := bit_lt hm.t64 hb
  unfold goStep
  generalize Lib.ctz 64 t = i at *
  simp only
  have p64 := pow64 hi
  have hsi : s.testBit i = false := by
    rcases hs : s.testBit i with _ | _
    · rfl
    · rw [hm.apart i hs] at hb; cases hb
  have s64 := or_lt64 hm.s64 p64
  have to64 := len64 h (to_lt h i)
  have bs : ∀ j, (s ||| 2 ^ i).testBit j = (s.testBit j || decide (i = j)) := fun j => by rw [Nat.testBit_or, bit_pow]
  have bt : ∀ j, (minus t (2 ^ i)).testBit j = (t.testBit j && !decide (i = j)) := fun j => by rw [bit_minus t64 p64, bit_pow]
  have bo : ∀ j, (minus (toAt l i) (s ||| 2 ^ i)).testBit j = ((toAt l i).testBit j && !(s.testBit j || decide (i = j))) := fun j => by rw [bit_minus to64 s64, bs]
  have bn : ∀ j, (if by_.testBit i = true then minus t (2 ^ i) ||| minus (toAt l i) (s ||| 2 ^ i) else minus t (2 ^ i)).testBit j =
      ((t.testBit j && !decide (i = j)) || (by_.testBit i && ((toAt l i).testBit j && !(s.testBit j || decide (i = j))))) := fun j => by
    split
    · rename_i hby
      rw [Nat.testBit_or, bt, bo, hby, Bool.true_and]
    · rename_i hby
      rw [bt]
      simp [hby]
  generalize (if by_.testBit i = true then minus t (2 ^ i) ||| minus (toAt l i) (s ||| 2 ^ i) else minus t (2 ^ i)) = T at *
  have hgrow : s < s ||| 2 ^ i := by
    rcases Nat.lt_or_ge s (s ||| 2 ^ i) with h' | h'
    · exact h'
    · have h1 : s ≤ s ||| 2 ^ i := Nat.left_le_or
      have e : s = s ||| 2 ^ i := Nat.le_antisymm h1 h'
      have := bs i
      rw [← e, hsi] at this
      simp at this
  have hway : Way l by_ at_ i := hm.sound i (.inr hb)
  have keep : ∀ j, s.testBit j = true ∨ t.testBit j = true → (s ||| 2 ^ i).testBit j = true ∨ T.testBit j = true := fun j hj => by
    rw [bs, bn]
    by_cases e : i = j
    · exact .inl (by simp [e])
    · rcases hj with hj | hj
      · exact .inl (by simp [hj])
      · exact .inr (by simp [hj, e])
  refine ⟨s64, lt_of_bits fun j hj => ?_, by have := hm.fuel; omega, fun j hj => ?_, fun j hj => ?_, fun j hj => keep j (hm.start j hj), fun a j ha hby hE => ?_⟩
  · rw [bn] at hj
    simp only [Bool.or_eq_true, Bool.and_eq_true] at hj
    rcases hj with hj | hj
    · exact bit_lt hm.t64 hj.1
    · exact bit_lt (to_lt h i) hj.2.1
  · rw [bs] at hj
    rw [bn]
    simp only [Bool.or_eq_true, decide_eq_true_eq] at hj
    rcases hj with hj | hj
    · simp [hm.apart j hj, hj]
    · simp [hj]
  · rw [bs, bn] at hj
    simp only [Bool.or_eq_true, Bool.and_eq_true, decide_eq_true_eq] at hj
    rcases hj with (hj | hj) | (hj | hj)
    · exact hm.sound j (.inl hj)
    · exact hj ▸ hway
    · exact hm.sound j (.inr hj.1)
    · exact .more hway hj.1 (eg_iff.2 hj.2.1)
  · rw [bs] at ha
    simp only [Bool.or_eq_true, decide_eq_true_eq] at ha
    rcases ha with ha | ha
    · exact keep j (hm.shut a j ha hby hE)
    · subst ha
      have := eg_iff.1 hE
      rw [bs, bn]
      by_cases e : i = j
      · exact .inl (by simp [e])
      · by_cases hs : s.testBit j = true
        · exact .inl (by simp [hs])
        · exact .inr (by simp [hby, this, e, hs])
theorem Mid.grow {l : List Nd} (h : Ok l) {by_ at_ n s t : Nat} (hm : Mid l by_ at_ n s t) (ht : t ≠ 0) : s < s ||| 2 ^ Lib.ctz 64 t := by
  obtain ⟨hi, hb⟩ := ctz_bit ht (len64 h hm.t64)
  generalize Lib.ctz 64 t = i at *
  rcases Nat.lt_or_ge s (s ||| 2 ^ i) with h' | h'
  · exact h'
  · have e : s = s ||| 2 ^ i := Nat.le_antisymm Nat.left_le_or h'
    have hsi : s.testBit i = false := by
      rcases hs : s.testBit i with _ | _
      · rfl
      · rw [hm.apart i hs] at hb; cases hb
    have : (s ||| 2 ^ i).testBit i = (s.testBit i || decide (i = i)) := by rw [Nat.testBit_or, bit_pow]
    rw [← e, hsi] at this
    simp at this
theorem Mid.end_ {l : List Nd} {by_ at_ n s : Nat} (hm : Mid l by_ at_ n s 0) (j : Nat) : s.testBit j = true ↔ Way l by_ at_ j := by
  refine ⟨fun h => hm.sound j (.inl h), fun h => ?_⟩
  induction h with
  | one h => have := hm.start _ h; simpa using this
  | more h hb h' ih => have := hm.shut _ _ ih hb h'; simpa using this
theorem Mid.pos {l : List Nd} {by_ at_ n s t : Nat} (hm : Mid l by_ at_ n s t) : ∃ m, n = m + 1 := ⟨n - 1, by have := hm.s64; have := hm.fuel; omega⟩
theorem goG_spec {l : List Nd} (h : Ok l) {by_ at_ : Nat} : ∀ (n s t : Nat), Mid l by_ at_ n s t → (goG l by_ n s t < 18446744073709551616 ∧ ∀ j, (goG l by_ n s t).testBit j = true ↔ Way l by_ at_ j)
  | 0, s, t, hm => by obtain ⟨m, hm'⟩ := hm.pos; omega
  | n + 1, s, t, hm => by
    rw [goG_succ]
    by_cases ht : t = 0
    · rw [if_pos ht]
      subst ht
      exact ⟨hm.s64, hm.end_⟩
    · rw [if_neg ht]
      exact goG_spec h n _ _ (hm.next h ht)
theorem fromG_spec {l : List Nd} (h : Ok l) (by_ at_ j : Nat) : (fromG l by_ at_).testBit j = true ↔ Way l by_ at_ j := (goG_spec h _ _ _ (Mid.begin h by_ at_)).2 j
theorem fromG_64 {l : List Nd} (h : Ok l) (by_ at_ : Nat) : fromG l by_ at_ < 18446744073709551616 := (goG_spec h _ _ _ (Mid.begin h by_ at_)).1
end Go.Proofs.YtfcdplfnhjbdnabDoor
