/- Drop, in plain words. -/
import Derived.Test.YtfcdplfnhjbdnabDoorEd
namespace Go.Proofs.YtfcdplfnhjbdnabDoor
open Go.RowKit Go.Sort
set_option linter.unusedVariables false

/-- The edges of a node, behind a dropping of the place at: the last one comes there. -/
def fixTo (at_ last t : Nat) : Nat :=
  if t.testBit last = true ∧ at_ ≠ last then minus t (2 ^ at_ ||| 2 ^ last) ||| 2 ^ at_ else minus t (2 ^ at_ ||| 2 ^ last)
def fixN (at_ last : Nat) (x : Nd) : Nd := ⟨x.id, x.st, fixTo at_ last x.to⟩
def movL (l : List Nd) (at_ : Nat) : List Nd := (l.set at_ (l.getD (l.length - 1) ⟨0, 0, 0⟩)).take (l.length - 1)
def dropL (l : List Nd) (at_ : Nat) : List Nd := (movL l at_).map (fixN at_ (l.length - 1))
theorem fix_bit {at_ last t j : Nat} (ht : t < 18446744073709551616) (ha : at_ < 64) (hl : last < 64) :
    (fixTo at_ last t).testBit j = ((t.testBit j && !decide (at_ = j) && !decide (last = j)) || (decide (at_ = j) && t.testBit last && !decide (at_ = last))) := by
  have hp := or_lt64 (pow64 ha) (pow64 hl)
  have e : (minus t (2 ^ at_ ||| 2 ^ last)).testBit j = (t.testBit j && !decide (at_ = j) && !decide (last = j)) := by
    rw [bit_minus ht hp, Nat.testBit_or, bit_pow, bit_pow]
    cases t.testBit j <;> cases decide (at_ = j) <;> cases decide (last = j) <;> rfl
  unfold fixTo
  split
  · rename_i h
    rw [Nat.testBit_or, bit_pow, e, h.1]
    simp [h.2]
  · rename_i h
    rw [e]
    rcases hb : t.testBit last with _ | _
    · simp
    · have : at_ = last := Classical.byContradiction fun hn => h ⟨hb, hn⟩
      simp [this]
theorem mov_len {l : List Nd} {at_ : Nat} : (movL l at_).length = l.length - 1 := by simp [movL]
theorem mov_get {l : List Nd} {at_ i : Nat} (hi : i < l.length - 1) (ha : at_ < l.length) : (movL l at_)[i]? = if at_ = i then l[l.length - 1]? else l[i]? := by
  unfold movL
  rw [List.getElem?_take_of_lt hi, List.getElem?_set]
  by_cases e : at_ = i
  · rw [if_pos e, if_pos e, if_pos ha, List.getD_eq_getElem?_getD, List.getElem?_eq_getElem (by omega)]; rfl
  · rw [if_neg e, if_neg e]
/-- Which place a place's node had ahead of the dropping. -/
def old (l : List Nd) (at_ i : Nat) : Nat := if at_ = i then l.length - 1 else i
theorem mov_old {l : List Nd} {at_ i : Nat} (hi : i < l.length - 1) (ha : at_ < l.length) : (movL l at_)[i]? = l[old l at_ i]? := by
  rw [mov_get hi ha]
  unfold old
  split <;> rfl
theorem old_lt {l : List Nd} {at_ i : Nat} (hi : i < l.length - 1) : old l at_ i < l.length ∧ old l at_ i ≠ at_ := by
  unfold old
  split
  · omega
  · rename_i h; omega
theorem old_inj {l : List Nd} {at_ i j : Nat} (hi : i < l.length - 1) (hj : j < l.length - 1) (h : old l at_ i = old l at_ j) : i = j := by
  unfold old at h
  split at h <;> split at h <;> omega
theorem old_onto {l : List Nd} {at_ k : Nat} (hk : k < l.length) (hne : k ≠ at_) (ha : at_ < l.length) : ∃ i, i < l.length - 1 ∧ old l at_ i = k := by
  by_cases e : k = l.length - 1
  · exact ⟨at_, by omega, by unfold old; rw [if_pos rfl, e]⟩
  · exact ⟨k, by omega, by unfold old; rw [if_neg (fun h => hne h.symm)]⟩
theorem drop_len {l : List Nd} {at_ : Nat} : (dropL l at_).length = l.length - 1 := by simp [dropL, mov_len]
theorem drop_get {l : List Nd} {at_ i : Nat} (hi : i < l.length - 1) (ha : at_ < l.length) : (dropL l at_)[i]? = (l[old l at_ i]?).map (fixN at_ (l.length - 1)) := by
  unfold dropL
  rw [List.getElem?_map, mov_old hi ha]
/-- An edge there is behind the dropping, just if there was one between the old places. -/
theorem fix_old {l : List Nd} {at_ j t : Nat} (ht : t < 18446744073709551616) (h64 : l.length ≤ 64) (hj : j < l.length - 1) (ha : at_ < l.length) : (fixTo at_ (l.length - 1) t).testBit j = t.testBit (old l at_ j) := by
  rw [fix_bit ht (by omega) (by omega)]
  unfold old
  by_cases e : at_ = j
  · subst e
    simp
    omega
  · rw [if_neg e]
    simp [e]
    omega
theorem drop_mem {l : List Nd} {at_ : Nat} (ha : at_ < l.length) {x : Nd} (hx : x ∈ dropL l at_) : ∃ (i : Nat) (y : Nd), i < l.length - 1 ∧ l[old l at_ i]? = some y ∧ (dropL l at_)[i]? = some x ∧ x = fixN at_ (l.length - 1) y := by
  obtain ⟨i, hi⟩ := List.mem_iff_getElem?.1 hx
  have hl := lt_of_some hi
  rw [drop_len] at hl
  have h2 := hi
  rw [drop_get hl ha] at h2
  rcases hy : l[old l at_ i]? with _ | y
  · rw [hy] at h2; cases h2
  · rw [hy] at h2
    injection h2 with h2
    exact ⟨i, y, hl, hy, hi, h2.symm⟩
theorem nodup_of_inj {α : Type} {l : List α} (h : ∀ (i j : Nat) (a : α), l[i]? = some a → l[j]? = some a → i = j) : l.Nodup := by
  refine List.pairwise_iff_getElem.2 fun i j hi hj hlt e => ?_
  have := h i j l[j] (by rw [List.getElem?_eq_getElem hi, e]) (List.getElem?_eq_getElem hj)
  omega
theorem ids_inj {l : List Nd} (h : Ok l) {i j : Nat} {x y : Nd} (hx : l[i]? = some x) (hy : l[j]? = some y) (e : x.id = y.id) : i = j := by
  have h1 : i < (l.map Nd.id).length := by rw [List.length_map]; exact lt_of_some hx
  have h2 : j < (l.map Nd.id).length := by rw [List.length_map]; exact lt_of_some hy
  refine nodup_inj h.ids h1 h2 ?_
  have a : (l.map Nd.id)[i]? = some x.id := by rw [List.getElem?_map, hx]; rfl
  have b : (l.map Nd.id)[j]? = some y.id := by rw [List.getElem?_map, hy]; rfl
  rw [List.getElem?_eq_getElem h1] at a
  rw [List.getElem?_eq_getElem h2] at b
  injection a with a
  injection b with b
  rw [a, b, e]
theorem ok_drop {l : List Nd} (h : Ok l) {at_ : Nat} (ha : at_ < l.length) : Ok (dropL l at_) := by
  have h64 := h.len
  refine ⟨by rw [drop_len]; omega, fun x hx => ?_, nodup_of_inj fun i j a hi hj => ?_, fun i x hx => ?_, fun x hx => ?_, fun x hx => ?_⟩
  · rw [drop_len]
    obtain ⟨i, y, _, hy, _, rfl⟩ := drop_mem ha hx
    refine lt_of_bits fun j hj => ?_
    have hyb := h.bits y (mem_of_some hy)
    have hj : (fixTo at_ (l.length - 1) y.to).testBit j = true := hj
    rw [fix_bit (bit64 h (mem_of_some hy)) (by omega) (by omega)] at hj
    simp only [Bool.or_eq_true, Bool.and_eq_true, Bool.not_eq_true', decide_eq_true_eq, decide_eq_false_iff_not] at hj
    rcases hj with ⟨⟨hj, _⟩, h3⟩ | ⟨⟨rfl, _⟩, h3⟩
    · have := bit_lt hyb hj; omega
    · omega
  · rw [List.getElem?_map] at hi hj
    rcases hx : (dropL l at_)[i]? with _ | x
    · rw [hx] at hi; cases hi
    rcases hy : (dropL l at_)[j]? with _ | y
    · rw [hy] at hj; cases hj
    rw [hx] at hi
    rw [hy] at hj
    injection hi with hi
    injection hj with hj
    have li := lt_of_some hx
    have lj := lt_of_some hy
    rw [drop_len] at li lj
    rw [drop_get li ha] at hx
    rw [drop_get lj ha] at hy
    obtain ⟨x', hx', rfl⟩ := Option.map_eq_some_iff.1 hx
    obtain ⟨y', hy', rfl⟩ := Option.map_eq_some_iff.1 hy
    exact old_inj li lj (ids_inj h hx' hy' (hi.trans hj.symm))
  · have li := lt_of_some hx
    rw [drop_len] at li
    rw [drop_get li ha] at hx
    obtain ⟨y, hy, rfl⟩ := Option.map_eq_some_iff.1 hx
    show (fixTo at_ (l.length - 1) y.to).testBit i = false
    rw [fix_old (bit64 h (mem_of_some hy)) h64 li ha]
    exact h.self _ _ hy
  · obtain ⟨i, y, _, hy, _, rfl⟩ := drop_mem ha hx
    exact h.id0 y (mem_of_some hy)
  · obtain ⟨i, y, _, hy, _, rfl⟩ := drop_mem ha hx
    exact h.st0 y (mem_of_some hy)
end Go.Proofs.YtfcdplfnhjbdnabDoor
