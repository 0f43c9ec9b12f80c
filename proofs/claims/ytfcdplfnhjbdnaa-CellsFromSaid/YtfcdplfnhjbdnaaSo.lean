/- The sorted keys of a store. -/
import Derived.Test.YtfcdplfnhjbdnaaCo
import Derived.Test.YtfcdplfnhjbdnaaIter
import Derived.Maps.Ext
import Derived.Sort.KeysCollected
namespace Go.Proofs.Ytfcdplfnhjbdnaa
open Go.RowKit Go.Maps Go.Sort Go.Shelf
set_option linter.unusedVariables false

/-- A rising row of just the keys that have versions. -/
def KeysIn (s : CS) (ks : List (List UInt8)) : Prop := ks.Pairwise (· < ·) ∧ ∀ k, k ∈ ks ↔ s.f k ≠ []
theorem any_pairwise {α : Type} {r : α → α → Prop} {es : List α} (h : es.Pairwise r) : True := trivial
theorem strKeys_mem {D : DataW Value} (hs : ∃ es, D = .map es ∧ ∀ p ∈ es, KeysOf Try.prog 9 p.1) (k : List UInt8) : k ∈ strKeys D ↔ Maps.has D (.string k) = true := by
  obtain ⟨es, rfl, hk⟩ := hs
  rw [Maps.has_eq]
  unfold strKeys
  rw [List.mem_map, List.any_eq_true]
  constructor
  · rintro ⟨p, hp, rfl⟩
    refine ⟨p, hp, ?_⟩
    obtain ⟨v, hv⟩ := hk p hp
    obtain ⟨x, _, hx, _⟩ := Maps.keyOf_str Try.underlying9 hv
    rw [hx]
    simp [strOf, Lit.sameKey]
  · rintro ⟨p, hp, hpk⟩
    refine ⟨p, hp, ?_⟩
    obtain ⟨v, hv⟩ := hk p hp
    obtain ⟨x, _, hx, _⟩ := Maps.keyOf_str Try.underlying9 hv
    rw [hx] at hpk ⊢
    simpa [strOf, Lit.sameKey] using hpk
theorem strKeys_nodup {D : DataW Value} (hs : ∃ es, D = .map es ∧ ∀ p ∈ es, KeysOf Try.prog 9 p.1) (hc : Maps.Canon D) : (strKeys D).Nodup := by
  obtain ⟨es, rfl, hk⟩ := hs
  obtain ⟨es', he, hp, _⟩ := hc
  injection he with he
  subst he
  unfold strKeys
  have := Maps.apart_of_rising hp
  rw [List.Nodup, List.pairwise_map]
  refine (List.Pairwise.imp_of_mem (fun {p q} hp' hq' h => ?_) this)
  obtain ⟨v, hv⟩ := hk p hp'
  obtain ⟨v', hv'⟩ := hk q hq'
  obtain ⟨x, _, hx, _⟩ := Maps.keyOf_str Try.underlying9 hv
  obtain ⟨y, _, hy, _⟩ := Maps.keyOf_str Try.underlying9 hv'
  rw [hx, hy] at h ⊢
  intro e
  simp only [strOf] at e
  exact h (by rw [e])
theorem strKeys_len {D : DataW Value} (hs : ∃ es, D = .map es ∧ ∀ p ∈ es, KeysOf Try.prog 9 p.1) : ∀ k ∈ strKeys D, k.length ≤ maxLen := by
  obtain ⟨es, rfl, hk⟩ := hs
  intro k hkk
  unfold strKeys at hkk
  obtain ⟨p, hp, rfl⟩ := List.mem_map.1 hkk
  obtain ⟨v, hv⟩ := hk p hp
  obtain ⟨x, _, hx, hl⟩ := Maps.keyOf_str Try.underlying9 hv
  rw [hx]
  exact hl
theorem sort_rise {ss : List (List UInt8)} (hn : ss.Nodup) : (ss.mergeSort fun x y => decide (x ≤ y)).Pairwise (· < ·) := by
  have h1 := List.pairwise_mergeSort (le := fun x y : List UInt8 => decide (x ≤ y)) (fun a b c h h' => by simp at h h' ⊢; exact List.le_trans h h') (fun a b => by simpa using List.le_total a b) ss
  have h2 : (ss.mergeSort fun x y => decide (x ≤ y)).Nodup := (List.mergeSort_perm _ _).nodup_iff.2 hn
  refine (List.Pairwise.and h1 h2).imp fun {a b} ⟨hle, hne⟩ => ?_
  simp at hle
  rcases Classical.em (a < b) with h | h
  · exact h
  · exact absurd (List.le_antisymm hle (List.not_lt.1 h)) hne
section
variable {w : World} {B cb mb n : Nat} {D : DataW Value} {V : List UInt8 → Value} {s : CS}
theorem CM.size_le (h : CM w B cb mb n D V s) : Maps.size D ≤ n := by
  obtain ⟨es, clock, _, F, hs, rfl⟩ := h.map
  rw [Maps.size_eq, length_sorted]
  simpa using hs
theorem CM.keys (h : CM w B cb mb n D V s) {ss : List (List UInt8)} (hp : ss.Perm (strKeys D)) : KeysIn s (ss.mergeSort fun x y => decide (x ≤ y)) ∧ (ss.mergeSort fun x y => decide (x ≤ y)).length ≤ n ∧ ∀ k ∈ (ss.mergeSort fun x y => decide (x ≤ y)), k.length ≤ maxLen := by
  have hk := h.map.keysOf
  refine ⟨⟨sort_rise (hp.nodup_iff.2 (strKeys_nodup hk (h.map.canon keyed9))), fun k => ?_⟩, ?_, fun k hkk => ?_⟩
  · rw [List.mem_mergeSort, hp.mem_iff, strKeys_mem hk, h.has]
  · rw [List.length_mergeSort, hp.length_eq]
    have := h.size_le
    obtain ⟨es, rfl, _⟩ := hk
    simpa [strKeys, Maps.size_eq] using this
  · rw [List.mem_mergeSort, hp.mem_iff] at hkk
    exact strKeys_len hk k hkk
set_option maxHeartbeats 1000000 in
theorem sorted_any (h : CM w B cb mb n D V s) (hn : n ≤ 1000000) : Calls Try.prog 27 #[.pointer (some ⟨cb, 0, none⟩)] w fun e w' => ∃ (A : Option Addr) (c : Nat) (ks : List (List UInt8)), e = .returned (.slice A ks.length c) ∧
    w'.ownsRow w.heap.size 9 1 (.slice A ks.length c) ks.length (ks.map encStr) ∧ KeysIn s ks ∧ ks.length ≤ n ∧ (∀ k ∈ ks, k.length ≤ maxLen) ∧ NewW w w' := by
  have hsz := h.size_le
  have hmax : Maps.size D ≤ maxLen := by unfold maxLen; omega
  have hbytes : Maps.size D * 16 ≤ 140737488355328 := by omega
  have hown := h.map
  have c0 := h.c0
  have HK := Lib.hid (fun (ss : List (List UInt8)) (hp : ss.Perm (strKeys D)) => h.keys hp)
  clear h
  refine (callsIn_wide (n := 6)).1 ?_
  have hfK : Fence.wide.fn 35 := trivial
  have hfS : Fence.wide.fn 34 := trivial
  refine callsIn_of_wp Try.func27 rfl trivial ?_ rfl
  simp only [Try.ntmps27, List.size_toArray, List.length_cons, List.length_nil, Nat.reduceAdd, Nat.reduceSub, Array.replicate_succ, Array.replicate_zero, List.push_toArray, List.append_toArray, List.nil_append, List.cons_append]
  gi_wp2_with (first
    | (gi_at_call 35; refine (Try.maps_Keys_35 _ _).mono ?_; rintro e w' ⟨rfl, rfl⟩)
    | (gi_at_call 34; refine (Try.slices_Sorted_keys_34_35 mb n D RH w hown hmax hbytes).mono ?_; rintro e w' ⟨v, ss, rfl, hS, hrow, hnil, hb⟩))
  go_ret
  obtain ⟨q1, q2, q3⟩ := HK.out ss hS
  have hrow' := ownsRow_base_a hrow (show w.heap.size ≤ (w.alloc (.cells #[.map (some mb)] 61)).heap.size by simp)
  have hlen : ss.length = (ss.mergeSort fun x y => decide (x ≤ y)).length := (List.length_mergeSort _).symm
  rw [hlen] at hrow'
  obtain ⟨A, c, hv⟩ := own_form hrow'
  subst hv
  exact ⟨A, c, _, rfl, hrow', q1, q2, q3, ((Ch.refl _ w).alloc _).trans' (Ch.of_below hb fun k hk _ => hk)⟩
end
end Go.Proofs.Ytfcdplfnhjbdnaa
