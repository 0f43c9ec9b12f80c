/- The walk of SessionOnce. -/
import Derived.Test.YtekibpfpkbgjkacFix
import Derived.Test.YtekibpfpkbgjkacMaps
import Derived.Test.YtekibpfpkbgjkacLibArgs
import Derived.Deep.RegionHeld3
import Derived.OpenShut
namespace Go.Proofs.Ytekibpfpkbgjkac
open Go.RowKit Go.Maps
set_option linter.unusedVariables false

/-- A slice of acts: kind, session, seq, amount. -/
def ActAt (w : World) (b off i : Nat) (K S Q M : Int) : Prop :=
  w.cell? ⟨b, off + i * 4, none⟩ = some (.int .u8 K) ∧ w.cell? ⟨b, off + i * 4 + 1, none⟩ = some (.int .i64 S) ∧ w.cell? ⟨b, off + i * 4 + 2, none⟩ = some (.int .i64 Q) ∧ w.cell? ⟨b, off + i * 4 + 3, none⟩ = some (.int .i64 M)
def Acts (w : World) (A : Option Addr) (n : Nat) : Prop :=
  n ≤ maxLen ∧ (0 < n → ∃ b off, A = some ⟨b, off, none⟩ ∧ b < w.heap.size ∧ ∀ i, i < n → ∃ K S Q M : Int, 0 ≤ K ∧ K ≤ 255 ∧ (Lit.int .i64 S).wf = true ∧ (Lit.int .i64 Q).wf = true ∧ (Lit.int .i64 M).wf = true ∧ ActAt w b off i K S Q M)

/-- What the law keeps beside the book: which requests are known, and how each was answered first. -/
structure Law (window sum : Int) (L : List PS) (fk ff : Int → Int → Int) : Prop where
  open_ : ∀ s ∈ L, s.closed = false
  len : ∀ s ∈ L, s.ans.length = 64
  known : ∀ (i : Nat) (s : PS), L[i]? = some s → ∀ q : Int, 1 ≤ q → q < s.next → fk i q = 1 ∧ (s.next - q ≤ window → s.ans.getD (q % window).toNat 0 = ff i q)
  only : ∀ i q, fk i q ≠ 0 → ∃ (I : Nat) (s : PS), i = I ∧ L[I]? = some s ∧ q < s.next

theorem law_open {window sum : Int} {L : List PS} {fk ff : Int → Int → Int} (h : Law window sum L fk ff) (h0 : ∀ s ∈ L, s.next = 1) : Law window sum (L ++ [fresh]) fk ff where
  open_ := fun s hs => by
    rcases List.mem_append.1 hs with hs | hs
    · exact h.open_ s hs
    · simp at hs; subst hs; rfl
  len := fun s hs => by
    rcases List.mem_append.1 hs with hs | hs
    · exact h.len s hs
    · simp at hs; subst hs; simp [fresh]
  known := fun i s hs q hq hlt => by
    have hm := mem_of_some hs
    rcases List.mem_append.1 hm with hm | hm
    · have := h0 s hm; omega
    · simp at hm; subst hm; simp [fresh] at hlt; omega
  only := fun i q hf => by
    obtain ⟨I, s, h1, h2, h3⟩ := h.only i q hf
    exact ⟨I, s, h1, by rw [List.getElem?_append_left (lt_of_some h2)]; exact h2, h3⟩

/-- What a request's answer says of what is known. -/
theorem law_do {window sum : Int} {L : List PS} {fk ff : Int → Int → Int} {K S Q M : Int} (h : Law window sum L fk ff) (hF : Fine window sum L K) :
    ((doR window sum L S Q M).e = 9 ∧ fk S Q = 1 ∧ (window < nextR L S - Q ∧ 1 ≤ Q) ∧ (doR window sum L S Q M).L = L ∧ (doR window sum L S Q M).sum = sum) ∨
    ((doR window sum L S Q M).e ≠ 9 ∧ (doR window sum L S Q M).e ≠ 0 ∧ (doR window sum L S Q M).L = L ∧ (doR window sum L S Q M).sum = sum) ∨
    ((doR window sum L S Q M).e = 0 ∧ fk S Q = 1 ∧ (doR window sum L S Q M).x = ff S Q ∧ (doR window sum L S Q M).L = L ∧ (doR window sum L S Q M).sum = sum) ∨
    ((doR window sum L S Q M).e = 0 ∧ fk S Q = 0 ∧ (doR window sum L S Q M).x = sum + M ∧ (doR window sum L S Q M).sum = sum + M ∧ -1125899906842624 ≤ M ∧ M ≤ 1125899906842624 ∧
      nextR (doR window sum L S Q M).L S = Q + 1 ∧ 1 ≤ Q ∧ Q ≤ 1073741824 ∧
      Law window (sum + M) (doR window sum L S Q M).L (fun x y => if x = S ∧ y = Q then 1 else fk x y) (fun x y => if x = S ∧ y = Q then sum + M else ff x y)) := by
  unfold doR
  split
  · exact .inr (.inl ⟨by simp, by simp, rfl, rfl⟩)
  rename_i ha
  split
  · exact .inr (.inl ⟨by simp, by simp, rfl, rfl⟩)
  rename_i hi
  split
  · exact .inr (.inl ⟨by simp, by simp, rfl, rfl⟩)
  rename_i s hs
  obtain ⟨I, rfl⟩ := Int.eq_ofNat_of_zero_le (show 0 ≤ S by omega)
  rw [Int.toNat_natCast] at hs
  have hcl := h.open_ s (mem_of_some hs)
  have hlen := h.len s (mem_of_some hs)
  simp only [hcl, Bool.false_eq_true, if_false]
  split
  · exact .inr (.inl ⟨by simp, by simp, rfl, rfl⟩)
  rename_i hq
  have hnx : nextR L (I : Int) = s.next := by
    unfold nextR
    rw [if_neg hi, Int.toNat_natCast, hs]
  split
  · rename_i hlt
    obtain ⟨k1, k2⟩ := h.known I s hs Q (by omega) hlt
    unfold keptR
    split
    · rename_i hw
      exact .inl ⟨rfl, k1, ⟨by rw [hnx]; exact hw, by omega⟩, rfl, rfl⟩
    · rename_i hw
      exact .inr (.inr (.inl ⟨rfl, k1, k2 (by omega), rfl, rfl⟩))
  · rename_i hlt
    have hQ : Q = s.next := by omega
    have hfk : fk (I : Int) Q = 0 := by
      rcases Classical.em (fk (I : Int) Q = 0) with h1 | h1
      · exact h1
      · obtain ⟨I', s', h2, h3, h4⟩ := h.only _ _ h1
        have : I' = I := by omega
        subst this
        rw [hs] at h3
        cases h3
        omega
    have hIlt := lt_of_some hs
    refine .inr (.inr (.inr ⟨rfl, hfk, rfl, rfl, by omega, by omega, ?_, by omega, by omega, ?_⟩))
    · unfold nextR
      rw [if_neg (by simp; omega)]
      simp only [Int.toNat_natCast, List.getElem?_set_self hIlt]
      omega
    · have r0 : 0 ≤ Q % window := Int.emod_nonneg _ (by have := hF.w0; omega)
      have r1 : Q % window < window := Int.emod_lt_of_pos _ (by have := hF.w0; omega)
      have hw1 := hF.w1
      have hw0 := hF.w0
      simp only [Int.toNat_natCast]
      refine ⟨fun t ht => ?_, fun t ht => ?_, fun i t ht q hq1 hq2 => ?_, fun i q hne => ?_⟩
      · rcases List.mem_or_eq_of_mem_set ht with ht | ht
        · exact h.open_ t ht
        · subst ht; rfl
      · rcases List.mem_or_eq_of_mem_set ht with ht | ht
        · exact h.len t ht
        · subst ht; simpa using hlen
      · by_cases hiI : i = I
        · subst hiI
          rw [List.getElem?_set_self hIlt] at ht
          simp only [Option.some.injEq] at ht
          subst ht
          simp only at hq2 ⊢
          by_cases hqQ : q = Q
          · subst hqQ
            simp only [and_self, if_true, true_and]
            intro _
            rw [List.getD_eq_getElem?_getD, List.getElem?_set_self (by omega)]
            rfl
          · obtain ⟨k1, k2⟩ := h.known i s hs q hq1 (by omega)
            simp only [hqQ, and_false, if_false]
            refine ⟨k1, fun hw => ?_⟩
            rw [← k2 (by omega)]
            have hne : (Q % window).toNat ≠ (q % window).toNat := by
              intro e
              have r2 : 0 ≤ q % window := Int.emod_nonneg _ (by omega)
              have e2 : Q % window = q % window := by omega
              have e3 : (Q - q) % window = 0 := Int.emod_eq_emod_iff_emod_sub_eq_zero.1 e2
              have e4 : (Q - q) % window = Q - q := Int.emod_eq_of_lt (by omega) (by omega)
              omega
            rw [List.getD_eq_getElem?_getD, List.getD_eq_getElem?_getD, List.getElem?_set_ne hne]
        · rw [List.getElem?_set_ne (fun e => hiI e.symm)] at ht
          obtain ⟨k1, k2⟩ := h.known i t ht q hq1 hq2
          have : ¬ (i : Int) = (I : Int) := by omega
          simp only [this, false_and, if_false]
          exact ⟨k1, k2⟩
      · by_cases hc : i = (I : Int) ∧ q = Q
        · obtain ⟨rfl, rfl⟩ := hc
          exact ⟨I, _, rfl, List.getElem?_set_self hIlt, by simp only; omega⟩
        · rw [if_neg hc] at hne
          obtain ⟨I', s', h2, h3, h4⟩ := h.only _ _ hne
          by_cases hII : I' = I
          · subst hII
            rw [hs] at h3
            cases h3
            exact ⟨I', _, h2, List.getElem?_set_self hIlt, by simp only; omega⟩
          · exact ⟨I', s', h2, by rw [List.getElem?_set_ne (fun e => hII e.symm)]; exact h3, h4⟩
end Go.Proofs.Ytekibpfpkbgjkac
