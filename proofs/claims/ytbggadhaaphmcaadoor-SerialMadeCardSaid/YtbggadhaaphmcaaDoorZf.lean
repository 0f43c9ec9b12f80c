/- serial: the search for an order is the document's trial of all orders. No program is spoken of. -/
import Derived.Test.YtbggadhaaphmcaaDoorZm
namespace Go.Proofs.YtbggadhaaphmcaaDoor
open Go.Lib Go.RowKit
set_option linter.unusedVariables false

theorem findSome_congr {α β : Type} {f g : α → Option β} : ∀ {l : List α}, (∀ x ∈ l, f x = g x) → l.findSome? f = l.findSome? g
  | [], _ => rfl
  | a :: l, h => by
    rw [List.findSome?_cons, List.findSome?_cons, h a (by simp), findSome_congr (fun x hx => h x (List.mem_cons_of_mem _ hx))]
theorem findSome_map {α β γ : Type} (f : α → Option β) (m : β → γ) : ∀ l : List α, (l.findSome? f).map m = l.findSome? fun x => (f x).map m
  | [] => rfl
  | a :: l => by
    rw [List.findSome?_cons, List.findSome?_cons]
    rcases f a with _ | b
    · exact findSome_map f m l
    · rfl
theorem findSome_no {α β : Type} {f : α → Option β} : ∀ {l : List α}, (∀ x ∈ l, f x = none) → l.findSome? f = none
  | [], _ => rfl
  | a :: l, h => by
    rw [List.findSome?_cons, h a (by simp)]
    exact findSome_no (fun x hx => h x (List.mem_cons_of_mem _ hx))
theorem findSome_yes {α β : Type} {f : α → Option β} {a : α} (ha : (f a).isSome = true) : ∀ {l : List α}, a ∈ l → (l.findSome? f).isSome = true
  | [], h => by simp at h
  | b :: l, h => by
    rw [List.findSome?_cons]
    rcases hb : f b with _ | c
    · rcases List.mem_cons.1 h with e | h
      · subst e
        rw [hb] at ha
        cases ha
      · exact findSome_yes ha h
    · rfl
/-- A beginning that may be: each deed may come, and tells what it told. -/
noncomputable def begB (l : Hist) : List Nat → Has → List Nat → Bool
  | _, _, [] => true
  | ps, f, x :: r => (mayB l ps x && tellB (l.get x) f) && begB l (ps ++ [x]) (runF f (l.get x).plan) r
/-- What the map has behind them. -/
noncomputable def doneF (l : Hist) : Has → List Nat → Has
  | f, [] => f
  | f, x :: r => doneF l (runF f (l.get x).plan) r
theorem doneF_snoc (l : Hist) : ∀ (r : List Nat) (f : Has) (i : Nat), doneF l f (r ++ [i]) = runF (doneF l f r) (l.get i).plan
  | [], f, i => rfl
  | x :: r, f, i => doneF_snoc l r _ i
theorem begB_snoc (l : Hist) : ∀ (r ps : List Nat) (f : Has) (i : Nat), begB l ps f (r ++ [i]) = (begB l ps f r && (mayB l (ps ++ r) i && tellB (l.get i) (doneF l f r)))
  | [], ps, f, i => by simp [begB, doneF]
  | x :: r, ps, f, i => by
    rw [List.cons_append, begB, begB, begB_snoc l r, doneF]
    simp only [List.append_assoc, List.singleton_append, Bool.and_assoc]
theorem chk_beg (l : Hist) : ∀ (r ps : List Nat) (f : Has), (∀ x ∈ r, x < l.length) → chkB l ps f (natL r) = (begB l ps f r && allB l (ps ++ r))
  | [], ps, f, _ => by simp [chkB, natL, begB]
  | x :: r, ps, f, h => by
    have hx := h x (by simp)
    have h0 : decide (0 ≤ (x : Int)) = true := by simp
    have h1 : decide ((x : Int) < (l.length : Int)) = true := by simp; omega
    show chkB l ps f ((x : Int) :: natL r) = _
    rw [chkB, h0, h1, Int.toNat_natCast, chk_beg l r _ _ (fun y hy => h y (List.mem_cons_of_mem _ hy)), begB]
    simp only [List.append_assoc, List.singleton_append, Bool.true_and, Bool.and_assoc]
theorem expl_beg {l : Hist} (hf : Fine l) (b : List Nat) (hb : ∀ x ∈ b, x < l.length) : explB l (natL b) = (begB l [] none0 b && allB l b) := by
  rw [← check_expl hf, chk_beg l b [] none0 hb, List.nil_append]
theorem beg_bad {l : Hist} (hf : Fine l) : ∀ (n : Nat) (b : List Nat), (∀ x ∈ b, x < l.length) → begB l [] none0 b = false → refS l n (natL b) = none
  | 0, b, hb, h => by
    rw [refS, expl_beg hf b hb, h]
    rfl
  | n + 1, b, hb, h => by
    rw [refS, expl_beg hf b hb, h]
    rw [if_neg (by simp)]
    refine findSome_no fun i hi => ?_
    rw [← natL_snoc]
    by_cases hm : (i : Int) ∈ natL b
    · rw [if_pos hm]
    · rw [if_neg hm]
      refine beg_bad hf n (b ++ [i]) (fun x hx => ?_) (by rw [begB_snoc, h]; rfl)
      rcases List.mem_append.1 hx with hx | hx
      · exact hb x hx
      · simp only [List.mem_singleton] at hx
        subst hx
        exact List.mem_range.1 hi
theorem ref_find {l : Hist} (hf : Fine l) : ∀ (n : Nat) (b : List Nat), (∀ x ∈ b, x < l.length) → begB l [] none0 b = true → refS l n (natL b) = (findS l n b (doneF l none0 b)).map (fun r => natL (b ++ r))
  | 0, b, hb, h => by
    rw [refS, findS, expl_beg hf b hb, h, Bool.true_and]
    split
    · simp
    · rfl
  | n + 1, b, hb, h => by
    rw [refS, findS, expl_beg hf b hb, h, Bool.true_and]
    split
    · simp
    · rw [findSome_map]
      refine findSome_congr fun i hi => ?_
      have hil := List.mem_range.1 hi
      have hb' : ∀ x ∈ b ++ [i], x < l.length := fun x hx => by
        rcases List.mem_append.1 hx with hx | hx
        · exact hb x hx
        · simp only [List.mem_singleton] at hx
          subst hx
          exact hil
      rw [← natL_snoc]
      by_cases hm : (i : Int) ∈ natL b
      · rw [if_pos hm, if_neg (by rw [Bool.and_eq_true]; intro h2; exact (may_iff.1 h2.1).2 (natL_mem.1 hm))]
        rfl
      · rw [if_neg hm]
        by_cases hc : (mayB l b i && tellB (l.get i) (doneF l none0 b)) = true
        · rw [if_pos hc, ref_find hf n (b ++ [i]) hb' (by rw [begB_snoc, h, List.nil_append, hc]; rfl), doneF_snoc, Option.map_map]
          congr 1
          funext r
          simp
        · rw [if_neg hc]
          exact beg_bad hf n (b ++ [i]) hb' (by rw [begB_snoc, h, List.nil_append]; simpa using hc)
theorem ref_is_find {l : Hist} (hf : Fine l) (n : Nat) : refS l n [] = (findS l n [] none0).map natL := by
  have := ref_find hf n [] (by simp) rfl
  simp only [List.nil_append] at this
  exact this
/-! ### The search looks at the set of what is placed alone -/
theorem may_same {l : Hist} {ps qs : List Nat} (h : ∀ j, j ∈ ps ↔ j ∈ qs) (i : Nat) : mayB l ps i = mayB l qs i := by
  unfold mayB
  congr 1
  · exact List.all_congr rfl fun j => by rw [decide_eq_decide.2 (h j)]
  · rw [decide_eq_decide.2 (h i)]
theorem all_same_ {l : Hist} {ps qs : List Nat} (h : ∀ j, j ∈ ps ↔ j ∈ qs) : allB l ps = allB l qs := by
  unfold allB
  exact List.all_congr rfl fun j => by rw [decide_eq_decide.2 (h j)]
theorem find_same {l : Hist} : ∀ (n : Nat) {ps qs : List Nat} (f : Has), (∀ j, j ∈ ps ↔ j ∈ qs) → findS l n ps f = findS l n qs f
  | 0, ps, qs, f, h => by rw [findS, findS, all_same_ h]
  | n + 1, ps, qs, f, h => by
    rw [findS, findS, all_same_ h]
    split
    · rfl
    · refine findSome_congr fun i _ => ?_
      rw [may_same h i, find_same n (ps := ps ++ [i]) (qs := qs ++ [i]) _ (fun j => by simp [h j])]
/-! ### What is found explains; if anything explains, something is found -/
theorem find_chk {l : Hist} : ∀ (n : Nat) (ps : List Nat) (f : Has) (r : List Nat), findS l n ps f = some r → chkB l ps f (natL r) = true ∧ ∀ x ∈ r, x < l.length
  | 0, ps, f, r, h => by
    rw [findS] at h
    split at h
    · rename_i ha
      injection h with h
      subst h
      exact ⟨by simpa [natL, chkB] using ha, by simp⟩
    · cases h
  | n + 1, ps, f, r, h => by
    rw [findS] at h
    split at h
    · rename_i ha
      injection h with h
      subst h
      exact ⟨by simpa [natL, chkB] using ha, by simp⟩
    · obtain ⟨i, hi, hx⟩ := List.exists_of_findSome?_eq_some h
      have hil := List.mem_range.1 hi
      split at hx
      · rename_i hc
        rw [Bool.and_eq_true] at hc
        rcases hr : findS l n (ps ++ [i]) (runF f (l.get i).plan) with _ | r'
        · rw [hr] at hx; cases hx
        · rw [hr] at hx
          simp only [Option.map_some, Option.some.injEq] at hx
          subst hx
          obtain ⟨h1, h2⟩ := find_chk n _ _ r' hr
          refine ⟨?_, fun x hx => ?_⟩
          · show chkB l ps f ((i : Int) :: natL r') = true
            have h0 : decide (0 ≤ (i : Int)) = true := by simp
            have h1' : decide ((i : Int) < (l.length : Int)) = true := by simp; omega
            rw [chkB, h0, h1', Int.toNat_natCast, hc.1, hc.2, h1]
            rfl
          · rcases List.mem_cons.1 hx with e | hx
            · subst e; exact hil
            · exact h2 x hx
      · cases hx
theorem nodup_len {n : Nat} {ps : List Nat} (h : ps.Nodup) (hb : ∀ x ∈ ps, x < n) : ps.length ≤ n := by
  have h1 := List.Nodup.length_le_of_subset h (l₂ := List.range n) fun x hx => List.mem_range.2 (hb x hx)
  simpa using h1
theorem chk_find {l : Hist} : ∀ (r : List Int) (n : Nat) (ps : List Nat) (f : Has), chkB l ps f r = true → ps.Nodup → (∀ x ∈ ps, x < l.length) → l.length ≤ n + ps.length → (findS l n ps f).isSome = true := by
  intro r
  induction r with
  | nil =>
    intro n ps f h _ _ _
    have ha : allB l ps = true := by simpa [chkB] using h
    cases n with
    | zero => rw [findS, if_pos ha]; rfl
    | succ n => rw [findS, if_pos ha]; rfl
  | cons x r ih =>
    intro n ps f h hn hb hl
    rw [chkB, Bool.and_eq_true, Bool.and_eq_true, Bool.and_eq_true, Bool.and_eq_true] at h
    obtain ⟨⟨h0, h1⟩, hm, ht, hr⟩ := h
    have h0 := of_decide_eq_true h0
    have h1 := of_decide_eq_true h1
    have hxl : x.toNat < l.length := by omega
    have hx := (may_iff.1 hm).2
    have hn' : (ps ++ [x.toNat]).Nodup := by
      rw [List.nodup_append]
      exact ⟨hn, by simp, fun a ha b hb => by simp only [List.mem_singleton] at hb; subst hb; exact fun e => hx (e ▸ ha)⟩
    have hb' : ∀ y ∈ ps ++ [x.toNat], y < l.length := fun y hy => by
      rcases List.mem_append.1 hy with hy | hy
      · exact hb y hy
      · simp only [List.mem_singleton] at hy
        subst hy; exact hxl
    have hle := nodup_len hn' hb'
    rw [List.length_append, List.length_singleton] at hle
    cases n with
    | zero => omega
    | succ n =>
      have := ih n (ps ++ [x.toNat]) (runF f (l.get x.toNat).plan) hr hn' hb' (by rw [List.length_append, List.length_singleton]; omega)
      rw [findS]
      split
      · rfl
      · refine findSome_yes (a := x.toNat) ?_ (List.mem_range.2 hxl)
        rw [hm, ht]
        simpa using this
end Go.Proofs.YtbggadhaaphmcaaDoor
