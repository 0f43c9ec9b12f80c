/- The document's row of writes, rising by keys, in plain words. -/
import Derived.Test.YtbggadhaaphmcaaDoorMo
namespace Go.Proofs.YtbggadhaaphmcaaDoor
open Go.Lib Go.RowKit
set_option linter.unusedVariables false

theorem pw_unique {α : Type} {r : α → α → Prop} (irr : ∀ a, ¬ r a a) (tr : ∀ a b c, r a b → r b c → r a c) : ∀ {a b : List α}, a.Pairwise r → b.Pairwise r → (∀ x, x ∈ a ↔ x ∈ b) → a = b
  | [], [], _, _, _ => rfl
  | [], y :: b, _, _, h => absurd ((h y).2 (by simp)) (by simp)
  | x :: a, [], _, _, h => absurd ((h x).1 (by simp)) (by simp)
  | x :: a, y :: b, ha, hb, h => by
    have ha' := List.pairwise_cons.1 ha
    have hb' := List.pairwise_cons.1 hb
    have hxy : x = y := by
      rcases List.mem_cons.1 ((h x).1 (by simp)) with e | e
      · exact e
      · rcases List.mem_cons.1 ((h y).2 (by simp)) with e' | e'
        · exact e'.symm
        · exact absurd (tr _ _ _ (ha'.1 y e') (hb'.1 x e)) (irr _)
    subst hxy
    rw [pw_unique irr tr ha'.2 hb'.2 fun k => ?_]
    constructor
    · intro hk
      rcases List.mem_cons.1 ((h k).1 (List.mem_cons_of_mem _ hk)) with e | e
      · subst e; exact absurd (ha'.1 _ hk) (irr _)
      · exact e
    · intro hk
      rcases List.mem_cons.1 ((h k).2 (List.mem_cons_of_mem _ hk)) with e | e
      · subst e; exact absurd (hb'.1 _ hk) (irr _)
      · exact e
abbrev Wl := List (ByteArray × ByteArray)
def kOf (w : ByteArray × ByteArray) : Txt := w.1.data.toList
theorem key_inj {a b : ByteArray} (h : a.data.toList = b.data.toList) : a = b := by
  cases a; cases b
  simp at h
  subst h
  rfl
def SortedW (L : Wl) (f : Has) : Prop := L.Pairwise (fun a b => kOf a < kOf b) ∧ ∀ k v, (k, v) ∈ L ↔ f k.data.toList = some v
theorem sorted_unique {L M : Wl} {f : Has} (h : SortedW L f) (h' : SortedW M f) : L = M :=
  pw_unique (r := fun a b : ByteArray × ByteArray => kOf a < kOf b) (fun a => List.lt_irrefl _) (fun a b c => List.lt_trans) h.1 h'.1 fun ⟨k, v⟩ => by rw [h.2, h'.2]
theorem sorted_nil : SortedW [] none0 := ⟨.nil, fun k v => by simp [none0]⟩
/-- Get. -/
theorem get_at {L : Wl} {f : Has} (h : SortedW L f) {w : ByteArray × ByteArray} (hw : w ∈ L) : f w.1.data.toList = some w.2 := (h.2 w.1 w.2).1 hw
theorem get_no {L : Wl} {f : Has} (h : SortedW L f) {K : ByteArray} (hn : ∀ w ∈ L, w.1 ≠ K) : f K.data.toList = none := by
  rcases hf : f K.data.toList with _ | v
  · rfl
  · exact absurd rfl (hn (K, v) ((h.2 K v).2 hf))
/-! ### put -/
def ltB (K : ByteArray) (w : ByteArray × ByteArray) : Bool := decide (kOf w < K.data.toList)
def gtB (K : ByteArray) (w : ByteArray × ByteArray) : Bool := decide (K.data.toList < kOf w)
def doneB (K : ByteArray) (L : Wl) : Bool := L.any fun w => !ltB K w
def midL (K : ByteArray) (r : Res) (d : Bool) : Wl := match r with
  | some v => if d then [(K, v)] else []
  | none => []
def putK (K : ByteArray) (r : Res) (L : Wl) : Wl := L.filter (ltB K) ++ midL K r (doneB K L) ++ L.filter (gtB K)
def putL (K : ByteArray) (r : Res) (L : Wl) : Wl := L.filter (ltB K) ++ midL K r true ++ L.filter (gtB K)
theorem putL_sorted {L : Wl} {f : Has} (h : SortedW L f) (K : ByteArray) (r : Res) : SortedW (putL K r L) (putF f K.data.toList r) := by
  have hm : ∀ w ∈ midL K r true, kOf w = K.data.toList := fun w hw => by
    unfold midL at hw
    cases r with
    | none => simp at hw
    | some v => simp at hw; rw [hw]; rfl
  refine ⟨?_, fun k v => ?_⟩
  · unfold putL
    refine List.pairwise_append.2 ⟨List.pairwise_append.2 ⟨h.1.filter _, ?_, fun a ha b hb => ?_⟩, h.1.filter _, fun a ha b hb => ?_⟩
    · unfold midL
      cases r <;> simp
    · rw [hm b hb]
      simpa [ltB] using (List.mem_filter.1 ha).2
    · have hb' : K.data.toList < kOf b := by simpa [gtB] using (List.mem_filter.1 hb).2
      rcases List.mem_append.1 ha with ha | ha
      · exact List.lt_trans (by simpa [ltB] using (List.mem_filter.1 ha).2) hb'
      · rw [hm a ha]; exact hb'
  · unfold putL putF
    simp only [List.mem_append, List.mem_filter]
    rw [h.2]
    by_cases e : k.data.toList = K.data.toList
    · have ek : k = K := key_inj e
      subst ek
      rw [if_pos rfl]
      have h1 : ltB k (k, v) = false := by simp [ltB, kOf, List.lt_irrefl]
      have h2 : gtB k (k, v) = false := by simp [gtB, kOf, List.lt_irrefl]
      rw [h1, h2]
      unfold midL
      cases r with
      | none => simp
      | some u => simp [eq_comm]
    · rw [if_neg e]
      have hnm : (k, v) ∉ midL K r true := fun hw => e (hm _ hw)
      constructor
      · rintro ((⟨h1, _⟩ | h1) | ⟨h1, _⟩)
        · exact h1
        · exact absurd h1 hnm
        · exact h1
      · intro hf
        rcases Classical.em (k.data.toList < K.data.toList) with hl | hl
        · exact .inl (.inl ⟨hf, by simpa [ltB, kOf] using hl⟩)
        · refine .inr ⟨hf, ?_⟩
          rcases Classical.em (K.data.toList < k.data.toList) with hg | hg
          · simpa [gtB, kOf] using hg
          · exact absurd (List.le_antisymm (List.not_lt.1 hg) (List.not_lt.1 hl)) e
theorem take_any {K : ByteArray} {L : Wl} {i : Nat} {w : ByteArray × ByteArray} (h : L[i]? = some w) : L.take (i + 1) = L.take i ++ [w] := by
  have hi := lt_of_some h
  rw [List.take_succ_eq_append_getElem hi]
  rw [List.getElem?_eq_getElem hi] at h
  injection h with h
  rw [h]
theorem sorted_take {L : Wl} (h : L.Pairwise fun a b => kOf a < kOf b) {i : Nat} {w : ByteArray × ByteArray} (hw : L[i]? = some w) {x : ByteArray × ByteArray} (hx : x ∈ L.take i) : kOf x < kOf w := by
  obtain ⟨j, hj⟩ := List.mem_iff_getElem?.1 hx
  have hjl := lt_of_some hj
  rw [List.length_take] at hjl
  rw [List.getElem?_take_of_lt (by omega)] at hj
  have hi := lt_of_some hw
  have := List.pairwise_iff_getElem.1 h j i (by omega) hi (by omega)
  rw [List.getElem?_eq_getElem (by omega)] at hj
  rw [List.getElem?_eq_getElem hi] at hw
  injection hj with hj
  injection hw with hw
  rwa [hj, hw] at this
theorem filter_none {α : Type} {p : α → Bool} {l : List α} (h : ∀ x ∈ l, p x = false) : l.filter p = [] := by
  rw [List.filter_eq_nil_iff]
  intro x hx
  rw [h x hx]
  simp
section
variable {L : Wl} {K : ByteArray} {r : Res} {i : Nat} {w : ByteArray × ByteArray}
theorem putK_zero : putK K r (L.take 0) = [] := by simp [putK, doneB, midL]; cases r <;> rfl
theorem done_zero : doneB K (L.take 0) = false := by simp [doneB]
theorem done_step (hw : L[i]? = some w) : doneB K (L.take (i + 1)) = (doneB K (L.take i) || !ltB K w) := by
  rw [take_any (K := K) hw]
  simp [doneB]
theorem prior_lt (hs : L.Pairwise fun a b => kOf a < kOf b) (hw : L[i]? = some w) (hk : ¬ K.data.toList < kOf w) : ∀ x ∈ L.take i, kOf x < K.data.toList := fun x hx => by
  have h1 := sorted_take hs hw hx
  rcases Classical.em (kOf x < K.data.toList) with h | h
  · exact h
  · exact absurd (Std.lt_of_le_of_lt (List.not_lt.1 h) h1) hk
theorem done_not {M : Wl} (h : ∀ x ∈ M, kOf x < K.data.toList) : doneB K M = false := by
  unfold doneB
  rw [List.any_eq_false]
  intro x hx
  simp [ltB, h x hx]
theorem gt_none {M : Wl} (h : ∀ x ∈ M, kOf x < K.data.toList) : M.filter (gtB K) = [] := filter_none fun x hx => by
  have := h x hx
  simp only [gtB, decide_eq_false_iff_not]
  exact fun hg => List.lt_irrefl _ (List.lt_trans hg this)
theorem not_done {M : Wl} (h : doneB K M = false) : ∀ x ∈ M, kOf x < K.data.toList := fun x hx => by
  have := List.any_eq_false.1 h x hx
  simpa [ltB] using this
/-- A key that is less: it comes behind. -/
theorem putK_lt (hs : L.Pairwise fun a b => kOf a < kOf b) (hw : L[i]? = some w) (hk : kOf w < K.data.toList) : putK K r (L.take (i + 1)) = putK K r (L.take i) ++ [w] ∧ doneB K (L.take (i + 1)) = doneB K (L.take i) := by
  have hp := prior_lt (K := K) hs hw (fun h => List.lt_irrefl _ (List.lt_trans h hk))
  have h1 : ltB K w = true := by simpa [ltB] using hk
  have h2 : gtB K w = false := by
    simp only [gtB, decide_eq_false_iff_not]
    exact fun hg => List.lt_irrefl _ (List.lt_trans hg hk)
  have hd := done_step (K := K) hw
  rw [h1, done_not hp] at hd
  refine ⟨?_, by rw [hd, done_not hp]; rfl⟩
  unfold putK
  rw [hd, done_not hp, take_any (K := K) hw, List.filter_append, List.filter_append, gt_none hp]
  simp [h1, h2]
  cases r <;> simp [midL]
/-- The key itself: the new one in its stead. -/
theorem putK_eq (hs : L.Pairwise fun a b => kOf a < kOf b) (hw : L[i]? = some w) (hk : w.1 = K) : putK K r (L.take (i + 1)) = putK K r (L.take i) ++ midL K r true ∧ doneB K (L.take (i + 1)) = true ∧ doneB K (L.take i) = false := by
  have e : kOf w = K.data.toList := by rw [← hk]; rfl
  have hp := prior_lt (K := K) hs hw (by rw [e]; exact List.lt_irrefl _)
  have h1 : ltB K w = false := by simp [ltB, e, List.lt_irrefl]
  have h2 : gtB K w = false := by simp [gtB, e, List.lt_irrefl]
  have hd := done_step (K := K) hw
  rw [h1, done_not hp] at hd
  refine ⟨?_, hd, done_not hp⟩
  unfold putK
  rw [hd, done_not hp, take_any (K := K) hw, List.filter_append, List.filter_append, gt_none hp]
  simp [h1, h2]
  cases r <;> simp [midL]
/-- A greater one. -/
theorem putK_gt (hw : L[i]? = some w) (hk : K.data.toList < kOf w) : putK K r (L.take (i + 1)) = putK K r (L.take i) ++ (if doneB K (L.take i) then [] else midL K r true) ++ [w] ∧ doneB K (L.take (i + 1)) = true := by
  have h1 : ltB K w = false := by
    simp only [ltB, decide_eq_false_iff_not]
    exact fun hg => List.lt_irrefl _ (List.lt_trans hg hk)
  have h2 : gtB K w = true := by simpa [gtB] using hk
  have hd := done_step (K := K) hw
  rw [h1] at hd
  simp at hd
  refine ⟨?_, hd⟩
  unfold putK
  rw [hd, take_any (K := K) hw, List.filter_append, List.filter_append]
  rcases hb : doneB K (L.take i) with _ | _
  · rw [gt_none (not_done hb)]
    cases r <;> simp [midL, h1, h2]
  · cases r <;> simp [midL, h1, h2]
theorem putK_end : putL K r L = putK K r L ++ (if doneB K L then [] else midL K r true) := by
  unfold putL putK
  rcases hb : doneB K L with _ | _
  · rw [gt_none (not_done hb)]
    cases r <;> simp [midL]
  · simp
end
/-- What the keys have, as the rising row. -/
theorem putF_same (f : Has) (k : Txt) (r : Res) : putF f k r k = r := by simp [putF]
theorem putL_len (K : ByteArray) (r : Res) (L : Wl) : (putL K r L).length ≤ L.length + 1 := by
  have hm : (midL K r true).length ≤ 1 := by cases r <;> simp [midL]
  have h1 : (L.filter (ltB K)).length + (L.filter (gtB K)).length ≤ L.length := by
    have : L.filter (gtB K) = (L.filter fun x => !ltB K x).filter (gtB K) := by
      rw [List.filter_filter]
      refine List.filter_congr fun x hx => ?_
      rcases hg : gtB K x with _ | _
      · simp
      · have : ltB K x = false := by
          simp only [gtB, decide_eq_true_eq] at hg
          simp only [ltB, decide_eq_false_iff_not]
          exact fun hl => List.lt_irrefl _ (List.lt_trans hg hl)
        simp [this]
    rw [this]
    have h2 := List.length_filter_le (gtB K) (L.filter fun x => !ltB K x)
    have h3 : (L.filter (ltB K)).length + (L.filter fun x => !ltB K x).length = L.length := by
      clear h2 this
      induction L with
      | nil => rfl
      | cons x r ih =>
        rw [List.filter_cons, List.filter_cons]
        rcases ltB K x with _ | _ <;> simp <;> omega
    omega
  unfold putL
  simp only [List.length_append]
  omega
end Go.Proofs.YtbggadhaaphmcaaDoor
