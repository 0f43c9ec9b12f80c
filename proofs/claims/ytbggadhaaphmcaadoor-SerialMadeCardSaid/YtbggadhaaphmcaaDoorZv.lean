/- serial: which places are dead; what stays when the map of the dead grows. -/
import Derived.Test.YtbggadhaaphmcaaDoorZq
namespace Go.Proofs.YtbggadhaaphmcaaDoor
open Go.Lib Go.RowKit
set_option linter.unusedVariables false

def txtL (L : Wl) : ByteArray := ⟨(textL L).toArray⟩
theorem txtL_inj {L M : Wl} (hl : LowW L) (hm : LowW M) (h : txtL L = txtL M) : L = M := by
  refine text_inj hl hm ?_
  have := congrArg (fun s => s.data.toList) h
  simpa [txtL] using this
theorem txtL_size (L : Wl) : (txtL L).size = (textL L).length := by
  rw [← data_len]
  simp [txtL]
/-- What the map of the dead tells is true: from there nothing is found. -/
structure DeadOK (l : Hist) (F : Int → ByteArray → Int) : Prop where
  bit : ∀ x y, F x y = 0 ∨ F x y = 1
  dead : ∀ (ps : List Nat) (L : Wl) (f : Has), ps.Nodup → Low l.length ps → SortedW L f → FitF f → F (maskN ps) (txtL L) = 1 → findS l (l.length - ps.length) ps f = none
theorem dead_zero (l : Hist) : DeadOK l (fun _ _ => 0) := ⟨fun _ _ => .inl rfl, fun _ _ _ _ _ _ _ h => by cases h⟩
theorem nodup_same_len {n : Nat} {ps qs : List Nat} (h1 : ps.Nodup) (h2 : qs.Nodup) (h : ∀ j, j ∈ ps ↔ j ∈ qs) : ps.length = qs.length :=
  Nat.le_antisymm (List.Nodup.length_le_of_subset h1 fun x hx => (h x).1 hx) (List.Nodup.length_le_of_subset h2 fun x hx => (h x).2 hx)
theorem DeadOK.put {l : Hist} {F : Int → ByteArray → Int} (h : DeadOK l F) {ps : List Nat} {L : Wl} {f : Has} (hn : ps.Nodup) (hs : SortedW L f) (hf : FitF f) (hno : findS l (l.length - ps.length) ps f = none) :
    DeadOK l (fun x y => if x = (maskN ps : Int) ∧ y = txtL L then 1 else F x y) := by
  refine ⟨fun x y => ?_, fun qs M g hq hlow hsM hfM h1 => ?_⟩
  · skip
    split
    · exact .inr rfl
    · exact h.bit x y
  · skip
    split at h1
    · rename_i hc
      obtain ⟨e1, e2⟩ := hc
      have e1 : maskN qs = maskN ps := by omega
      have hmem := mask_mem e1
      have hML := txtL_inj (hfM.row hsM).low (hf.row hs).low e2
      subst hML
      have hg : g = f := sorted_same hsM hs
      subst hg
      have hlen := nodup_same_len (n := l.length) hq hn hmem
      rw [hlen, find_same _ g hmem]
      exact hno
    · exact h.dead qs M g hq hlow hsM hfM h1
theorem all_of_full {l : Hist} {ps : List Nat} (h1 : ps.Nodup) (h2 : Low l.length ps) (h3 : l.length - ps.length = 0) : allB l ps = true := by
  unfold allB
  rw [List.all_eq_true]
  intro j hj
  have hj := List.mem_range.1 hj
  have : j ∈ ps := by
    refine Classical.byContradiction fun hn => ?_
    have h4 : (ps ++ [j]).Nodup := by
      rw [List.nodup_append]
      exact ⟨h1, by simp, fun a ha b hb => by simp only [List.mem_singleton] at hb; subst hb; exact fun e => hn (e ▸ ha)⟩
    have := nodup_len h4 (n := l.length) (fun x hx => by
      rcases List.mem_append.1 hx with hx | hx
      · exact h2 x hx
      · simp only [List.mem_singleton] at hx
        subst hx; exact hj)
    rw [List.length_append, List.length_singleton] at this
    omega
  simp [this]
/-- One deed tried. -/
noncomputable def tryS (l : Hist) (r : Nat) (ps : List Nat) (f : Has) (i : Nat) : Option (List Nat) :=
  if mayB l ps i && tellB (l.get i) f then (findS l r (ps ++ [i]) (runF f (l.get i).plan)).map (i :: ·) else none
theorem find_all {l : Hist} {r : Nat} {ps : List Nat} {f : Has} (h : allB l ps = true) : findS l r ps f = some [] := by
  cases r with
  | zero => rw [findS, if_pos h]
  | succ r => rw [findS, if_pos h]
theorem find_step {l : Hist} {r : Nat} {ps : List Nat} {f : Has} (h : allB l ps = false) : findS l (r + 1) ps f = (List.range l.length).findSome? (tryS l r ps f) := by
  rw [findS, if_neg (by rw [h]; simp)]
  rfl
theorem find_none {l : Hist} {r : Nat} {ps : List Nat} {f : Has} (h : allB l ps = false) (hk : ∀ i, i < l.length → tryS l r ps f i = none) : findS l (r + 1) ps f = none := by
  rw [find_step h]
  exact findSome_no fun i hi => hk i (List.mem_range.1 hi)
theorem findSome_at {α β : Type} {f : α → Option β} {b : β} : ∀ {l : List α} {k : Nat} {a : α}, l[k]? = some a → (∀ j x, j < k → l[j]? = some x → f x = none) → f a = some b → l.findSome? f = some b
  | [], k, a, h, _, _ => by simp at h
  | x :: l, 0, a, h, _, hb => by
    simp only [List.getElem?_cons_zero, Option.some.injEq] at h
    subst h
    rw [List.findSome?_cons, hb]
  | x :: l, k + 1, a, h, hn, hb => by
    rw [List.findSome?_cons, hn 0 x (by omega) rfl]
    exact findSome_at (k := k) (by simpa using h) (fun j y hj hy => hn (j + 1) y (by omega) (by simpa using hy)) hb
theorem find_some {l : Hist} {r : Nat} {ps : List Nat} {f : Has} {i : Nat} {out : List Nat} (h : allB l ps = false) (hi : i < l.length) (hk : ∀ j, j < i → tryS l r ps f j = none) (ht : tryS l r ps f i = some out) : findS l (r + 1) ps f = some out := by
  rw [find_step h]
  refine findSome_at (k := i) (a := i) (by rw [List.getElem?_range hi]) (fun j x hj hx => ?_) ht
  rw [List.getElem?_range (by omega)] at hx
  injection hx with hx
  subst hx
  exact hk j hj
/-! ### What stays when the map's block alone is written -/
theorem cell_db {w w' : World} {db : Nat} {es : _} {cl : _} (hm : w.heap[db]? = some (.map es cl)) (hc : Ch (fun g => g = db) w w') {b o : Nat} {v : Value} (h : w.cell? ⟨b, o, none⟩ = some v) : w'.cell? ⟨b, o, none⟩ = some v := by
  have hne : b ≠ db := by
    rintro rfl
    unfold World.cell? at h
    simp [hm] at h
  exact (World.cell?_of_block (a := ⟨b, o, none⟩) (hc.block b (lt_cell h) hne)).trans h
theorem Rd.db {w w' : World} {db : Nat} {es : _} {cl : _} (hm : w.heap[db]? = some (.map es cl)) (hc : Ch (fun g => g = db) w w') {A : Option Addr} {xs : List Value} (h : Rd w A xs) : Rd w' A xs := fun hne => by
  obtain ⟨b, off, hA, hlt, hcell⟩ := h hne
  exact ⟨b, off, hA, Nat.lt_of_lt_of_le hlt hc.size, fun i v hv => cell_db hm hc (hcell i v hv)⟩
theorem DeedAt.db {w w' : World} {db : Nat} {es : _} {cl : _} (hm : w.heap[db]? = some (.map es cl)) (hc : Ch (fun g => g = db) w w') {b i : Nat} {d : DeedD} (h : DeedAt w b i d) : DeedAt w' b i d := by
  obtain ⟨A, c, h1, h2⟩ := h.c2
  obtain ⟨A', c', h3, h4⟩ := h.c3
  exact ⟨cell_db hm hc h.c0, cell_db hm hc h.c1, ⟨A, c, cell_db hm hc h1, h2.1, Rd.db hm hc h2.2⟩, ⟨A', c', cell_db hm hc h3, h4.1, Rd.db hm hc h4.2⟩, cell_db hm hc h.c4, h.lp, h.lr⟩
theorem Deeds.db {w w' : World} {db : Nat} {es : _} {cl : _} (hm : w.heap[db]? = some (.map es cl)) (hc : Ch (fun g => g = db) w w') {A : Option Addr} {n : Nat} {l : Hist} (h : Deeds w A n l) : Deeds w' A n l := by
  refine ⟨h.1, h.2.1, fun hn => ?_⟩
  obtain ⟨b, off, hA, hlt, hp⟩ := h.2.2 hn
  exact ⟨b, off, hA, Nat.lt_of_lt_of_le hlt hc.size, fun i p hi => (hp i p hi).db hm hc⟩
theorem SrB.db {w w' : World} {db : Nat} {es : _} {cl : _} (hm : w.heap[db]? = some (.map es cl)) (hc : Ch (fun g => g = db) w w') {sb n c : Nat} {A : Option Addr} {dm : Value} {l : Hist} (h : SrB w sb A n c dm l) : SrB w' sb A n c dm l :=
  ⟨h.blk.ch hc (fun e => by
    have := h.blk
    unfold Blk at this
    rw [e, hm] at this
    cases this), h.dd.db hm hc, h.few⟩
theorem Wrs.db {w w' : World} {db : Nat} {es : _} {cl : _} (hm : w.heap[db]? = some (.map es cl)) (hc : Ch (fun g => g = db) w w') {A : Option Addr} {n : Nat} {L : Wl} (h : Wrs w A n L) : Wrs w' A n L := ⟨h.1, Rd.db hm hc h.2⟩
theorem DMap.obj {w : World} {b n : Nat} {D : DataW Unit} {f : Int → ByteArray → Int} (h : DMap w b n D f) : ∃ es cl, w.heap[b]? = some (.map es cl) := by
  obtain ⟨es, cl, hb, _⟩ := h.1
  exact ⟨es, cl, hb⟩
end Go.Proofs.YtbggadhaaphmcaaDoor
