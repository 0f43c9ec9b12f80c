/- WaitsOrder, in plain words. -/
import Derived.Test.YtfcdplfnhjbdnabDoorCp
import Derived.Test.YtfcdplfnhjbdnabDoorOw
import Derived.Test.YtfcdplfnhjbdnabDoorEl
import Derived.Test.YtfcdplfnhjbdnabDoorEp
namespace Go.Proofs.YtfcdplfnhjbdnabDoor
open Go.RowKit Go.Sort
set_option linter.unusedVariables false

theorem nodup_at {o : List Nat} (h : o.Nodup) {p q x : Nat} (hp : o[p]? = some x) (hq : o[q]? = some x) : p = q := by
  refine nodup_inj h (lt_of_some hp) (lt_of_some hq) ?_
  rw [List.getElem?_eq_getElem (lt_of_some hp)] at hp
  rw [List.getElem?_eq_getElem (lt_of_some hq)] at hq
  injection hp with hp
  injection hq with hq
  rw [hp, hq]
theorem mem_take_at {o : List Nat} {k x : Nat} : x ∈ o.take k ↔ ∃ p, p < k ∧ o[p]? = some x := by
  constructor
  · intro h
    obtain ⟨p, hp⟩ := List.mem_iff_getElem?.1 h
    have hl := lt_of_some hp
    rw [List.length_take] at hl
    rw [List.getElem?_take_of_lt (by omega)] at hp
    exact ⟨p, by omega, hp⟩
  · rintro ⟨p, hpk, hp⟩
    refine List.mem_iff_getElem?.2 ⟨p, ?_⟩
    rw [List.getElem?_take_of_lt hpk]
    exact hp
theorem ord_in {l : List Nd} {o : List Nat} (h : Ord l o 0) {i : Nat} (hi : i < l.length) : i ∈ o := by
  refine Classical.byContradiction fun hn => ?_
  have := (h.left_ i).2 ⟨hi, hn⟩
  simp at this
/-- The places, as far as k. -/
structure Pl (n : Nat) (o : List Nat) (k : Nat) (row : List Int) : Prop where
  len : row.length = n
  at_ : ∀ (j : Nat) (v : Int), row[j]? = some v → (v = 0 ∧ j ∉ o.take k) ∨ ∃ p, p < k ∧ o[p]? = some j ∧ v = (p : Int) + 1
theorem pl_zero (n : Nat) (o : List Nat) : Pl n o 0 (List.replicate n 0) := by
  refine ⟨by simp, fun j v hv => .inl ?_⟩
  have := List.mem_replicate.1 (mem_of_some hv)
  exact ⟨this.2, by simp⟩
theorem pl_free {n k x : Nat} {o : List Nat} {row : List Int} (h : Pl n o k row) (hnd : o.Nodup) (hx : o[k]? = some x) {v : Int} (hv : row[x]? = some v) : v = 0 := by
  rcases h.at_ x v hv with h1 | ⟨p, hp, hpx, _⟩
  · exact h1.1
  · have := nodup_at hnd hx hpx
    omega
theorem pl_snoc {n k x : Nat} {o : List Nat} {row : List Int} (h : Pl n o k row) (hx : o[k]? = some x) : Pl n o (k + 1) (row.set x ((k : Int) + 1)) := by
  refine ⟨by rw [List.length_set]; exact h.len, fun j v hv => ?_⟩
  rw [List.getElem?_set] at hv
  by_cases e : x = j
  · subst e
    have hl : x < row.length := by
      rcases Nat.lt_or_ge x row.length with hl | hl
      · exact hl
      · simp [Nat.not_lt.2 hl] at hv
    simp [hl] at hv
    exact .inr ⟨k, by omega, hx, by omega⟩
  · rw [if_neg e] at hv
    rcases h.at_ j v hv with ⟨h0, h1⟩ | ⟨p, hp, hpx, hv⟩
    · refine .inl ⟨h0, fun hm => ?_⟩
      obtain ⟨p, hp, hpj⟩ := mem_take_at.1 hm
      rcases Nat.lt_or_ge p k with h' | h'
      · exact h1 (mem_take_at.2 ⟨p, h', hpj⟩)
      · have : p = k := by omega
        subst this
        rw [hx] at hpj
        injection hpj with hpj
        exact e hpj
    · exact .inr ⟨p, by omega, hpx, hv⟩
/-- Each edge goes ahead. -/
theorem pl_edge {G : List Nd} (hG : Ok G) {o : List Nat} (ho : Ord G o 0) {row : List Int} (h : Pl G.length o G.length row) {i j : Nat} (he : Eg G i j) {u v : Int} (hu : row[i]? = some u) (hv : row[j]? = some v) : v < u := by
  obtain ⟨hi, hj⟩ := eg_lt hG he
  have hlen := ord_end ho
  have full : o.take G.length = o := by rw [← hlen, List.take_length]
  rcases h.at_ i u hu with ⟨_, hn⟩ | ⟨p, hp, hpi, rfl⟩
  · rw [full] at hn; exact absurd (ord_in ho hi) hn
  rcases h.at_ j v hv with ⟨_, hn⟩ | ⟨q, hq, hqj, rfl⟩
  · rw [full] at hn; exact absurd (ord_in ho hj) hn
  obtain ⟨q', hq', hqj'⟩ := mem_take_at.1 (ho.behind p i hpi j he)
  have := nodup_at ho.nd hqj hqj'
  omega
/-- An elder one behind a younger one waits for it. -/
theorem ord_elder {G : List Nd} {o : List Nat} (hG : Ok G) (ho : Ord G o 0) {p x y : Nat} (hx : o[p]? = some x) (hy : o[p + 1]? = some y) (hb : bef (ndAt G y) (ndAt G x) = true) : Eg G y x := by
  refine Classical.byContradiction fun hne => ?_
  have hnot : y ∉ o.take p := fun hm => by
    obtain ⟨q, hq, hqy⟩ := mem_take_at.1 hm
    have := nodup_at ho.nd hy hqy
    omega
  have := ho.first p x hx y (ho.lt y (mem_of_some hy)) hnot (fun j hj => by
    obtain ⟨q, hq, hqj⟩ := mem_take_at.1 (ho.behind (p + 1) y hy j hj)
    rcases Nat.lt_or_ge q p with h' | h'
    · exact mem_take_at.2 ⟨q, h', hqj⟩
    · have : q = p := by omega
      subst this
      rw [hx] at hqj
      injection hqj with hqj
      subst hqj
      exact absurd hj hne)
  rw [hb] at this
  cases this
theorem shape_at {G : List Nd} {ss : List Int} (h : Shape G ss) {a : Nat} (ha : a < G.length) : idAt G a = a := by
  have := at_ndAt ha
  rw [idAt_of this]
  exact (h.2 a _ this).1
theorem ids_at {G : List Nd} {ss : List Int} (h : Shape G ss) {o : List Nat} (ho : Ord G o 0) {p x : Nat} (hx : o[p]? = some x) : (idsOf G o)[p]? = some (x : Int) := by
  unfold idsOf
  rw [List.getElem?_map, hx]
  show some (idAt G x) = _
  rw [shape_at h (ho.lt x (mem_of_some hx))]
theorem elder_at {G : List Nd} {ss : List Int} (h : Shape G ss) {x y : Nat} (hx : x < G.length) (hy : y < G.length) : elderB G x y = bef (ndAt G x) (ndAt G y) := by
  unfold elderB
  rw [shape_idx h (by rw [← h.1]; exact hx), shape_idx h (by rw [← h.1]; exact hy), Int.toNat_natCast, Int.toNat_natCast]
  simp
/-- An edge of the list, by places. -/
theorem edge_at {G : List Nd} {ss : List Int} (hG : Ok G) (h : Shape G ss) {k : Nat} {e : Int × Int} (he : (edgesG G)[k]? = some e) : ∃ i j : Nat, e = ((i : Int), (j : Int)) ∧ i < G.length ∧ j < G.length ∧ Eg G i j := by
  obtain ⟨a, b⟩ := e
  obtain ⟨i, j, x, y, hx, hy, rfl, rfl, hE⟩ := (edges_mem hG).1 (mem_of_some he)
  exact ⟨i, j, by rw [(h.2 i x hx).1, (h.2 j y hy).1], lt_of_some hx, lt_of_some hy, hE⟩
theorem edge_in {G : List Nd} {ss : List Int} (hG : Ok G) (h : Shape G ss) {i j : Nat} (hE : Eg G i j) : ((i : Int), (j : Int)) ∈ edgesG G := by
  obtain ⟨hi, hj⟩ := eg_lt hG hE
  exact (edges_mem hG).2 ⟨i, j, _, _, at_ndAt hi, at_ndAt hj, (h.2 i _ (at_ndAt hi)).1, (h.2 j _ (at_ndAt hj)).1, hE⟩
/-- Free, as far as k. -/
def freeK (es : List (Int × Int)) (a b : Int) (k : Nat) : Bool := !decide ((a, b) ∈ es.take k)
theorem freeK_zero (es : List (Int × Int)) (a b : Int) : freeK es a b 0 = true := by simp [freeK]
theorem freeK_step {es : List (Int × Int)} {a b : Int} {k : Nat} {e : Int × Int} (he : es[k]? = some e) : freeK es a b (k + 1) = (freeK es a b k && (e.1 != a || e.2 != b)) := by
  obtain ⟨x, y⟩ := e
  unfold freeK
  rw [List.take_add_one, he]
  by_cases h1 : x = a
  · by_cases h2 : y = b
    · subst h1 h2; simp
    · have : (a, b) ≠ (x, y) := fun e => h2 (by injection e with _ e; exact e.symm)
      simp [h1, h2, Ne.symm h2]
  · have : (a, b) ≠ (x, y) := fun e => h1 (by injection e with e _; exact e.symm)
    simp [h1, Ne.symm h1]
theorem edgesG_len {G : List Nd} : (edgesG G).length ≤ G.length * G.length := by
  have := edgesK_len G (sortI (G.map Nd.id))
  rw [List.length_mergeSort, List.length_map] at this
  exact this
end Go.Proofs.YtfcdplfnhjbdnabDoor
