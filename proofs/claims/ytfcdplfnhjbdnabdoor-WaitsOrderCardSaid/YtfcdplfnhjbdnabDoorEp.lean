/- Edges, in plain words. -/
import Derived.Test.YtfcdplfnhjbdnabDoorBw
namespace Go.Proofs.YtfcdplfnhjbdnabDoor
open Go.RowKit Go.Sort
set_option linter.unusedVariables false

/-- The targets' numbers of a set of places, as far as k. -/
def tosK (l : List Nd) (t : Nat) (k : Nat) : List Int := ((List.range k).filter (fun j => t.testBit j)).map (idAt l)
theorem tosK_step {l : List Nd} {t k : Nat} {x : Nd} (h : l[k]? = some x) : tosK l t (k + 1) = tosK l t k ++ (if t.testBit k then [x.id] else []) := by
  unfold tosK
  rw [List.range_succ, List.filter_append, List.map_append]
  congr 1
  by_cases hv : t.testBit k = true
  · rw [if_pos hv]; simp [hv, idAt_of h]
  · rw [if_neg hv]; simp [hv]
theorem tosK_len (l : List Nd) (t k : Nat) : (tosK l t k).length ≤ k := by
  unfold tosK
  rw [List.length_map]
  exact Nat.le_trans (List.length_filter_le _ _) (by simp)
def tosOf (l : List Nd) (a : Int) : List Int := sortI (tosK l (toAt l (idxOf l a).toNat) l.length)
theorem tosOf_len (l : List Nd) (a : Int) : (tosOf l a).length ≤ l.length := by
  unfold tosOf
  rw [List.length_mergeSort]
  exact tosK_len _ _ _
def edgesK (l : List Nd) (ids : List Int) : List (Int × Int) := ids.flatMap fun a => (tosOf l a).map fun b => (a, b)
theorem edgesK_snoc (l : List Nd) (ids : List Int) (a : Int) : edgesK l (ids ++ [a]) = edgesK l ids ++ (tosOf l a).map fun b => (a, b) := by
  unfold edgesK
  rw [List.flatMap_append]
  simp
theorem edgesK_len (l : List Nd) (ids : List Int) : (edgesK l ids).length ≤ ids.length * l.length := by
  unfold edgesK
  induction ids with
  | nil => simp
  | cons a r ih =>
    rw [List.flatMap_cons, List.length_append, List.length_map, List.length_cons, Nat.add_mul, Nat.one_mul]
    have := tosOf_len l a
    omega
def edgesG (l : List Nd) : List (Int × Int) := edgesK l (sortI (l.map Nd.id))
theorem edges_mem {l : List Nd} (h : Ok l) {a b : Int} : (a, b) ∈ edgesG l ↔ ∃ (i j : Nat) (x y : Nd), l[i]? = some x ∧ l[j]? = some y ∧ x.id = a ∧ y.id = b ∧ Eg l i j := by
  unfold edgesG edgesK
  rw [List.mem_flatMap]
  constructor
  · rintro ⟨a', ha, hm⟩
    obtain ⟨b', hb, hab⟩ := List.mem_map.1 hm
    injection hab with e1 e2
    subst e1 e2
    obtain ⟨x, hx, rfl⟩ := List.mem_map.1 (List.mem_mergeSort.1 ha)
    obtain ⟨i, hi⟩ := List.mem_iff_getElem?.1 hx
    rcases idx_cases l x.id with ⟨_, hno⟩ | ⟨i', x', hii, hx', hxe⟩
    · exact absurd rfl (hno x hx)
    · obtain rfl := ids_inj h hi hx' hxe.symm
      unfold tosOf at hb
      rw [hii, Int.toNat_natCast] at hb
      unfold tosK at hb
      obtain ⟨j, hj, rfl⟩ := List.mem_map.1 (List.mem_mergeSort.1 hb)
      rw [List.mem_filter, List.mem_range] at hj
      obtain ⟨y, hy⟩ := some_of_lt hj.1
      exact ⟨i, j, x, y, hi, hy, rfl, (idAt_of hy).symm, eg_iff.2 hj.2⟩
  · rintro ⟨i, j, x, y, hx, hy, rfl, rfl, he⟩
    refine ⟨x.id, List.mem_mergeSort.2 (List.mem_map.2 ⟨x, mem_of_some hx, rfl⟩), List.mem_map.2 ⟨y.id, ?_, rfl⟩⟩
    rcases idx_cases l x.id with ⟨_, hno⟩ | ⟨i', x', hii, hx', hxe⟩
    · exact absurd rfl (hno x (mem_of_some hx))
    · obtain rfl := ids_inj h hx hx' hxe.symm
      unfold tosOf
      rw [hii, Int.toNat_natCast]
      refine List.mem_mergeSort.2 (List.mem_map.2 ⟨j, ?_, idAt_of hy⟩)
      rw [List.mem_filter, List.mem_range]
      exact ⟨lt_of_some hy, eg_iff.1 he⟩
def flatE (es : List (Int × Int)) : List Value := es.flatMap fun e => [.int .i64 e.1, .int .i64 e.2]
theorem flatE_snoc (es : List (Int × Int)) (e : Int × Int) : flatE (es ++ [e]) = flatE es ++ [.int .i64 e.1, .int .i64 e.2] := by simp [flatE]
theorem flatE_get (es : List (Int × Int)) {i : Nat} {e : Int × Int} (h : es[i]? = some e) : (flatE es)[i * 2]? = some (.int .i64 e.1) ∧ (flatE es)[i * 2 + 1]? = some (.int .i64 e.2) := by
  have g : ∀ j, j < 2 → (flatE es)[i * 2 + j]? = ([.int .i64 e.1, .int .i64 e.2] : List Value)[j]? := fun j hj => flat_get (f := fun e : Int × Int => [Value.int .i64 e.1, .int .i64 e.2]) (m := 2) (fun _ _ => rfl) h hj
  exact ⟨g 0 (by omega), g 1 (by omega)⟩
end Go.Proofs.YtfcdplfnhjbdnabDoor
