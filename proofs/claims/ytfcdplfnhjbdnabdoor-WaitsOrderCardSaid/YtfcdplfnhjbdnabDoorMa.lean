/- made: a graph of stamps and edges. -/
import Derived.Test.YtfcdplfnhjbdnabDoorFi
import Derived.OpenShut
namespace Go.Proofs.YtfcdplfnhjbdnabDoor
open Go.RowKit Go.Sort
set_option linter.unusedVariables false

/-- A slice of edges that came in. -/
def EdgesAt (w : World) (A : Option Addr) (n : Nat) (es : List (Int × Int)) : Prop :=
  es.length = n ∧ n ≤ maxLen ∧ (0 < n → ∃ b off, A = some ⟨b, off, none⟩ ∧ b < w.heap.size ∧ ∀ (i : Nat) (e : Int × Int), es[i]? = some e → w.cell? ⟨b, off + i * 2, none⟩ = some (.int .i64 e.1) ∧ w.cell? ⟨b, off + i * 2 + 1, none⟩ = some (.int .i64 e.2))
theorem EdgesAt.below {w0 w : World} {A : Option Addr} {n : Nat} {es : List (Int × Int)} (h : EdgesAt w0 A n es) (hb : Below w0.heap.size w0 w) : EdgesAt w A n es := by
  refine ⟨h.1, h.2.1, fun hn => ?_⟩
  obtain ⟨b, off, hA, hlt, hc⟩ := h.2.2 hn
  refine ⟨b, off, hA, Nat.lt_of_lt_of_le hlt hb.size, fun i e he => ?_⟩
  obtain ⟨h1, h2⟩ := hc i e he
  exact ⟨(hb.cell (block_lt_of_cell h1)).trans h1, (hb.cell (block_lt_of_cell h2)).trans h2⟩
theorem ints_below {q : IntKind} {w0 w : World} {A : Option Addr} {n : Nat} {zs : List Int} (h : Ints q w0 A n zs) (hb : Below w0.heap.size w0 w) : Ints q w A n zs := by
  refine ⟨h.1, h.2.1, h.2.2.1, fun hn => ?_⟩
  obtain ⟨b, off, hA, hlt, hc⟩ := h.2.2.2 hn
  refine ⟨b, off, hA, Nat.lt_of_lt_of_le hlt hb.size, fun i e he => ?_⟩
  have h1 := hc i e he
  exact (hb.cell (block_lt_of_cell h1)).trans h1
def nodesF (ss : List Int) (k : Nat) : List Nd := (List.range k).foldl (fun (l : List Nd) (i : Nat) => nodeL l (i : Int) (ss.getD i 0)) []
def madeF (l : List Nd) (es : List (Int × Int)) : List Nd := es.foldl (fun l e => edgeL l e.1 e.2) l
theorem nodesF_succ (ss : List Int) (k : Nat) : nodesF ss (k + 1) = nodeL (nodesF ss k) k (ss.getD k 0) := by
  unfold nodesF
  rw [List.range_succ, List.foldl_append]
  rfl
theorem madeF_snoc (l : List Nd) (es : List (Int × Int)) (e : Int × Int) : madeF l (es ++ [e]) = edgeL (madeF l es) e.1 e.2 := by
  unfold madeF
  rw [List.foldl_append]
  rfl
def madeG (ss : List Int) (es : List (Int × Int)) : List Nd := madeF (nodesF ss ss.length) es
set_option maxHeartbeats 1000000 in
theorem made_any {w0 w : World} (hb : Below w0.heap.size w0 w) (A1 A2 : Option Addr) (n1 c1 n2 c2 : Nat) (ss : List Int) (es : List (Int × Int)) (h1 : Ints .u8 w0 A1 n1 ss) (h2 : EdgesAt w0 A2 n2 es) :
    Calls Tryd.prog 8 #[.slice A1 n1 c1, .slice A2 n2 c2] w fun e w' => ∃ gb, e = .returned (.pointer (some ⟨gb, 0, none⟩)) ∧ KG w0 gb (madeG ss es) w' := by
  have hm1 : (n1 : Int) ≤ 9223372036854775807 := by have := h1.2.1; unfold maxLen at this; omega
  have hm2 : (n2 : Int) ≤ 9223372036854775807 := by have := h2.2.1; unfold maxLen at this; omega
  have HNW := Lib.hid (kg_new w0 w hb)
  have HI := Lib.hid h1
  have HE := Lib.hid h2
  clear h1 h2
  go_enter Tryd.func8, Tryd.ntmps8
  go_wp2_with fail
  refine HNW.out.mono ?_
  rintro e w1 ⟨rfl, hK, hN⟩
  dsimp only
  have HK1 := Lib.hid hK
  clear hK hN HNW
  generalize w.heap.size = gb at *
  go_wp2_with fail
  go_loopw [13] (fun i w' => ∃ k : Nat, k ≤ n1 ∧ i = .int .i64 k ∧ KG w0 gb (nodesF ss k) w') (fun i _ => n1 - (intOf i).toNat)
  case atStart => exact ⟨0, by omega, rfl, HK1.out⟩
  case round =>
    obtain ⟨k, hk, rfl, hK⟩ := hrel
    by_cases hlt : k < n1
    · have hI := ints_below HI.out hK.below
      obtain ⟨s, hs⟩ := some_of_lt (L := ss) (i := k) (by rw [hI.1]; exact hlt)
      obtain ⟨b, off, rfl, _, hc⟩ := hI.2.2.2 (by omega)
      have x0 := hc k s hs
      obtain ⟨s0, s1⟩ := bounds_u8 (hI.2.2.1 s (mem_of_some hs))
      have HP := Lib.hid (node_any hK k s (by omega))
      have HS := Lib.hid (show nodeL (nodesF ss k) k s = nodesF ss (k + 1) from by rw [nodesF_succ, List.getD_eq_getElem?_getD, hs]; rfl)
      rw [HS.out] at HP
      clear hI hc hs hK HS
      go_wp2_with fail
      refine HP.out.mono ?_
      rintro e w2 ⟨rfl, hK, _⟩
      dsimp only
      have HK2 := Lib.hid hK
      clear hK HP
      go_wp2_with fail
      exact ⟨⟨k + 1, by omega, by go_num, HK2.out⟩, by simp [intOf]; omega⟩
    · obtain rfl : k = n1 := by omega
      have HK2 := Lib.hid hK
      have hsl := HI.out.1
      clear hlt hk hK
      go_wp2_with fail
      go_loopw [26] (fun i w' => ∃ j : Nat, j ≤ n2 ∧ i = .int .i64 j ∧ KG w0 gb (madeF (nodesF ss k) (es.take j)) w') (fun i _ => n2 - (intOf i).toNat)
      case atStart => exact ⟨0, by omega, rfl, HK2.out⟩
      case round =>
        obtain ⟨j, hj, rfl, hK⟩ := hrel
        by_cases hlt : j < n2
        · have hE := HE.out.below hK.below
          obtain ⟨x, hx⟩ := some_of_lt (L := es) (i := j) (by rw [hE.1]; exact hlt)
          obtain ⟨b, off, rfl, _, hc⟩ := hE.2.2 (by omega)
          obtain ⟨x0, x1⟩ := hc j x hx
          have HP := Lib.hid (edge_any (hK.new_ ((Ch.refl _ wr).alloc (.cells #[.int .i64 x.1, .int .i64 x.2] 41))) x.1 x.2)
          have HS := Lib.hid (show edgeL (madeF (nodesF ss k) (es.take j)) x.1 x.2 = madeF (nodesF ss k) (es.take (j + 1)) from by rw [List.take_add_one, hx, Option.toList_some, madeF_snoc])
          rw [HS.out] at HP
          clear hE hc hx hK HS
          go_wp2_with fail
          refine HP.out.mono ?_
          rintro e w2 ⟨rfl, hK, _⟩
          dsimp only
          have HK2 := Lib.hid hK
          clear hK HP
          go_wp2_with fail
          exact ⟨⟨j + 1, by omega, by go_num, HK2.out⟩, by simp [intOf]; omega⟩
        · obtain rfl : j = n2 := by omega
          have hL : madeF (nodesF ss k) (es.take j) = madeG ss es := by
            unfold madeG
            rw [← HE.out.1, List.take_length, hsl]
          rw [hL] at hK
          have HK3 := Lib.hid hK
          clear hlt hj hK hL
          go_wp2_with fail
          go_ret
          exact ⟨gb, rfl, HK3.out⟩
end Go.Proofs.YtfcdplfnhjbdnabDoor
