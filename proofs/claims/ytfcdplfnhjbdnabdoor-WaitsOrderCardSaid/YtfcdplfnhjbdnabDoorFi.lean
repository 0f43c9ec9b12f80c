/- The fixed facts. -/
import Derived.Test.YtfcdplfnhjbdnabDoorOw
namespace Go.Proofs.YtfcdplfnhjbdnabDoor
open Go.RowKit Go.Sort
set_option linter.unusedVariables false

theorem nodes_nil (w : World) : Calls Tryd.prog 15 #[.pointer none] w fun e w' => e = .returned (.slice none 0 0) ∧ w = w' := by
  go_enter Tryd.func15, Tryd.ntmps15
  go_wp2_with fail
  go_ret
  exact ⟨rfl, rfl⟩
theorem edges_nil (w : World) : Calls Tryd.prog 17 #[.pointer none] w fun e w' => e = .returned (.slice none 0 0) ∧ w = w' := by
  have HNN := Lib.hid (nodes_nil w)
  go_enter Tryd.func17, Tryd.ntmps17
  go_wp2_with fail
  refine HNN.out.mono ?_
  rintro e w2 ⟨rfl, rfl⟩
  dsimp only
  go_wp2_with fail
  go_loopw [3, 15] (fun o i w' => o = .slice none 0 0 ∧ i = .int .i64 0 ∧ w = w') (fun _ _ _ => 0)
  case atStart => exact ⟨rfl, rfl, rfl⟩
  case round =>
    obtain ⟨rfl, rfl, rfl⟩ := hrel
    go_wp2_with fail
    go_ret
    exact ⟨rfl, rfl⟩
def g3 : List Nd := [⟨1, 5, 2⟩, ⟨2, 9, 4⟩, ⟨3, 7, 1⟩]
def g2 : List Nd := [⟨1, 5, 0⟩, ⟨3, 7, 1⟩]
theorem f_node1 : nodeE [] 1 5 = 0 ∧ nodeL [] 1 5 = [⟨1, 5, 0⟩] := ⟨by kernel_rfl, by kernel_rfl⟩
theorem f_node2 : nodeE [⟨1, 5, 0⟩] 2 9 = 0 ∧ nodeL [⟨1, 5, 0⟩] 2 9 = [⟨1, 5, 0⟩, ⟨2, 9, 0⟩] := ⟨by kernel_rfl, by kernel_rfl⟩
theorem f_node3 : nodeE [⟨1, 5, 0⟩, ⟨2, 9, 0⟩] 3 7 = 0 ∧ nodeL [⟨1, 5, 0⟩, ⟨2, 9, 0⟩] 3 7 = [⟨1, 5, 0⟩, ⟨2, 9, 0⟩, ⟨3, 7, 0⟩] := ⟨by kernel_rfl, by kernel_rfl⟩
theorem f_edge1 : edgeL [⟨1, 5, 0⟩, ⟨2, 9, 0⟩, ⟨3, 7, 0⟩] 1 2 = [⟨1, 5, 2⟩, ⟨2, 9, 0⟩, ⟨3, 7, 0⟩] := by kernel_rfl
theorem f_edge2 : edgeL [⟨1, 5, 2⟩, ⟨2, 9, 0⟩, ⟨3, 7, 0⟩] 2 3 = [⟨1, 5, 2⟩, ⟨2, 9, 4⟩, ⟨3, 7, 0⟩] := by kernel_rfl
theorem f_edge3 : edgeL [⟨1, 5, 2⟩, ⟨2, 9, 4⟩, ⟨3, 7, 0⟩] 3 1 = g3 := by kernel_rfl
theorem f_vic : vicK g3 g3.length = [2] := by kernel_rfl
theorem f_sort2 : sortI [2] = [2] := List.mergeSort_singleton _
theorem f_cyc : cycAt g3 0 = true := by kernel_rfl
theorem f_node4 : nodeE g3 1 6 = 8 ∧ nodeL g3 1 6 = g3 := ⟨by kernel_rfl, by kernel_rfl⟩
theorem f_edge4 : edgeE g3 1 1 = 1 ∧ edgeL g3 1 1 = g3 := ⟨by kernel_rfl, by kernel_rfl⟩
theorem f_edge5 : edgeE g3 1 9 = 6 ∧ edgeL g3 1 9 = g3 := ⟨by kernel_rfl, by kernel_rfl⟩
theorem f_drop : dropI g3 2 = g2 := by kernel_rfl
theorem f_cyc2 : ∀ i, i < g2.length → cycAt g2 i = false := by
  intro i hi
  have : i = 0 ∨ i = 1 := by simp [g2] at hi; omega
  rcases this with rfl | rfl
  · exact (by kernel_rfl : cycAt g2 0 = false)
  · exact (by kernel_rfl : cycAt g2 1 = false)
theorem f_reach1 : reachB g2 3 1 = true := by kernel_rfl
theorem f_reach2 : reachB g2 1 3 = false := by kernel_rfl
theorem f_old {y : Nd} (hy : y ∈ g3) (h : ∀ x : Nd, x ∈ g3 → bef x y = false) : y.id = 1 := by
  have h1 := h ⟨1, 5, 2⟩ (by simp [g3])
  simp [g3] at hy
  rcases hy with rfl | rfl | rfl
  · rfl
  · simp [bef] at h1
  · simp [bef] at h1
theorem f_ord {o : List Nat} (h : Ord g2 o 0) : o = [0, 1] := by
  have hl := ord_end h
  have hg : g2.length = 2 := rfl
  rw [hg] at hl
  obtain ⟨a, b, rfl⟩ : ∃ a b, o = [a, b] := by
    match o, hl with
    | [a, b], _ => exact ⟨a, b, rfl⟩
  have ha := h.lt a (by simp)
  have hb := h.lt b (by simp)
  rw [hg] at ha hb
  have hn := h.nd
  simp at hn
  have h0 : a ≠ 1 := fun e => by
    subst e
    have := h.behind 0 1 rfl 0 ⟨⟨3, 7, 1⟩, rfl, rfl⟩
    simp at this
  have : a = 0 := by omega
  subst this
  have : b = 1 := by omega
  subst this
  rfl
set_option maxRecDepth 100000 in
set_option maxHeartbeats 4000000 in
theorem fixed_any (w : World) (hT : Tab w) : Calls Tryd.prog 7 #[] w fun e w' => e = .returned (.bool true) ∧ Below w.heap.size w w' := by
  have HT := Lib.hid hT
  have HNW := Lib.hid (kg_new w w (Below.refl _ _))
  go_enter Tryd.func7, Tryd.ntmps7
  go_wp2_with fail
  refine HNW.out.mono ?_
  rintro e w1 ⟨rfl, hK, _⟩
  dsimp only
  generalize w.heap.size = gb at *
  have HTB := Lib.hid (fun w' (hb : Below w.heap.size w w') => (show Tab w' from fun j hj => (hb.cell (block_lt_of_cell (hT j hj))).trans (hT j hj)))
  clear hT
  have HK := Lib.hid (node_any hK 1 5 (by decide))
  rw [f_node1.1, f_node1.2] at HK
  clear hK
  go_wp2_with fail
  refine HK.out.mono ?_
  rintro e w2 ⟨rfl, hK, hkp⟩
  dsimp only
  clear HK
  clear hkp
  have HK := Lib.hid (node_any hK 2 9 (by decide))
  rw [f_node2.1, f_node2.2] at HK
  clear hK
  go_wp2_with fail
  refine HK.out.mono ?_
  rintro e w3 ⟨rfl, hK, hkp⟩
  dsimp only
  clear HK
  clear hkp
  have HK := Lib.hid (node_any hK 3 7 (by decide))
  rw [f_node3.1, f_node3.2] at HK
  clear hK
  go_wp2_with fail
  refine HK.out.mono ?_
  rintro e w4 ⟨rfl, hK, hkp⟩
  dsimp only
  clear HK
  clear hkp
  have HK := Lib.hid (edge_any hK 1 2)
  rw [f_edge1] at HK
  clear hK
  go_wp2_with fail
  refine HK.out.mono ?_
  rintro e w5 ⟨rfl, hK, hkp⟩
  dsimp only
  clear HK
  clear hkp
  have HK := Lib.hid (edge_any hK 2 3)
  rw [f_edge2] at HK
  clear hK
  go_wp2_with fail
  refine HK.out.mono ?_
  rintro e w6 ⟨rfl, hK, hkp⟩
  dsimp only
  clear HK
  clear hkp
  have HK := Lib.hid (edge_any hK 3 1)
  rw [f_edge3] at HK
  clear hK
  go_wp2_with fail
  refine HK.out.mono ?_
  rintro e w7 ⟨rfl, hK, hkp⟩
  dsimp only
  clear HK
  clear hkp
  obtain ⟨vv, hm⟩ := hK.gm
  have HR := Lib.hid (victims_any hm (HTB.out _ hK.below))
  have HKK := Lib.hid hK
  clear hK hm
  go_wp2_with fail
  refine HR.out.mono ?_
  rintro e w8 ⟨A, c, he, ho, hN⟩
  rw [f_vic, f_sort2] at ho
  rw [f_vic] at he
  simp only [List.length_singleton] at he ho
  subst he
  obtain ⟨g, q, hv, _, _⟩ := ho.form (by omega)
  injection hv with hv _ _
  subst hv
  have hc := ho.cells (g := g) rfl 0 (.int .i64 2) rfl
  rw [add_mk, Nat.zero_add] at hc
  obtain ⟨cur, hcur⟩ := own_blk ho
  have HV := Lib.hid (fun w' (hk : KpT w8 w') => (show w'.cell? ⟨g, 0, none⟩ = some (.int .i64 2) from by rw [(hk g 3 cur (by decide) (by decide) hcur).cell, ← hcur.cell]; exact hc))
  have KP := Lib.hid (KpT.refl w8)
  clear ho hc hcur
  have hK := HKK.out.new_ hN
  have hkp := KpT.new_ hN
  dsimp only
  clear HR HKK hN
  clear hkp
  obtain ⟨vv, hm⟩ := hK.gm
  have HR := Lib.hid (oldest_any hm)
  have HKK := Lib.hid hK
  clear hK hm
  go_wp2_with fail
  refine HR.out.mono ?_
  rintro e w9 ⟨ho, hN⟩
  obtain ⟨y, hy, rfl, hyb⟩ : ∃ y : Nd, y ∈ g3 ∧ e = .returned (.tuple #[.int .i64 y.id, .bool true]) ∧ ∀ x : Nd, x ∈ g3 → bef x y = false := by
    rcases ho with ⟨h0, _⟩ | h0
    · cases h0
    · exact h0
  rw [f_old hy hyb]
  clear ho hy hyb
  have hK := HKK.out.new_ hN
  have hkp := KpT.new_ hN
  dsimp only
  clear HR HKK hN
  have KP := Lib.hid (KP.out.trans hkp)
  clear hkp
  obtain ⟨vv, hm⟩ := hK.gm
  have HR := Lib.hid (order_any hm (HTB.out _ hK.below))
  have HKK := Lib.hid hK
  clear hK hm
  go_wp2_with fail
  refine HR.out.mono ?_
  rintro e w10 ⟨ho, hN⟩
  obtain rfl : e = .returned (.tuple #[.slice none 0 0, .bool false]) := by
    rcases ho with ⟨_, h0⟩ | ⟨h0, _⟩
    · exact h0
    · have h1 := h0 0 (by decide)
      rw [f_cyc] at h1
      cases h1
  clear ho
  have hK := HKK.out.new_ hN
  have hkp := KpT.new_ hN
  dsimp only
  clear HR HKK hN
  have KP := Lib.hid (KP.out.trans hkp)
  clear hkp
  have HK := Lib.hid (node_any hK 1 6 (by decide))
  rw [f_node4.1, f_node4.2] at HK
  clear hK
  go_wp2_with fail
  refine HK.out.mono ?_
  rintro e w11 ⟨rfl, hK, hkp⟩
  dsimp only
  clear HK
  have KP := Lib.hid (KP.out.trans hkp)
  clear hkp
  have HK := Lib.hid (edge_any hK 1 1)
  rw [f_edge4.1, f_edge4.2] at HK
  clear hK
  go_wp2_with fail
  refine HK.out.mono ?_
  rintro e w12 ⟨rfl, hK, hkp⟩
  dsimp only
  clear HK
  have KP := Lib.hid (KP.out.trans hkp)
  clear hkp
  have HK := Lib.hid (edge_any hK 1 9)
  rw [f_edge5.1, f_edge5.2] at HK
  clear hK
  go_wp2_with fail
  refine HK.out.mono ?_
  rintro e w13 ⟨rfl, hK, hkp⟩
  dsimp only
  clear HK
  have KP := Lib.hid (KP.out.trans hkp)
  clear hkp
  have HK := Lib.hid (drop_any hK 2)
  rw [f_drop] at HK
  clear hK
  go_wp2_with fail
  refine HK.out.mono ?_
  rintro e w14 ⟨rfl, hK, hkp⟩
  dsimp only
  clear HK
  have KP := Lib.hid (KP.out.trans hkp)
  clear hkp
  obtain ⟨vv, hm⟩ := hK.gm
  have HR := Lib.hid (order_any hm (HTB.out _ hK.below))
  have HKK := Lib.hid hK
  clear hK hm
  go_wp2_with fail
  refine HR.out.mono ?_
  rintro e w15 ⟨ho, hN⟩
  obtain ⟨o, A2, c2, hO, rfl, hown⟩ : ∃ o A c, Ord g2 o 0 ∧ e = .returned (.tuple #[.slice A o.length c, .bool true]) ∧ w15.ownsRow w14.heap.size 3 1 (.slice A o.length c) o.length (ints (idsOf g2 o)) := by
    rcases ho with ⟨⟨i, hi, hc⟩, _⟩ | ⟨_, h0⟩
    · rw [f_cyc2 i hi] at hc
      cases hc
    · exact h0
  obtain rfl := f_ord hO
  obtain ⟨g', q', hv', _, _⟩ := hown.form (by decide)
  injection hv' with hv' _ _
  subst hv'
  have v0 := hown.cells (g := g') rfl 0 (.int .i64 1) rfl
  have v1 := hown.cells (g := g') rfl 1 (.int .i64 3) rfl
  rw [add_mk, Nat.zero_add] at v0 v1
  clear ho hO hown
  have hK := HKK.out.new_ hN
  have hkp := KpT.new_ hN
  dsimp only
  clear HR HKK hN
  have KP := Lib.hid (KP.out.trans hkp)
  clear hkp
  have z0 := HV.out _ KP.out
  obtain ⟨vv, hm⟩ := hK.gm
  have HKK := Lib.hid hK
  have HR1 := Lib.hid (reaches_any hm (HTB.out _ hK.below) 3 1)
  rw [f_reach1] at HR1
  clear hK hm
  simp only [List.length_cons, List.length_nil, Nat.zero_add]
  go_wp2_with fail
  refine HR1.out.mono ?_
  rintro e w20 ⟨rfl, hN⟩
  have hK := HKK.out.new_ hN
  obtain ⟨vv, hm⟩ := hK.gm
  have HKK := Lib.hid hK
  have HR1 := Lib.hid (reaches_any hm (HTB.out _ hK.below) 1 3)
  rw [f_reach2] at HR1
  clear hK hm hN v0 v1 z0
  dsimp only
  go_wp2_with fail
  refine HR1.out.mono ?_
  rintro e w21 ⟨rfl, hN⟩
  have HB := Lib.hid (HKK.out.new_ hN).below
  have HR1 := Lib.hid (node_nil 1 1 w21)
  clear hN
  dsimp only
  go_wp2_with fail
  refine HR1.out.mono ?_
  rintro e w22 ⟨rfl, rfl⟩
  have HR1 := Lib.hid (edges_nil w21)
  dsimp only
  go_wp2_with fail
  refine HR1.out.mono ?_
  rintro e w23 ⟨rfl, rfl⟩
  have HR1 := Lib.hid (cyclic_nil w21)
  dsimp only
  go_wp2_with fail
  refine HR1.out.mono ?_
  rintro e w24 ⟨rfl, rfl⟩
  dsimp only
  go_wp2_with fail
  go_ret
  exact ⟨rfl, HB.out⟩
end Go.Proofs.YtfcdplfnhjbdnabDoor
