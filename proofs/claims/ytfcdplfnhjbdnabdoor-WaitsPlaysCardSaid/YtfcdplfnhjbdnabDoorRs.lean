/- The reference's Nodes: rows in order. -/
import Derived.Test.YtfcdplfnhjbdnabDoorRv
import Derived.Test.YtfcdplfnhjbdnabDoorRe
import Derived.Deep.RegionHeld3
namespace Go.Proofs.YtfcdplfnhjbdnabDoor
open Go.RowKit Go.Sort
set_option linter.unusedVariables false

theorem sortI_sorted (zs : List Int) : (sortI zs).Pairwise (fun x y => x ≤ y) := by
  have := List.pairwise_mergeSort (le := fun x y : Int => decide (x ≤ y)) (fun a b c h1 h2 => by simp at *; omega) (fun a b => by simp; omega) zs
  simpa using this
theorem sorted_eq {L M : List Int} (hp : L.Perm M) (h1 : L.Pairwise (fun x y => x ≤ y)) (h2 : M.Pairwise (fun x y => x ≤ y)) : L = M := by
  induction L generalizing M with
  | nil => exact (List.nil_perm.1 hp).symm ▸ rfl
  | cons x r ih =>
    cases M with
    | nil => exact absurd (List.perm_nil.1 hp) (by simp)
    | cons y s =>
      rw [List.pairwise_cons] at h1 h2
      have hxy : x = y := by
        have hx : x ∈ y :: s := hp.mem_iff.1 (by simp)
        have hy : y ∈ x :: r := hp.mem_iff.2 (by simp)
        rcases List.mem_cons.1 hx with e | e
        · exact e
        · rcases List.mem_cons.1 hy with e' | e'
          · exact e'.symm
          · have := h1.1 y e'
            have := h2.1 x e
            omega
      subst hxy
      rw [ih hp.cons_inv h1.2 h2.2]
theorem sortI_eq {L M : List Int} (hp : L.Perm M) (h1 : L.Pairwise (fun x y => x ≤ y)) : L = sortI M :=
  sorted_eq (hp.trans (List.mergeSort_perm _ _).symm) h1 (sortI_sorted M)
/-- Where a number goes. -/
def InsAt (L : List Int) (x : Int) (a : Nat) : Prop := ∀ (j : Nat) (y : Int), j < a → L[j]? = some y → y < x
theorem ins_sort {M : List Int} {x : Int} {a : Nat} (h : InsAt (sortI M) x a) (hend : ∀ y, (sortI M)[a]? = some y → x ≤ y) : (sortI M).take a ++ [x] ++ (sortI M).drop a = sortI (M ++ [x]) := by
  refine sortI_eq ?_ ?_
  · have h1 : ((sortI M).take a ++ [x] ++ (sortI M).drop a).Perm ((sortI M).take a ++ (sortI M).drop a ++ [x]) := by
      rw [List.append_assoc, List.append_assoc]
      exact List.Perm.append_left _ List.perm_append_comm
    rw [List.take_append_drop] at h1
    exact h1.trans ((List.mergeSort_perm _ _).append_right _)
  · have hs := sortI_sorted M
    generalize sortI M = L at *
    rw [List.append_assoc, List.pairwise_append]
    have ht : ∀ y, y ∈ L.take a → y < x := fun y hy => by
      obtain ⟨j, hj⟩ := List.mem_iff_getElem?.1 hy
      have hl := lt_of_some hj
      rw [List.length_take] at hl
      rw [List.getElem?_take_of_lt (by omega)] at hj
      exact h j y (by omega) hj
    have hd : ∀ y, y ∈ L.drop a → x ≤ y := fun y hy => by
      obtain ⟨j, hj⟩ := List.mem_iff_getElem?.1 hy
      rw [List.getElem?_drop] at hj
      obtain ⟨z, hz⟩ := some_of_lt (L := L) (i := a) (by have := lt_of_some hj; omega)
      have hxz := hend z hz
      cases j with
      | zero => rw [Nat.add_zero, hz] at hj; injection hj with hj; omega
      | succ j =>
        have := List.pairwise_iff_getElem.1 hs a (a + (j + 1)) (lt_of_some hz) (lt_of_some hj) (by omega)
        rw [List.getElem?_eq_getElem (lt_of_some hj)] at hj
        rw [List.getElem?_eq_getElem (lt_of_some hz)] at hz
        injection hj with hj
        injection hz with hz
        omega
    refine ⟨hs.sublist (List.take_sublist _ _), ?_, fun y hy z hz => ?_⟩
    · rw [List.singleton_append, List.pairwise_cons]
      exact ⟨hd, hs.sublist (List.drop_sublist _ _)⟩
    · have := ht y hy
      rcases List.mem_append.1 hz with hz | hz
      · simp at hz; omega
      · have := hd z hz; omega
/-- An append of a stretch of another row: ready for the walk. -/
theorem row_slice {w : World} {B n c g : Nat} {L : List Int} (ho : w.ownsRow B 3 1 (.slice (some ⟨g, 0, none⟩) n c) n (ints L)) {i : Nat} : ∀ j u, ((ints L).drop i)[j]? = some u → w.cell? ((⟨g, i, none⟩ : Addr).add j) = some u := by
  intro j u hu
  rw [List.getElem?_drop] at hu
  have := ho.cells (g := g) rfl (i + j) u hu
  rwa [add_mk, Nat.zero_add, ← add_mk] at this
theorem own_cap1 {w : World} {B g n c size : Nat} {e : TypeId} {xs : List Value} (h : w.ownsRow B e size (.slice (some ⟨g, 0, none⟩) n c) n xs) : n ≤ c ∧ c ≤ maxLen := by
  rcases h.2 with ⟨h1, _⟩ | ⟨g', cap, cur, h1, _, _, hnc, hcm, _⟩
  · cases h1
  · injection h1 with _ _ h1
    subst h1
    exact ⟨hnc, hcm⟩
theorem ints_one (L : List Int) : ∀ u ∈ ints L, u.oneCell' = true := by
  intro u hu
  obtain ⟨z, _, rfl⟩ := List.mem_map.1 hu
  rfl
theorem ints_cut (L : List Int) (x : Int) (a : Nat) : ints (L.take a ++ [x] ++ L.drop a) = (ints L).take a ++ [.int .i64 x] ++ (ints L).drop a := by simp [ints, List.map_take, List.map_drop]
theorem own_fresh {w : World} {B : Nat} (hB : B ≤ w.heap.size) : (w.alloc (.cells #[] 3)).ownsRow B 3 1 (.slice (some ⟨w.heap.size, 0, none⟩) 0 0) 0 [] :=
  ⟨rfl, .inr ⟨w.heap.size, 0, #[], rfl, hB, heap_alloc_new w _, Nat.le_refl _, by simp [maxLen], rfl, rfl⟩⟩
theorem reads_blk {w : World} {g : Nat} {t : TypeId} {x : Value} (h : Blk w g t #[x]) : Reads w (g + 1) 1 (some ⟨g, 0, none⟩) 1 [x] := by
  refine ⟨rfl, fun _ => ⟨_, rfl, Nat.lt_succ_self _, fun j u hu => ?_⟩⟩
  rw [add_mk, Nat.zero_add, h.cell, ← hu]
  simp
theorem reads_part {w w' : World} {B n c g : Nat} {L : List Int} (ho : w.ownsRow B 3 1 (.slice (some ⟨g, 0, none⟩) n c) n (ints L)) (hc : NewW w w') {a : Nat} (ha : a ≤ n) :
    Reads w' w.heap.size 1 (some ⟨g, 0, none⟩) a ((ints L).take a) ∧ Reads w' w.heap.size 1 (some ⟨g, a, none⟩) (n - a) ((ints L).drop a) := by
  have hl := ho.1
  have hg := own_lt ho (g := g) rfl
  rw [Nat.mul_one] at hl
  refine ⟨⟨by rw [List.length_take, hl]; omega, fun _ => ⟨_, rfl, hg.2, fun j u hu => ?_⟩⟩, ⟨by rw [List.length_drop, hl]; omega, fun _ => ⟨_, rfl, hg.2, fun j u hu => ?_⟩⟩⟩
  · have hj := lt_of_some hu
    rw [List.length_take] at hj
    rw [List.getElem?_take_of_lt (by omega)] at hu
    have := ho.cells (g := g) rfl j u hu
    rw [add_mk] at this ⊢
    exact new_cell hc this
  · rw [List.getElem?_drop] at hu
    have := ho.cells (g := g) rfl (a + j) u hu
    rw [add_mk, Nat.zero_add] at this
    rw [add_mk]
    exact new_cell hc this
set_option maxRecDepth 100000 in
set_option maxHeartbeats 16000000 in
theorem nodes_r {w : World} {B rb : Nat} {N E : List (Int × Int)} {vn ve : Value} (h : RM w B rb N E vn ve) :
    Calls Tryd.prog 29 #[.pointer (some ⟨rb, 0, none⟩)] w fun e w' => ∃ A c, e = .returned (.slice A N.length c) ∧ w'.ownsRow w.heap.size 3 1 (.slice A N.length c) N.length (ints (sortI (N.map Prod.fst))) ∧ NewW w w' := by
  obtain ⟨An, qn, rfl⟩ := own_form h.on
  obtain ⟨i1, hi1, hy0, hy1, hy2⟩ := info_parts int_info
  have c0 := h.c0
  have h64 := h.nl
  have HH := Lib.hid h
  clear h
  generalize hn : N.length = n at *
  have HN := Lib.hid hn
  clear hn
  have hnI : (n : Int) ≤ 64 := by omega
  go_enter Tryd.func29, Tryd.ntmps29
  go_wp2_with fail
  go_loopw [3, 12] (fun ov i w' => ∃ k : Nat, k ≤ n ∧ i = .int .i64 k ∧ w'.ownsRow w.heap.size 3 1 ov k (ints (sortI ((N.take k).map Prod.fst))) ∧ NewW w w') (fun _ i _ => n - (intOf i).toNat)
  case atStart => exact ⟨0, by omega, rfl, ⟨by simp [ints], .inl ⟨by simp, by simp⟩⟩, Ch.refl _ _⟩
  case round =>
    obtain ⟨k, hk, rfl, hO, hC⟩ := hrel
    obtain ⟨A7, q7, rfl⟩ := own_form hO
    have hsz := hC.size
    by_cases hlt : k < n
    · obtain ⟨⟨x, t⟩, hx⟩ := some_of_lt (L := N) (i := k) (by rw [HN.out]; exact hlt)
      obtain ⟨g, rfl, x0, x1⟩ := pair_cells (by have := (HH.out.new_ hC).on; rw [HN.out] at this; exact this) HN.out (Ch.refl _ _) hx
      dsimp only at x0 x1
      have hcb : NewW wr (wr.alloc (.cells #[.int .i64 x, .int .i64 t] 69)) := (Ch.refl _ wr).alloc _
      have HOB := Lib.hid (own_ch hO hcb (fun _ _ h => h))
      have HCB := Lib.hid (hC.trans' hcb)
      have BX := Lib.hid (Blk.new wr 69 #[.int .i64 x, .int .i64 t])
      obtain ⟨L, hL⟩ : ∃ L, sortI ((N.take k).map Prod.fst) = L := ⟨_, rfl⟩
      have HLE := Lib.hid hL
      have HLN := Lib.hid (show L.length = k from by rw [← hL, List.length_mergeSort, List.length_map, List.length_take, HN.out]; omega)
      have HNX := Lib.hid (show (N.take (k + 1)).map Prod.fst = (N.take k).map Prod.fst ++ [x] from take_map Prod.fst hx)
      rw [hL] at HOB
      clear hO hC hx hcb hL
      go_upto_region 5 with (fail)
      generalize wr.alloc (.cells #[.int .i64 x, .int .i64 t] 69) = wb at *
      generalize wr.heap.size = bx at *
      have z0 : wb.cell? ⟨bx, 0, none⟩ = some (.int .i64 x) := by rw [BX.out.cell]; rfl
      have hszb := HCB.out.size
      clear x0 x1
      rcases HOB.out.2 with ⟨hv, hk0⟩ | ⟨gl, cap, cur, hv, _, _, hkq, hqm, _⟩
      · injection hv with hv1 hv2 hv3
        subst hv1
        subst hk0
        subst hv3
        go_wp2_with fail
        go_loopw [6] (fun av w' => ∃ a : Nat, a ≤ 0 ∧ av = .int .i64 a ∧ InsAt L x a ∧ NewW wb w') (fun av _ => 0 - (intOf av).toNat)
        case atStart => exact ⟨0, by omega, rfl, fun j y hj => absurd hj (by omega), Ch.refl _ _⟩
        case round =>
          obtain ⟨a, ha, rfl, hI, hD⟩ := hrel
          have HD := Lib.hid hD
          have HOR := Lib.hid (own_ch HOB.out hD (fun _ _ h => h))
          have z0' := new_cell hD z0
          obtain rfl : a = 0 := by omega
          have hL0 : L = [] := List.eq_nil_of_length_eq_zero HLN.out
          have HIS := Lib.hid (ins_sort (M := (N.take 0).map Prod.fst) (by rw [HLE.out]; exact hI) (fun z hz => by rw [HLE.out, hL0] at hz; simp at hz))
          have HL0 := Lib.hid hL0
          clear hI hD hL0
          go_wp2_with fail
          go_quiet (fail)
          go_wp2_with fail
          obtain ⟨wo, hwo⟩ : ∃ wo, wo = wr.drewN nq := ⟨_, rfl⟩
          rw [← hwo]
          have HDW := Lib.hid (show NewW wb wo from by rw [hwo]; exact HD.out.drewN nq)
          have HOW := Lib.hid (own_ch HOR.out (show NewW wr wo from by rw [hwo]; exact (Ch.refl _ wr).drewN nq) (fun _ _ h => h))
          clear hwo
          have HRT := Lib.hid (fun (w' : World) (hc : NewW wo w') => (show Reads w' wo.heap.size 1 none 0 ((ints L).take 0) from by rw [HL0.out]; exact Reads.none_))
          have HRD := Lib.hid (fun (w' : World) (hc : NewW wo w') => (show Reads w' wo.heap.size 1 none 0 ((ints L).drop 0) from by rw [HL0.out]; exact Reads.none_))
          have HDO := Lib.hid (show NewW wb wo from HDW.out)
          have HST := Lib.hid (fun (w' : World) (hc : NewW wo w') => new_cell hc (new_cell HDO.out z0))
          refine wp_region_held_drew (S := (fun w' => w'.cell? ⟨bx, 0, none⟩ = some (.int .i64 x))) (by kernel_rfl) (HST.out _ (Ch.refl _ _).drew) (fun hHeld => ?_)
          refine wpAnyH_take (i := 1) (v := ?_) rfl (by kernel_rfl) (by kernel_rfl) (by kernel_rfl) (fun _ _ _ h => h) (Or.inl ⟨by rfl, ?_⟩) (by assumption) ?_
          rotate_left 1
          · (intro w hSw; (try dsimp only at hSw); go_simp) <;> with_reducible rfl
          try simp only [Act.put, List.getElem_toArray, List.getElem_cons_zero, List.getElem_cons_succ, List.setIfInBounds_toArray, List.set_cons_zero, List.set_cons_succ]
          refine wpAnyH_take (i := 2) (v := ?_) rfl (by kernel_rfl) (by kernel_rfl) (by kernel_rfl) (fun _ _ _ h => h) (Or.inl ⟨by rfl, ?_⟩) (by assumption) ?_
          rotate_left 1
          · (intro w hSw; (try dsimp only at hSw); go_simp) <;> with_reducible rfl
          try simp only [Act.put, List.getElem_toArray, List.getElem_cons_zero, List.getElem_cons_succ, List.setIfInBounds_toArray, List.set_cons_zero, List.set_cons_succ]
          refine wpAnyH_take (i := 3) (v := ?_) rfl (by kernel_rfl) (by kernel_rfl) (by kernel_rfl) (fun _ _ _ h => h) (Or.inl ⟨by rfl, ?_⟩) (by assumption) ?_
          rotate_left 1
          · (intro w hSw; (try dsimp only at hSw); go_simp) <;> with_reducible rfl
          try simp only [Act.put, List.getElem_toArray, List.getElem_cons_zero, List.getElem_cons_succ, List.setIfInBounds_toArray, List.set_cons_zero, List.set_cons_succ]
          refine wpAnyH_take (i := 5) (v := ?_) rfl (by kernel_rfl) (by kernel_rfl) (by kernel_rfl) (fun _ _ _ h => h) (Or.inl ⟨by rfl, ?_⟩) (by assumption) ?_
          rotate_left 1
          · (intro w hSw; (try dsimp only at hSw); go_simp) <;> with_reducible rfl
          try simp only [Act.put, List.getElem_toArray, List.getElem_cons_zero, List.getElem_cons_succ, List.setIfInBounds_toArray, List.set_cons_zero, List.set_cons_succ]
          refine wpAnyH_take (i := 6) (v := ?_) rfl (by kernel_rfl) (by kernel_rfl) (by kernel_rfl) (fun _ _ _ h => h) (Or.inl ⟨by rfl, ?_⟩) (by assumption) ?_
          rotate_left 1
          · (intro w hSw; (try dsimp only at hSw); go_simp) <;> with_reducible rfl
          try simp only [Act.put, List.getElem_toArray, List.getElem_cons_zero, List.getElem_cons_succ, List.setIfInBounds_toArray, List.set_cons_zero, List.set_cons_succ]
          refine wpAnyH_take (i := 9) (v := ?_) rfl (by kernel_rfl) (by kernel_rfl) (by kernel_rfl) (fun _ _ _ h => h) (Or.inl ⟨by rfl, ?_⟩) (by assumption) ?_
          rotate_left 1
          · (intro w hSw; (try dsimp only at hSw); go_simp) <;> with_reducible rfl
          try simp only [Act.put, List.getElem_toArray, List.getElem_cons_zero, List.getElem_cons_succ, List.setIfInBounds_toArray, List.set_cons_zero, List.set_cons_succ]
          refine wpAnyH_take (i := 10) (v := ?_) rfl (by kernel_rfl) (by kernel_rfl) (by kernel_rfl) (fun _ _ _ h => h) (Or.inl ⟨by rfl, ?_⟩) (by assumption) ?_
          rotate_left 1
          · (intro w hSw; (try dsimp only at hSw); go_simp) <;> with_reducible rfl
          try simp only [Act.put, List.getElem_toArray, List.getElem_cons_zero, List.getElem_cons_succ, List.setIfInBounds_toArray, List.set_cons_zero, List.set_cons_succ]
          refine wpAnyH_take (i := 11) (v := ?_) rfl (by kernel_rfl) (by kernel_rfl) (by kernel_rfl) (fun _ _ _ h => h) (Or.inl ⟨by rfl, ?_⟩) (by assumption) ?_
          rotate_left 1
          · (intro w hSw; (try dsimp only at hSw); go_simp) <;> with_reducible rfl
          try simp only [Act.put, List.getElem_toArray, List.getElem_cons_zero, List.getElem_cons_succ, List.setIfInBounds_toArray, List.set_cons_zero, List.set_cons_succ]
          obtain ⟨wc, hwc⟩ : ∃ wc, wo.drew = wc := ⟨_, rfl⟩
          have HW := Lib.hid (show NewW wo wc from by rw [← hwc]; exact (Ch.refl _ wo).drew)
          rw [hwc] at hHeld ⊢
          clear hwc
          refine wpAnyH_ready (rs := [0, 7]) (by kernel_rfl) (by simp) ?_
          refine (AllReadyH.cons rfl (fun K hK => ?_) (AllReadyH.cons rfl (fun K hK => ?_) AllReadyH.nil))
          · go_simp
            have HW2 := Lib.hid (show NewW wo (wc.alloc (.cells #[] 3)) from HW.out.alloc _)
            have HO := Lib.hid (own_fresh (w := wc) HW.out.size)
            refine hK.out _ _ (HST.out _ HW2.out) (fun hHeld2 => ?_)
            clear hK K hHeld
            try simp only [Act.put, List.getElem_toArray, List.getElem_cons_zero, List.getElem_cons_succ, List.setIfInBounds_toArray, List.set_cons_zero, List.set_cons_succ]
            have HW := HW2
            clear HW2
            generalize wc.alloc (.cells #[] 3) = w1_0 at *
            generalize wc.heap.size = g0 at *
            have hHeld := hHeld2
            clear hHeld2
            refine wpAnyH_ready (rs := [4, 7]) (by kernel_rfl) (by simp) ?_
            refine (AllReadyH.cons rfl (fun K hK => ?_) (AllReadyH.cons rfl (fun K hK => ?_) AllReadyH.nil))
            · refine wp_append_any _ (.tmp 31) (.tmp 34) _ rfl wo.heap.size 3 i1 _ 1 8 Tryd.underlying31 hi1 hy0 hy1 hy2 rfl (by omega) _ 0 [] rfl HO.out wo.heap.size _ 0 _ ((ints L).take 0) rfl (by first | exact HRT.out _ HW.out | simpa using HRT.out _ HW.out) (fun u hu => ints_one L u (List.mem_of_mem_take hu)) (by simp only [maxLen]; omega) (by omega) HW.out.size ?_
              intro v4 w2_4 hown hg hat
              have HW2 := Lib.hid (show NewW wo w2_4 from HW.out.grown hg (fun g hg => .inr (own_lt HO.out hg).1))
              have HO2 := Lib.hid (show w2_4.ownsRow wo.heap.size 3 1 v4 0 ((ints L).take 0) from by simpa using hown)
              refine hK.out _ _ (HST.out _ HW2.out) (fun hHeld2 => ?_)
              clear hK K hHeld
              try simp only [Act.put, List.getElem_toArray, List.getElem_cons_zero, List.getElem_cons_succ, List.setIfInBounds_toArray, List.set_cons_zero, List.set_cons_succ]
              have HW := HW2
              have HO := HO2
              clear HW2 HO2 hown hg hat
              have hHeld := hHeld2
              clear hHeld2
              refine wpAnyH_ready (rs := [7]) (by kernel_rfl) (by simp) ?_
              refine (AllReadyH.cons rfl (fun K hK => ?_) AllReadyH.nil)
              go_simp
              have HW2 := Lib.hid (show NewW wo (w2_4.alloc (.cells #[.int .i64 x] 3)) from HW.out.alloc _)
              have B7 := Lib.hid (Blk.new w2_4 3 #[.int .i64 x])
              have HNE := Lib.hid (show _ ≠ some w2_4.heap.size from fun e => by have := (own_lt HO.out e).2; omega)
              have HO2 := Lib.hid (own_ch HO.out ((Ch.refl (fun _ => False) w2_4).alloc (.cells #[.int .i64 x] 3)) (fun _ _ h => h))
              refine hK.out _ _ (HST.out _ HW2.out) (fun hHeld2 => ?_)
              clear hK K hHeld
              try simp only [Act.put, List.getElem_toArray, List.getElem_cons_zero, List.getElem_cons_succ, List.setIfInBounds_toArray, List.set_cons_zero, List.set_cons_succ]
              have HO := HO2
              clear HO2
              have HW := HW2
              clear HW2
              generalize w2_4.alloc (.cells #[.int .i64 x] 3) = w3_7 at *
              generalize w2_4.heap.size = g7 at *
              have hHeld := hHeld2
              clear hHeld2
              refine wpAnyH_ready (rs := [8]) (by kernel_rfl) (by simp) ?_
              refine (AllReadyH.cons rfl (fun K hK => ?_) AllReadyH.nil)
              refine wp_append_any _ (.tmp 35) (.tmp 38) _ rfl wo.heap.size 3 i1 _ 1 8 Tryd.underlying31 hi1 hy0 hy1 hy2 rfl (by omega) _ 0 ((ints L).take 0) rfl HO.out (g7 + 1) _ 1 _ [.int .i64 x] rfl (reads_blk B7.out) (by simp [Value.oneCell']) (by simp only [maxLen]; omega) (by omega) HW.out.size ?_
              intro v8 w4_8 hown hg hat
              have HW2 := Lib.hid (show NewW wo w4_8 from HW.out.grown hg (fun g hg => .inr (own_lt HO.out hg).1))
              have HO2 := Lib.hid (show w4_8.ownsRow wo.heap.size 3 1 v8 (0 + 1) ((ints L).take 0 ++ [.int .i64 x]) from by simpa using hown)
              refine hK.out _ _ (HST.out _ HW2.out) (fun hHeld2 => ?_)
              clear hK K hHeld
              try simp only [Act.put, List.getElem_toArray, List.getElem_cons_zero, List.getElem_cons_succ, List.setIfInBounds_toArray, List.set_cons_zero, List.set_cons_succ]
              have HW := HW2
              have HO := HO2
              clear HW2 HO2 hown hg hat
              have hHeld := hHeld2
              clear hHeld2
              refine wpAnyH_ready (rs := [12]) (by kernel_rfl) (by simp) ?_
              refine (AllReadyH.cons rfl (fun K hK => ?_) AllReadyH.nil)
              refine wp_append_any _ (.tmp 39) (.tmp 42) _ rfl wo.heap.size 3 i1 _ 1 8 Tryd.underlying31 hi1 hy0 hy1 hy2 rfl (by omega) _ (0 + 1) ((ints L).take 0 ++ [Value.int IntKind.i64 x]) rfl HO.out wo.heap.size _ 0 _ ((ints L).drop 0) rfl (by first | exact HRD.out _ HW.out | simpa using HRD.out _ HW.out) (fun u hu => ints_one L u (List.mem_of_mem_drop hu)) (by simp only [maxLen]; omega) (by omega) HW.out.size ?_
              intro v12 w5_12 hown hg hat
              have HW2 := Lib.hid (show NewW wo w5_12 from HW.out.grown hg (fun g hg => .inr (own_lt HO.out hg).1))
              have HO2 := Lib.hid (show w5_12.ownsRow wo.heap.size 3 1 v12 (0 + 1 + 0) ((ints L).take 0 ++ [.int .i64 x] ++ (ints L).drop 0) from by simpa using hown)
              refine hK.out _ _ (HST.out _ HW2.out) (fun hHeld2 => ?_)
              clear hK K hHeld
              try simp only [Act.put, List.getElem_toArray, List.getElem_cons_zero, List.getElem_cons_succ, List.setIfInBounds_toArray, List.set_cons_zero, List.set_cons_succ]
              have HW := HW2
              have HO := HO2
              clear HW2 HO2 hown hg hat
              have hHeld := hHeld2
              clear hHeld2
              refine wpAnyH_take (i := 13) (v := ?_) rfl (by kernel_rfl) (by kernel_rfl) (by kernel_rfl) (fun _ _ _ h => h) (Or.inl ⟨by rfl, ?_⟩) (by assumption) ?_
              rotate_left 1
              · (intro w hSw; (try dsimp only at hSw); go_simp) <;> with_reducible rfl
              try simp only [Act.put, List.getElem_toArray, List.getElem_cons_zero, List.getElem_cons_succ, List.setIfInBounds_toArray, List.set_cons_zero, List.set_cons_succ]
              refine wpAnyH_done (by kernel_rfl) ?_ _
              go_wp2_with fail
              refine ⟨⟨0 + 1, by omega, by go_num, ?_, (HCB.out.trans' HDO.out).trans' HW.out⟩, by simp [intOf]; omega⟩
              have hf := own_mono HO.out (Nat.le_trans HCB.out.size HDO.out.size)
              rw [HNX.out, ← HIS.out, HLE.out]
              rw [ints_cut L x 0]
              rw [show 0 + 1 = 0 + 1 + 0 from by omega]
              exact hf
            · go_simp
              have HW2 := Lib.hid (show NewW wo (w1_0.alloc (.cells #[.int .i64 x] 3)) from HW.out.alloc _)
              have B7 := Lib.hid (Blk.new w1_0 3 #[.int .i64 x])
              have HNE := Lib.hid (show _ ≠ some w1_0.heap.size from fun e => by have := (own_lt HO.out e).2; omega)
              have HO2 := Lib.hid (own_ch HO.out ((Ch.refl (fun _ => False) w1_0).alloc (.cells #[.int .i64 x] 3)) (fun _ _ h => h))
              refine hK.out _ _ (HST.out _ HW2.out) (fun hHeld2 => ?_)
              clear hK K hHeld
              try simp only [Act.put, List.getElem_toArray, List.getElem_cons_zero, List.getElem_cons_succ, List.setIfInBounds_toArray, List.set_cons_zero, List.set_cons_succ]
              have HO := HO2
              clear HO2
              have HW := HW2
              clear HW2
              generalize w1_0.alloc (.cells #[.int .i64 x] 3) = w2_7 at *
              generalize w1_0.heap.size = g7 at *
              have hHeld := hHeld2
              clear hHeld2
              refine wpAnyH_ready (rs := [4]) (by kernel_rfl) (by simp) ?_
              refine (AllReadyH.cons rfl (fun K hK => ?_) AllReadyH.nil)
              refine wp_append_any _ (.tmp 31) (.tmp 34) _ rfl wo.heap.size 3 i1 _ 1 8 Tryd.underlying31 hi1 hy0 hy1 hy2 rfl (by omega) _ 0 [] rfl HO.out wo.heap.size _ 0 _ ((ints L).take 0) rfl (by first | exact HRT.out _ HW.out | simpa using HRT.out _ HW.out) (fun u hu => ints_one L u (List.mem_of_mem_take hu)) (by simp only [maxLen]; omega) (by omega) HW.out.size ?_
              intro v4 w3_4 hown hg hat
              have HW2 := Lib.hid (show NewW wo w3_4 from HW.out.grown hg (fun g hg => .inr (own_lt HO.out hg).1))
              have HO2 := Lib.hid (show w3_4.ownsRow wo.heap.size 3 1 v4 0 ((ints L).take 0) from by simpa using hown)
              have B72 := Lib.hid (B7.out.grown hg (fun e => HNE.out e.symm))
              have HNE2 := Lib.hid (show v4.ownBlock ≠ some g7 from fun e => by rcases hat with h | h; exact HNE.out (h ▸ e); rw [h] at e; injection e with e; have := B7.out.lt; omega)
              refine hK.out _ _ (HST.out _ HW2.out) (fun hHeld2 => ?_)
              clear hK K hHeld
              try simp only [Act.put, List.getElem_toArray, List.getElem_cons_zero, List.getElem_cons_succ, List.setIfInBounds_toArray, List.set_cons_zero, List.set_cons_succ]
              have B7 := B72
              have HNE := HNE2
              clear B72 HNE2
              have HW := HW2
              have HO := HO2
              clear HW2 HO2 hown hg hat
              have hHeld := hHeld2
              clear hHeld2
              refine wpAnyH_ready (rs := [8]) (by kernel_rfl) (by simp) ?_
              refine (AllReadyH.cons rfl (fun K hK => ?_) AllReadyH.nil)
              refine wp_append_any _ (.tmp 35) (.tmp 38) _ rfl wo.heap.size 3 i1 _ 1 8 Tryd.underlying31 hi1 hy0 hy1 hy2 rfl (by omega) _ 0 ((ints L).take 0) rfl HO.out (g7 + 1) _ 1 _ [.int .i64 x] rfl (reads_blk B7.out) (by simp [Value.oneCell']) (by simp only [maxLen]; omega) (by omega) HW.out.size ?_
              intro v8 w4_8 hown hg hat
              have HW2 := Lib.hid (show NewW wo w4_8 from HW.out.grown hg (fun g hg => .inr (own_lt HO.out hg).1))
              have HO2 := Lib.hid (show w4_8.ownsRow wo.heap.size 3 1 v8 (0 + 1) ((ints L).take 0 ++ [.int .i64 x]) from by simpa using hown)
              refine hK.out _ _ (HST.out _ HW2.out) (fun hHeld2 => ?_)
              clear hK K hHeld
              try simp only [Act.put, List.getElem_toArray, List.getElem_cons_zero, List.getElem_cons_succ, List.setIfInBounds_toArray, List.set_cons_zero, List.set_cons_succ]
              have HW := HW2
              have HO := HO2
              clear HW2 HO2 hown hg hat
              have hHeld := hHeld2
              clear hHeld2
              refine wpAnyH_ready (rs := [12]) (by kernel_rfl) (by simp) ?_
              refine (AllReadyH.cons rfl (fun K hK => ?_) AllReadyH.nil)
              refine wp_append_any _ (.tmp 39) (.tmp 42) _ rfl wo.heap.size 3 i1 _ 1 8 Tryd.underlying31 hi1 hy0 hy1 hy2 rfl (by omega) _ (0 + 1) ((ints L).take 0 ++ [Value.int IntKind.i64 x]) rfl HO.out wo.heap.size _ 0 _ ((ints L).drop 0) rfl (by first | exact HRD.out _ HW.out | simpa using HRD.out _ HW.out) (fun u hu => ints_one L u (List.mem_of_mem_drop hu)) (by simp only [maxLen]; omega) (by omega) HW.out.size ?_
              intro v12 w5_12 hown hg hat
              have HW2 := Lib.hid (show NewW wo w5_12 from HW.out.grown hg (fun g hg => .inr (own_lt HO.out hg).1))
              have HO2 := Lib.hid (show w5_12.ownsRow wo.heap.size 3 1 v12 (0 + 1 + 0) ((ints L).take 0 ++ [.int .i64 x] ++ (ints L).drop 0) from by simpa using hown)
              refine hK.out _ _ (HST.out _ HW2.out) (fun hHeld2 => ?_)
              clear hK K hHeld
              try simp only [Act.put, List.getElem_toArray, List.getElem_cons_zero, List.getElem_cons_succ, List.setIfInBounds_toArray, List.set_cons_zero, List.set_cons_succ]
              have HW := HW2
              have HO := HO2
              clear HW2 HO2 hown hg hat
              have hHeld := hHeld2
              clear hHeld2
              refine wpAnyH_take (i := 13) (v := ?_) rfl (by kernel_rfl) (by kernel_rfl) (by kernel_rfl) (fun _ _ _ h => h) (Or.inl ⟨by rfl, ?_⟩) (by assumption) ?_
              rotate_left 1
              · (intro w hSw; (try dsimp only at hSw); go_simp) <;> with_reducible rfl
              try simp only [Act.put, List.getElem_toArray, List.getElem_cons_zero, List.getElem_cons_succ, List.setIfInBounds_toArray, List.set_cons_zero, List.set_cons_succ]
              refine wpAnyH_done (by kernel_rfl) ?_ _
              go_wp2_with fail
              refine ⟨⟨0 + 1, by omega, by go_num, ?_, (HCB.out.trans' HDO.out).trans' HW.out⟩, by simp [intOf]; omega⟩
              have hf := own_mono HO.out (Nat.le_trans HCB.out.size HDO.out.size)
              rw [HNX.out, ← HIS.out, HLE.out]
              rw [ints_cut L x 0]
              rw [show 0 + 1 = 0 + 1 + 0 from by omega]
              exact hf
          · go_simp
            have HW2 := Lib.hid (show NewW wo (wc.alloc (.cells #[.int .i64 x] 3)) from HW.out.alloc _)
            have B7 := Lib.hid (Blk.new wc 3 #[.int .i64 x])
            refine hK.out _ _ (HST.out _ HW2.out) (fun hHeld2 => ?_)
            clear hK K hHeld
            try simp only [Act.put, List.getElem_toArray, List.getElem_cons_zero, List.getElem_cons_succ, List.setIfInBounds_toArray, List.set_cons_zero, List.set_cons_succ]
            have HW := HW2
            clear HW2
            generalize wc.alloc (.cells #[.int .i64 x] 3) = w1_7 at *
            generalize wc.heap.size = g7 at *
            have hHeld := hHeld2
            clear hHeld2
            refine wpAnyH_ready (rs := [0]) (by kernel_rfl) (by simp) ?_
            refine (AllReadyH.cons rfl (fun K hK => ?_) AllReadyH.nil)
            go_simp
            have HW2 := Lib.hid (show NewW wo (w1_7.alloc (.cells #[] 3)) from HW.out.alloc _)
            have HO := Lib.hid (own_fresh (w := w1_7) HW.out.size)
            have HNE := Lib.hid (show (Value.slice (some ⟨w1_7.heap.size, 0, none⟩) 0 0).ownBlock ≠ some g7 from fun e => by simp [Value.ownBlock] at e; have := B7.out.lt; omega)
            have B72 := Lib.hid (B7.out.alloc (.cells #[] 3))
            refine hK.out _ _ (HST.out _ HW2.out) (fun hHeld2 => ?_)
            clear hK K hHeld
            try simp only [Act.put, List.getElem_toArray, List.getElem_cons_zero, List.getElem_cons_succ, List.setIfInBounds_toArray, List.set_cons_zero, List.set_cons_succ]
            have B7 := B72
            clear B72
            have HW := HW2
            clear HW2
            generalize w1_7.alloc (.cells #[] 3) = w2_0 at *
            generalize w1_7.heap.size = g0 at *
            have hHeld := hHeld2
            clear hHeld2
            refine wpAnyH_ready (rs := [4]) (by kernel_rfl) (by simp) ?_
            refine (AllReadyH.cons rfl (fun K hK => ?_) AllReadyH.nil)
            refine wp_append_any _ (.tmp 31) (.tmp 34) _ rfl wo.heap.size 3 i1 _ 1 8 Tryd.underlying31 hi1 hy0 hy1 hy2 rfl (by omega) _ 0 [] rfl HO.out wo.heap.size _ 0 _ ((ints L).take 0) rfl (by first | exact HRT.out _ HW.out | simpa using HRT.out _ HW.out) (fun u hu => ints_one L u (List.mem_of_mem_take hu)) (by simp only [maxLen]; omega) (by omega) HW.out.size ?_
            intro v4 w3_4 hown hg hat
            have HW2 := Lib.hid (show NewW wo w3_4 from HW.out.grown hg (fun g hg => .inr (own_lt HO.out hg).1))
            have HO2 := Lib.hid (show w3_4.ownsRow wo.heap.size 3 1 v4 0 ((ints L).take 0) from by simpa using hown)
            have B72 := Lib.hid (B7.out.grown hg (fun e => HNE.out e.symm))
            have HNE2 := Lib.hid (show v4.ownBlock ≠ some g7 from fun e => by rcases hat with h | h; exact HNE.out (h ▸ e); rw [h] at e; injection e with e; have := B7.out.lt; omega)
            refine hK.out _ _ (HST.out _ HW2.out) (fun hHeld2 => ?_)
            clear hK K hHeld
            try simp only [Act.put, List.getElem_toArray, List.getElem_cons_zero, List.getElem_cons_succ, List.setIfInBounds_toArray, List.set_cons_zero, List.set_cons_succ]
            have B7 := B72
            have HNE := HNE2
            clear B72 HNE2
            have HW := HW2
            have HO := HO2
            clear HW2 HO2 hown hg hat
            have hHeld := hHeld2
            clear hHeld2
            refine wpAnyH_ready (rs := [8]) (by kernel_rfl) (by simp) ?_
            refine (AllReadyH.cons rfl (fun K hK => ?_) AllReadyH.nil)
            refine wp_append_any _ (.tmp 35) (.tmp 38) _ rfl wo.heap.size 3 i1 _ 1 8 Tryd.underlying31 hi1 hy0 hy1 hy2 rfl (by omega) _ 0 ((ints L).take 0) rfl HO.out (g7 + 1) _ 1 _ [.int .i64 x] rfl (reads_blk B7.out) (by simp [Value.oneCell']) (by simp only [maxLen]; omega) (by omega) HW.out.size ?_
            intro v8 w4_8 hown hg hat
            have HW2 := Lib.hid (show NewW wo w4_8 from HW.out.grown hg (fun g hg => .inr (own_lt HO.out hg).1))
            have HO2 := Lib.hid (show w4_8.ownsRow wo.heap.size 3 1 v8 (0 + 1) ((ints L).take 0 ++ [.int .i64 x]) from by simpa using hown)
            refine hK.out _ _ (HST.out _ HW2.out) (fun hHeld2 => ?_)
            clear hK K hHeld
            try simp only [Act.put, List.getElem_toArray, List.getElem_cons_zero, List.getElem_cons_succ, List.setIfInBounds_toArray, List.set_cons_zero, List.set_cons_succ]
            have HW := HW2
            have HO := HO2
            clear HW2 HO2 hown hg hat
            have hHeld := hHeld2
            clear hHeld2
            refine wpAnyH_ready (rs := [12]) (by kernel_rfl) (by simp) ?_
            refine (AllReadyH.cons rfl (fun K hK => ?_) AllReadyH.nil)
            refine wp_append_any _ (.tmp 39) (.tmp 42) _ rfl wo.heap.size 3 i1 _ 1 8 Tryd.underlying31 hi1 hy0 hy1 hy2 rfl (by omega) _ (0 + 1) ((ints L).take 0 ++ [Value.int IntKind.i64 x]) rfl HO.out wo.heap.size _ 0 _ ((ints L).drop 0) rfl (by first | exact HRD.out _ HW.out | simpa using HRD.out _ HW.out) (fun u hu => ints_one L u (List.mem_of_mem_drop hu)) (by simp only [maxLen]; omega) (by omega) HW.out.size ?_
            intro v12 w5_12 hown hg hat
            have HW2 := Lib.hid (show NewW wo w5_12 from HW.out.grown hg (fun g hg => .inr (own_lt HO.out hg).1))
            have HO2 := Lib.hid (show w5_12.ownsRow wo.heap.size 3 1 v12 (0 + 1 + 0) ((ints L).take 0 ++ [.int .i64 x] ++ (ints L).drop 0) from by simpa using hown)
            refine hK.out _ _ (HST.out _ HW2.out) (fun hHeld2 => ?_)
            clear hK K hHeld
            try simp only [Act.put, List.getElem_toArray, List.getElem_cons_zero, List.getElem_cons_succ, List.setIfInBounds_toArray, List.set_cons_zero, List.set_cons_succ]
            have HW := HW2
            have HO := HO2
            clear HW2 HO2 hown hg hat
            have hHeld := hHeld2
            clear hHeld2
            refine wpAnyH_take (i := 13) (v := ?_) rfl (by kernel_rfl) (by kernel_rfl) (by kernel_rfl) (fun _ _ _ h => h) (Or.inl ⟨by rfl, ?_⟩) (by assumption) ?_
            rotate_left 1
            · (intro w hSw; (try dsimp only at hSw); go_simp) <;> with_reducible rfl
            try simp only [Act.put, List.getElem_toArray, List.getElem_cons_zero, List.getElem_cons_succ, List.setIfInBounds_toArray, List.set_cons_zero, List.set_cons_succ]
            refine wpAnyH_done (by kernel_rfl) ?_ _
            go_wp2_with fail
            refine ⟨⟨0 + 1, by omega, by go_num, ?_, (HCB.out.trans' HDO.out).trans' HW.out⟩, by simp [intOf]; omega⟩
            have hf := own_mono HO.out (Nat.le_trans HCB.out.size HDO.out.size)
            rw [HNX.out, ← HIS.out, HLE.out]
            rw [ints_cut L x 0]
            rw [show 0 + 1 = 0 + 1 + 0 from by omega]
            exact hf
      · injection hv with hv1 hv2 hv3
        subst hv1
        subst hv3
        have hkqI : (k : Int) ≤ (q7 : Int) := by omega
        go_wp2_with fail
        go_loopw [6] (fun av w' => ∃ a : Nat, a ≤ k ∧ av = .int .i64 a ∧ InsAt L x a ∧ NewW wb w') (fun av _ => k - (intOf av).toNat)
        case atStart => exact ⟨0, by omega, rfl, fun j y hj => absurd hj (by omega), Ch.refl _ _⟩
        case round =>
          obtain ⟨a, ha, rfl, hI, hD⟩ := hrel
          have HD := Lib.hid hD
          have HOR := Lib.hid (own_ch HOB.out hD (fun _ _ h => h))
          have z0' := new_cell hD z0
          have haq : a ≤ q7 := by omega
          by_cases hak : a < k
          · obtain ⟨y, hy⟩ := some_of_lt (L := L) (i := a) (by rw [HLN.out]; exact hak)
            have hcl := row_cell HOR.out hy
            have dak : decide ((a : Int) < (k : Int)) = true := by simp; omega
            have dak' : decide (a < k) = true := by simpa using hak
            have hakI : (a : Int) < (k : Int) := by omega
            by_cases hyx : y < x
            · have dyx : decide (y < x) = true := decide_eq_true hyx
              have HI := Lib.hid (show InsAt L x (a + 1) from fun j z hj hz => by
                by_cases ej : j = a
                · subst ej
                  rw [hy] at hz
                  injection hz with hz
                  omega
                · exact hI j z (by omega) hz)
              clear hI hy hyx hD
              go_wp2_with fail
              go_quiet (fail)
              go_wp2_with fail
              exact ⟨⟨a + 1, by omega, by go_num, HI.out, by first | exact HD.out.drewN _ | exact HD.out.drew | exact HD.out⟩, by simp [intOf]; omega⟩
            · have dyx : decide (y < x) = false := decide_eq_false hyx
              have HIS := Lib.hid (ins_sort (M := (N.take k).map Prod.fst) (by rw [HLE.out]; exact hI) (fun z hz => by rw [HLE.out, hy] at hz; injection hz with hz; omega))
              have hqa : ¬ q7 = a := by omega
              clear hI hy hyx hD
              go_wp2_with fail
              go_quiet (fail)
              go_wp2_with fail
              obtain ⟨wo, hwo⟩ : ∃ wo, wo = wr.drewN nq := ⟨_, rfl⟩
              rw [← hwo]
              have HDW := Lib.hid (show NewW wb wo from by rw [hwo]; exact HD.out.drewN nq)
              have HOW := Lib.hid (own_ch HOR.out (show NewW wr wo from by rw [hwo]; exact (Ch.refl _ wr).drewN nq) (fun _ _ h => h))
              clear hwo
              have HRT := Lib.hid (fun (w' : World) (hc : NewW wo w') => (reads_part HOW.out hc ha).1)
              have HRD := Lib.hid (fun (w' : World) (hc : NewW wo w') => (reads_part HOW.out hc ha).2)
              have HDO := Lib.hid (show NewW wb wo from HDW.out)
              have HST := Lib.hid (fun (w' : World) (hc : NewW wo w') => new_cell hc (new_cell HDO.out z0))
              refine wp_region_held_drew (S := (fun w' => w'.cell? ⟨bx, 0, none⟩ = some (.int .i64 x))) (by kernel_rfl) (HST.out _ (Ch.refl _ _).drew) (fun hHeld => ?_)
              refine wpAnyH_take (i := 1) (v := ?_) rfl (by kernel_rfl) (by kernel_rfl) (by kernel_rfl) (fun _ _ _ h => h) (Or.inl ⟨by rfl, ?_⟩) (by assumption) ?_
              rotate_left 1
              · (intro w hSw; (try dsimp only at hSw); go_simp) <;> with_reducible rfl
              try simp only [Act.put, List.getElem_toArray, List.getElem_cons_zero, List.getElem_cons_succ, List.setIfInBounds_toArray, List.set_cons_zero, List.set_cons_succ]
              refine wpAnyH_take (i := 2) (v := ?_) rfl (by kernel_rfl) (by kernel_rfl) (by kernel_rfl) (fun _ _ _ h => h) (Or.inl ⟨by rfl, ?_⟩) (by assumption) ?_
              rotate_left 1
              · (intro w hSw; (try dsimp only at hSw); go_simp) <;> with_reducible rfl
              try simp only [Act.put, List.getElem_toArray, List.getElem_cons_zero, List.getElem_cons_succ, List.setIfInBounds_toArray, List.set_cons_zero, List.set_cons_succ]
              refine wpAnyH_take (i := 3) (v := ?_) rfl (by kernel_rfl) (by kernel_rfl) (by kernel_rfl) (fun _ _ _ h => h) (Or.inl ⟨by rfl, ?_⟩) (by assumption) ?_
              rotate_left 1
              · (intro w hSw; (try dsimp only at hSw); go_simp) <;> with_reducible rfl
              try simp only [Act.put, List.getElem_toArray, List.getElem_cons_zero, List.getElem_cons_succ, List.setIfInBounds_toArray, List.set_cons_zero, List.set_cons_succ]
              refine wpAnyH_take (i := 5) (v := ?_) rfl (by kernel_rfl) (by kernel_rfl) (by kernel_rfl) (fun _ _ _ h => h) (Or.inl ⟨by rfl, ?_⟩) (by assumption) ?_
              rotate_left 1
              · (intro w hSw; (try dsimp only at hSw); go_simp) <;> with_reducible rfl
              try simp only [Act.put, List.getElem_toArray, List.getElem_cons_zero, List.getElem_cons_succ, List.setIfInBounds_toArray, List.set_cons_zero, List.set_cons_succ]
              refine wpAnyH_take (i := 6) (v := ?_) rfl (by kernel_rfl) (by kernel_rfl) (by kernel_rfl) (fun _ _ _ h => h) (Or.inl ⟨by rfl, ?_⟩) (by assumption) ?_
              rotate_left 1
              · (intro w hSw; (try dsimp only at hSw); go_simp) <;> with_reducible rfl
              try simp only [Act.put, List.getElem_toArray, List.getElem_cons_zero, List.getElem_cons_succ, List.setIfInBounds_toArray, List.set_cons_zero, List.set_cons_succ]
              refine wpAnyH_take (i := 9) (v := ?_) rfl (by kernel_rfl) (by kernel_rfl) (by kernel_rfl) (fun _ _ _ h => h) (Or.inl ⟨by rfl, ?_⟩) (by assumption) ?_
              rotate_left 1
              · (intro w hSw; (try dsimp only at hSw); go_simp) <;> with_reducible rfl
              try simp only [Act.put, List.getElem_toArray, List.getElem_cons_zero, List.getElem_cons_succ, List.setIfInBounds_toArray, List.set_cons_zero, List.set_cons_succ]
              refine wpAnyH_take (i := 10) (v := ?_) rfl (by kernel_rfl) (by kernel_rfl) (by kernel_rfl) (fun _ _ _ h => h) (Or.inl ⟨by rfl, ?_⟩) (by assumption) ?_
              rotate_left 1
              · (intro w hSw; (try dsimp only at hSw); go_simp) <;> with_reducible rfl
              try simp only [Act.put, List.getElem_toArray, List.getElem_cons_zero, List.getElem_cons_succ, List.setIfInBounds_toArray, List.set_cons_zero, List.set_cons_succ]
              refine wpAnyH_take (i := 11) (v := ?_) rfl (by kernel_rfl) (by kernel_rfl) (by kernel_rfl) (fun _ _ _ h => h) (Or.inl ⟨by rfl, ?_⟩) (by assumption) ?_
              rotate_left 1
              · (intro w hSw; (try dsimp only at hSw); go_simp) <;> with_reducible rfl
              try simp only [Act.put, List.getElem_toArray, List.getElem_cons_zero, List.getElem_cons_succ, List.setIfInBounds_toArray, List.set_cons_zero, List.set_cons_succ]
              obtain ⟨wc, hwc⟩ : ∃ wc, wo.drew = wc := ⟨_, rfl⟩
              have HW := Lib.hid (show NewW wo wc from by rw [← hwc]; exact (Ch.refl _ wo).drew)
              rw [hwc] at hHeld ⊢
              clear hwc
              refine wpAnyH_ready (rs := [0, 7]) (by kernel_rfl) (by simp) ?_
              refine (AllReadyH.cons rfl (fun K hK => ?_) (AllReadyH.cons rfl (fun K hK => ?_) AllReadyH.nil))
              · go_simp
                have HW2 := Lib.hid (show NewW wo (wc.alloc (.cells #[] 3)) from HW.out.alloc _)
                have HO := Lib.hid (own_fresh (w := wc) HW.out.size)
                refine hK.out _ _ (HST.out _ HW2.out) (fun hHeld2 => ?_)
                clear hK K hHeld
                try simp only [Act.put, List.getElem_toArray, List.getElem_cons_zero, List.getElem_cons_succ, List.setIfInBounds_toArray, List.set_cons_zero, List.set_cons_succ]
                have HW := HW2
                clear HW2
                generalize wc.alloc (.cells #[] 3) = w1_0 at *
                generalize wc.heap.size = g0 at *
                have hHeld := hHeld2
                clear hHeld2
                refine wpAnyH_ready (rs := [4, 7]) (by kernel_rfl) (by simp) ?_
                refine (AllReadyH.cons rfl (fun K hK => ?_) (AllReadyH.cons rfl (fun K hK => ?_) AllReadyH.nil))
                · refine wp_append_any _ (.tmp 31) (.tmp 34) _ rfl wo.heap.size 3 i1 _ 1 8 Tryd.underlying31 hi1 hy0 hy1 hy2 rfl (by omega) _ 0 [] rfl HO.out wo.heap.size _ a _ ((ints L).take a) rfl (by first | exact HRT.out _ HW.out | simpa using HRT.out _ HW.out) (fun u hu => ints_one L u (List.mem_of_mem_take hu)) (by simp only [maxLen]; omega) (by omega) HW.out.size ?_
                  intro v4 w2_4 hown hg hat
                  have HW2 := Lib.hid (show NewW wo w2_4 from HW.out.grown hg (fun g hg => .inr (own_lt HO.out hg).1))
                  have HO2 := Lib.hid (show w2_4.ownsRow wo.heap.size 3 1 v4 a ((ints L).take a) from by simpa using hown)
                  refine hK.out _ _ (HST.out _ HW2.out) (fun hHeld2 => ?_)
                  clear hK K hHeld
                  try simp only [Act.put, List.getElem_toArray, List.getElem_cons_zero, List.getElem_cons_succ, List.setIfInBounds_toArray, List.set_cons_zero, List.set_cons_succ]
                  have HW := HW2
                  have HO := HO2
                  clear HW2 HO2 hown hg hat
                  have hHeld := hHeld2
                  clear hHeld2
                  refine wpAnyH_ready (rs := [7]) (by kernel_rfl) (by simp) ?_
                  refine (AllReadyH.cons rfl (fun K hK => ?_) AllReadyH.nil)
                  go_simp
                  have HW2 := Lib.hid (show NewW wo (w2_4.alloc (.cells #[.int .i64 x] 3)) from HW.out.alloc _)
                  have B7 := Lib.hid (Blk.new w2_4 3 #[.int .i64 x])
                  have HNE := Lib.hid (show _ ≠ some w2_4.heap.size from fun e => by have := (own_lt HO.out e).2; omega)
                  have HO2 := Lib.hid (own_ch HO.out ((Ch.refl (fun _ => False) w2_4).alloc (.cells #[.int .i64 x] 3)) (fun _ _ h => h))
                  refine hK.out _ _ (HST.out _ HW2.out) (fun hHeld2 => ?_)
                  clear hK K hHeld
                  try simp only [Act.put, List.getElem_toArray, List.getElem_cons_zero, List.getElem_cons_succ, List.setIfInBounds_toArray, List.set_cons_zero, List.set_cons_succ]
                  have HO := HO2
                  clear HO2
                  have HW := HW2
                  clear HW2
                  generalize w2_4.alloc (.cells #[.int .i64 x] 3) = w3_7 at *
                  generalize w2_4.heap.size = g7 at *
                  have hHeld := hHeld2
                  clear hHeld2
                  refine wpAnyH_ready (rs := [8]) (by kernel_rfl) (by simp) ?_
                  refine (AllReadyH.cons rfl (fun K hK => ?_) AllReadyH.nil)
                  refine wp_append_any _ (.tmp 35) (.tmp 38) _ rfl wo.heap.size 3 i1 _ 1 8 Tryd.underlying31 hi1 hy0 hy1 hy2 rfl (by omega) _ a ((ints L).take a) rfl HO.out (g7 + 1) _ 1 _ [.int .i64 x] rfl (reads_blk B7.out) (by simp [Value.oneCell']) (by simp only [maxLen]; omega) (by omega) HW.out.size ?_
                  intro v8 w4_8 hown hg hat
                  have HW2 := Lib.hid (show NewW wo w4_8 from HW.out.grown hg (fun g hg => .inr (own_lt HO.out hg).1))
                  have HO2 := Lib.hid (show w4_8.ownsRow wo.heap.size 3 1 v8 (a + 1) ((ints L).take a ++ [.int .i64 x]) from by simpa using hown)
                  refine hK.out _ _ (HST.out _ HW2.out) (fun hHeld2 => ?_)
                  clear hK K hHeld
                  try simp only [Act.put, List.getElem_toArray, List.getElem_cons_zero, List.getElem_cons_succ, List.setIfInBounds_toArray, List.set_cons_zero, List.set_cons_succ]
                  have HW := HW2
                  have HO := HO2
                  clear HW2 HO2 hown hg hat
                  have hHeld := hHeld2
                  clear hHeld2
                  refine wpAnyH_ready (rs := [12]) (by kernel_rfl) (by simp) ?_
                  refine (AllReadyH.cons rfl (fun K hK => ?_) AllReadyH.nil)
                  refine wp_append_any _ (.tmp 39) (.tmp 42) _ rfl wo.heap.size 3 i1 _ 1 8 Tryd.underlying31 hi1 hy0 hy1 hy2 rfl (by omega) _ (a + 1) ((ints L).take a ++ [Value.int IntKind.i64 x]) rfl HO.out wo.heap.size _ (k - a) _ ((ints L).drop a) rfl (by first | exact HRD.out _ HW.out | simpa using HRD.out _ HW.out) (fun u hu => ints_one L u (List.mem_of_mem_drop hu)) (by simp only [maxLen]; omega) (by omega) HW.out.size ?_
                  intro v12 w5_12 hown hg hat
                  have HW2 := Lib.hid (show NewW wo w5_12 from HW.out.grown hg (fun g hg => .inr (own_lt HO.out hg).1))
                  have HO2 := Lib.hid (show w5_12.ownsRow wo.heap.size 3 1 v12 (a + 1 + (k - a)) ((ints L).take a ++ [.int .i64 x] ++ (ints L).drop a) from by simpa using hown)
                  refine hK.out _ _ (HST.out _ HW2.out) (fun hHeld2 => ?_)
                  clear hK K hHeld
                  try simp only [Act.put, List.getElem_toArray, List.getElem_cons_zero, List.getElem_cons_succ, List.setIfInBounds_toArray, List.set_cons_zero, List.set_cons_succ]
                  have HW := HW2
                  have HO := HO2
                  clear HW2 HO2 hown hg hat
                  have hHeld := hHeld2
                  clear hHeld2
                  refine wpAnyH_take (i := 13) (v := ?_) rfl (by kernel_rfl) (by kernel_rfl) (by kernel_rfl) (fun _ _ _ h => h) (Or.inl ⟨by rfl, ?_⟩) (by assumption) ?_
                  rotate_left 1
                  · (intro w hSw; (try dsimp only at hSw); go_simp) <;> with_reducible rfl
                  try simp only [Act.put, List.getElem_toArray, List.getElem_cons_zero, List.getElem_cons_succ, List.setIfInBounds_toArray, List.set_cons_zero, List.set_cons_succ]
                  refine wpAnyH_done (by kernel_rfl) ?_ _
                  go_wp2_with fail
                  refine ⟨⟨k + 1, by omega, by go_num, ?_, (HCB.out.trans' HDO.out).trans' HW.out⟩, by simp [intOf]; omega⟩
                  have hf := own_mono HO.out (Nat.le_trans HCB.out.size HDO.out.size)
                  rw [HNX.out, ← HIS.out, HLE.out]
                  rw [ints_cut L x a]
                  rw [show k + 1 = a + 1 + (k - a) from by omega]
                  exact hf
                · go_simp
                  have HW2 := Lib.hid (show NewW wo (w1_0.alloc (.cells #[.int .i64 x] 3)) from HW.out.alloc _)
                  have B7 := Lib.hid (Blk.new w1_0 3 #[.int .i64 x])
                  have HNE := Lib.hid (show _ ≠ some w1_0.heap.size from fun e => by have := (own_lt HO.out e).2; omega)
                  have HO2 := Lib.hid (own_ch HO.out ((Ch.refl (fun _ => False) w1_0).alloc (.cells #[.int .i64 x] 3)) (fun _ _ h => h))
                  refine hK.out _ _ (HST.out _ HW2.out) (fun hHeld2 => ?_)
                  clear hK K hHeld
                  try simp only [Act.put, List.getElem_toArray, List.getElem_cons_zero, List.getElem_cons_succ, List.setIfInBounds_toArray, List.set_cons_zero, List.set_cons_succ]
                  have HO := HO2
                  clear HO2
                  have HW := HW2
                  clear HW2
                  generalize w1_0.alloc (.cells #[.int .i64 x] 3) = w2_7 at *
                  generalize w1_0.heap.size = g7 at *
                  have hHeld := hHeld2
                  clear hHeld2
                  refine wpAnyH_ready (rs := [4]) (by kernel_rfl) (by simp) ?_
                  refine (AllReadyH.cons rfl (fun K hK => ?_) AllReadyH.nil)
                  refine wp_append_any _ (.tmp 31) (.tmp 34) _ rfl wo.heap.size 3 i1 _ 1 8 Tryd.underlying31 hi1 hy0 hy1 hy2 rfl (by omega) _ 0 [] rfl HO.out wo.heap.size _ a _ ((ints L).take a) rfl (by first | exact HRT.out _ HW.out | simpa using HRT.out _ HW.out) (fun u hu => ints_one L u (List.mem_of_mem_take hu)) (by simp only [maxLen]; omega) (by omega) HW.out.size ?_
                  intro v4 w3_4 hown hg hat
                  have HW2 := Lib.hid (show NewW wo w3_4 from HW.out.grown hg (fun g hg => .inr (own_lt HO.out hg).1))
                  have HO2 := Lib.hid (show w3_4.ownsRow wo.heap.size 3 1 v4 a ((ints L).take a) from by simpa using hown)
                  have B72 := Lib.hid (B7.out.grown hg (fun e => HNE.out e.symm))
                  have HNE2 := Lib.hid (show v4.ownBlock ≠ some g7 from fun e => by rcases hat with h | h; exact HNE.out (h ▸ e); rw [h] at e; injection e with e; have := B7.out.lt; omega)
                  refine hK.out _ _ (HST.out _ HW2.out) (fun hHeld2 => ?_)
                  clear hK K hHeld
                  try simp only [Act.put, List.getElem_toArray, List.getElem_cons_zero, List.getElem_cons_succ, List.setIfInBounds_toArray, List.set_cons_zero, List.set_cons_succ]
                  have B7 := B72
                  have HNE := HNE2
                  clear B72 HNE2
                  have HW := HW2
                  have HO := HO2
                  clear HW2 HO2 hown hg hat
                  have hHeld := hHeld2
                  clear hHeld2
                  refine wpAnyH_ready (rs := [8]) (by kernel_rfl) (by simp) ?_
                  refine (AllReadyH.cons rfl (fun K hK => ?_) AllReadyH.nil)
                  refine wp_append_any _ (.tmp 35) (.tmp 38) _ rfl wo.heap.size 3 i1 _ 1 8 Tryd.underlying31 hi1 hy0 hy1 hy2 rfl (by omega) _ a ((ints L).take a) rfl HO.out (g7 + 1) _ 1 _ [.int .i64 x] rfl (reads_blk B7.out) (by simp [Value.oneCell']) (by simp only [maxLen]; omega) (by omega) HW.out.size ?_
                  intro v8 w4_8 hown hg hat
                  have HW2 := Lib.hid (show NewW wo w4_8 from HW.out.grown hg (fun g hg => .inr (own_lt HO.out hg).1))
                  have HO2 := Lib.hid (show w4_8.ownsRow wo.heap.size 3 1 v8 (a + 1) ((ints L).take a ++ [.int .i64 x]) from by simpa using hown)
                  refine hK.out _ _ (HST.out _ HW2.out) (fun hHeld2 => ?_)
                  clear hK K hHeld
                  try simp only [Act.put, List.getElem_toArray, List.getElem_cons_zero, List.getElem_cons_succ, List.setIfInBounds_toArray, List.set_cons_zero, List.set_cons_succ]
                  have HW := HW2
                  have HO := HO2
                  clear HW2 HO2 hown hg hat
                  have hHeld := hHeld2
                  clear hHeld2
                  refine wpAnyH_ready (rs := [12]) (by kernel_rfl) (by simp) ?_
                  refine (AllReadyH.cons rfl (fun K hK => ?_) AllReadyH.nil)
                  refine wp_append_any _ (.tmp 39) (.tmp 42) _ rfl wo.heap.size 3 i1 _ 1 8 Tryd.underlying31 hi1 hy0 hy1 hy2 rfl (by omega) _ (a + 1) ((ints L).take a ++ [Value.int IntKind.i64 x]) rfl HO.out wo.heap.size _ (k - a) _ ((ints L).drop a) rfl (by first | exact HRD.out _ HW.out | simpa using HRD.out _ HW.out) (fun u hu => ints_one L u (List.mem_of_mem_drop hu)) (by simp only [maxLen]; omega) (by omega) HW.out.size ?_
                  intro v12 w5_12 hown hg hat
                  have HW2 := Lib.hid (show NewW wo w5_12 from HW.out.grown hg (fun g hg => .inr (own_lt HO.out hg).1))
                  have HO2 := Lib.hid (show w5_12.ownsRow wo.heap.size 3 1 v12 (a + 1 + (k - a)) ((ints L).take a ++ [.int .i64 x] ++ (ints L).drop a) from by simpa using hown)
                  refine hK.out _ _ (HST.out _ HW2.out) (fun hHeld2 => ?_)
                  clear hK K hHeld
                  try simp only [Act.put, List.getElem_toArray, List.getElem_cons_zero, List.getElem_cons_succ, List.setIfInBounds_toArray, List.set_cons_zero, List.set_cons_succ]
                  have HW := HW2
                  have HO := HO2
                  clear HW2 HO2 hown hg hat
                  have hHeld := hHeld2
                  clear hHeld2
                  refine wpAnyH_take (i := 13) (v := ?_) rfl (by kernel_rfl) (by kernel_rfl) (by kernel_rfl) (fun _ _ _ h => h) (Or.inl ⟨by rfl, ?_⟩) (by assumption) ?_
                  rotate_left 1
                  · (intro w hSw; (try dsimp only at hSw); go_simp) <;> with_reducible rfl
                  try simp only [Act.put, List.getElem_toArray, List.getElem_cons_zero, List.getElem_cons_succ, List.setIfInBounds_toArray, List.set_cons_zero, List.set_cons_succ]
                  refine wpAnyH_done (by kernel_rfl) ?_ _
                  go_wp2_with fail
                  refine ⟨⟨k + 1, by omega, by go_num, ?_, (HCB.out.trans' HDO.out).trans' HW.out⟩, by simp [intOf]; omega⟩
                  have hf := own_mono HO.out (Nat.le_trans HCB.out.size HDO.out.size)
                  rw [HNX.out, ← HIS.out, HLE.out]
                  rw [ints_cut L x a]
                  rw [show k + 1 = a + 1 + (k - a) from by omega]
                  exact hf
              · go_simp
                have HW2 := Lib.hid (show NewW wo (wc.alloc (.cells #[.int .i64 x] 3)) from HW.out.alloc _)
                have B7 := Lib.hid (Blk.new wc 3 #[.int .i64 x])
                refine hK.out _ _ (HST.out _ HW2.out) (fun hHeld2 => ?_)
                clear hK K hHeld
                try simp only [Act.put, List.getElem_toArray, List.getElem_cons_zero, List.getElem_cons_succ, List.setIfInBounds_toArray, List.set_cons_zero, List.set_cons_succ]
                have HW := HW2
                clear HW2
                generalize wc.alloc (.cells #[.int .i64 x] 3) = w1_7 at *
                generalize wc.heap.size = g7 at *
                have hHeld := hHeld2
                clear hHeld2
                refine wpAnyH_ready (rs := [0]) (by kernel_rfl) (by simp) ?_
                refine (AllReadyH.cons rfl (fun K hK => ?_) AllReadyH.nil)
                go_simp
                have HW2 := Lib.hid (show NewW wo (w1_7.alloc (.cells #[] 3)) from HW.out.alloc _)
                have HO := Lib.hid (own_fresh (w := w1_7) HW.out.size)
                have HNE := Lib.hid (show (Value.slice (some ⟨w1_7.heap.size, 0, none⟩) 0 0).ownBlock ≠ some g7 from fun e => by simp [Value.ownBlock] at e; have := B7.out.lt; omega)
                have B72 := Lib.hid (B7.out.alloc (.cells #[] 3))
                refine hK.out _ _ (HST.out _ HW2.out) (fun hHeld2 => ?_)
                clear hK K hHeld
                try simp only [Act.put, List.getElem_toArray, List.getElem_cons_zero, List.getElem_cons_succ, List.setIfInBounds_toArray, List.set_cons_zero, List.set_cons_succ]
                have B7 := B72
                clear B72
                have HW := HW2
                clear HW2
                generalize w1_7.alloc (.cells #[] 3) = w2_0 at *
                generalize w1_7.heap.size = g0 at *
                have hHeld := hHeld2
                clear hHeld2
                refine wpAnyH_ready (rs := [4]) (by kernel_rfl) (by simp) ?_
                refine (AllReadyH.cons rfl (fun K hK => ?_) AllReadyH.nil)
                refine wp_append_any _ (.tmp 31) (.tmp 34) _ rfl wo.heap.size 3 i1 _ 1 8 Tryd.underlying31 hi1 hy0 hy1 hy2 rfl (by omega) _ 0 [] rfl HO.out wo.heap.size _ a _ ((ints L).take a) rfl (by first | exact HRT.out _ HW.out | simpa using HRT.out _ HW.out) (fun u hu => ints_one L u (List.mem_of_mem_take hu)) (by simp only [maxLen]; omega) (by omega) HW.out.size ?_
                intro v4 w3_4 hown hg hat
                have HW2 := Lib.hid (show NewW wo w3_4 from HW.out.grown hg (fun g hg => .inr (own_lt HO.out hg).1))
                have HO2 := Lib.hid (show w3_4.ownsRow wo.heap.size 3 1 v4 a ((ints L).take a) from by simpa using hown)
                have B72 := Lib.hid (B7.out.grown hg (fun e => HNE.out e.symm))
                have HNE2 := Lib.hid (show v4.ownBlock ≠ some g7 from fun e => by rcases hat with h | h; exact HNE.out (h ▸ e); rw [h] at e; injection e with e; have := B7.out.lt; omega)
                refine hK.out _ _ (HST.out _ HW2.out) (fun hHeld2 => ?_)
                clear hK K hHeld
                try simp only [Act.put, List.getElem_toArray, List.getElem_cons_zero, List.getElem_cons_succ, List.setIfInBounds_toArray, List.set_cons_zero, List.set_cons_succ]
                have B7 := B72
                have HNE := HNE2
                clear B72 HNE2
                have HW := HW2
                have HO := HO2
                clear HW2 HO2 hown hg hat
                have hHeld := hHeld2
                clear hHeld2
                refine wpAnyH_ready (rs := [8]) (by kernel_rfl) (by simp) ?_
                refine (AllReadyH.cons rfl (fun K hK => ?_) AllReadyH.nil)
                refine wp_append_any _ (.tmp 35) (.tmp 38) _ rfl wo.heap.size 3 i1 _ 1 8 Tryd.underlying31 hi1 hy0 hy1 hy2 rfl (by omega) _ a ((ints L).take a) rfl HO.out (g7 + 1) _ 1 _ [.int .i64 x] rfl (reads_blk B7.out) (by simp [Value.oneCell']) (by simp only [maxLen]; omega) (by omega) HW.out.size ?_
                intro v8 w4_8 hown hg hat
                have HW2 := Lib.hid (show NewW wo w4_8 from HW.out.grown hg (fun g hg => .inr (own_lt HO.out hg).1))
                have HO2 := Lib.hid (show w4_8.ownsRow wo.heap.size 3 1 v8 (a + 1) ((ints L).take a ++ [.int .i64 x]) from by simpa using hown)
                refine hK.out _ _ (HST.out _ HW2.out) (fun hHeld2 => ?_)
                clear hK K hHeld
                try simp only [Act.put, List.getElem_toArray, List.getElem_cons_zero, List.getElem_cons_succ, List.setIfInBounds_toArray, List.set_cons_zero, List.set_cons_succ]
                have HW := HW2
                have HO := HO2
                clear HW2 HO2 hown hg hat
                have hHeld := hHeld2
                clear hHeld2
                refine wpAnyH_ready (rs := [12]) (by kernel_rfl) (by simp) ?_
                refine (AllReadyH.cons rfl (fun K hK => ?_) AllReadyH.nil)
                refine wp_append_any _ (.tmp 39) (.tmp 42) _ rfl wo.heap.size 3 i1 _ 1 8 Tryd.underlying31 hi1 hy0 hy1 hy2 rfl (by omega) _ (a + 1) ((ints L).take a ++ [Value.int IntKind.i64 x]) rfl HO.out wo.heap.size _ (k - a) _ ((ints L).drop a) rfl (by first | exact HRD.out _ HW.out | simpa using HRD.out _ HW.out) (fun u hu => ints_one L u (List.mem_of_mem_drop hu)) (by simp only [maxLen]; omega) (by omega) HW.out.size ?_
                intro v12 w5_12 hown hg hat
                have HW2 := Lib.hid (show NewW wo w5_12 from HW.out.grown hg (fun g hg => .inr (own_lt HO.out hg).1))
                have HO2 := Lib.hid (show w5_12.ownsRow wo.heap.size 3 1 v12 (a + 1 + (k - a)) ((ints L).take a ++ [.int .i64 x] ++ (ints L).drop a) from by simpa using hown)
                refine hK.out _ _ (HST.out _ HW2.out) (fun hHeld2 => ?_)
                clear hK K hHeld
                try simp only [Act.put, List.getElem_toArray, List.getElem_cons_zero, List.getElem_cons_succ, List.setIfInBounds_toArray, List.set_cons_zero, List.set_cons_succ]
                have HW := HW2
                have HO := HO2
                clear HW2 HO2 hown hg hat
                have hHeld := hHeld2
                clear hHeld2
                refine wpAnyH_take (i := 13) (v := ?_) rfl (by kernel_rfl) (by kernel_rfl) (by kernel_rfl) (fun _ _ _ h => h) (Or.inl ⟨by rfl, ?_⟩) (by assumption) ?_
                rotate_left 1
                · (intro w hSw; (try dsimp only at hSw); go_simp) <;> with_reducible rfl
                try simp only [Act.put, List.getElem_toArray, List.getElem_cons_zero, List.getElem_cons_succ, List.setIfInBounds_toArray, List.set_cons_zero, List.set_cons_succ]
                refine wpAnyH_done (by kernel_rfl) ?_ _
                go_wp2_with fail
                refine ⟨⟨k + 1, by omega, by go_num, ?_, (HCB.out.trans' HDO.out).trans' HW.out⟩, by simp [intOf]; omega⟩
                have hf := own_mono HO.out (Nat.le_trans HCB.out.size HDO.out.size)
                rw [HNX.out, ← HIS.out, HLE.out]
                rw [ints_cut L x a]
                rw [show k + 1 = a + 1 + (k - a) from by omega]
                exact hf
          · obtain rfl : a = k := by omega
            have dak : decide ((a : Int) < (a : Int)) = false := by simp
            have dak' : decide (a < a) = false := by simp
            have HIS := Lib.hid (ins_sort (M := (N.take a).map Prod.fst) (by rw [HLE.out]; exact hI) (fun z hz => by have := lt_of_some hz; rw [HLE.out, HLN.out] at this; omega))
            clear hI hD
            go_wp2_with fail
            go_quiet (fail)
            go_wp2_with fail
            obtain ⟨wo, hwo⟩ : ∃ wo, wo = wr.drewN nq := ⟨_, rfl⟩
            rw [← hwo]
            have HDW := Lib.hid (show NewW wb wo from by rw [hwo]; exact HD.out.drewN nq)
            have HOW := Lib.hid (own_ch HOR.out (show NewW wr wo from by rw [hwo]; exact (Ch.refl _ wr).drewN nq) (fun _ _ h => h))
            clear hwo
            have HRT := Lib.hid (fun (w' : World) (hc : NewW wo w') => (reads_part HOW.out hc ha).1)
            have hd0 : (ints L).drop a = [] := List.drop_eq_nil_of_le (by have := HOW.out.1; omega)
            have HD0 := Lib.hid hd0
            clear hd0
            by_cases hqa : q7 = a
            · have HRD := Lib.hid (fun (w' : World) (hc : NewW wo w') => (show Reads w' wo.heap.size 1 (some ⟨gl, 0, none⟩) 0 ((ints L).drop a) from by rw [HD0.out]; exact ⟨rfl, fun h => absurd h (by omega)⟩))
              have HDO := Lib.hid (show NewW wb wo from HDW.out)
              have HST := Lib.hid (fun (w' : World) (hc : NewW wo w') => new_cell hc (new_cell HDO.out z0))
              refine wp_region_held_drew (S := (fun w' => w'.cell? ⟨bx, 0, none⟩ = some (.int .i64 x))) (by kernel_rfl) (HST.out _ (Ch.refl _ _).drew) (fun hHeld => ?_)
              refine wpAnyH_take (i := 1) (v := ?_) rfl (by kernel_rfl) (by kernel_rfl) (by kernel_rfl) (fun _ _ _ h => h) (Or.inl ⟨by rfl, ?_⟩) (by assumption) ?_
              rotate_left 1
              · (intro w hSw; (try dsimp only at hSw); go_simp) <;> with_reducible rfl
              try simp only [Act.put, List.getElem_toArray, List.getElem_cons_zero, List.getElem_cons_succ, List.setIfInBounds_toArray, List.set_cons_zero, List.set_cons_succ]
              refine wpAnyH_take (i := 2) (v := ?_) rfl (by kernel_rfl) (by kernel_rfl) (by kernel_rfl) (fun _ _ _ h => h) (Or.inl ⟨by rfl, ?_⟩) (by assumption) ?_
              rotate_left 1
              · (intro w hSw; (try dsimp only at hSw); go_simp) <;> with_reducible rfl
              try simp only [Act.put, List.getElem_toArray, List.getElem_cons_zero, List.getElem_cons_succ, List.setIfInBounds_toArray, List.set_cons_zero, List.set_cons_succ]
              refine wpAnyH_take (i := 3) (v := ?_) rfl (by kernel_rfl) (by kernel_rfl) (by kernel_rfl) (fun _ _ _ h => h) (Or.inl ⟨by rfl, ?_⟩) (by assumption) ?_
              rotate_left 1
              · (intro w hSw; (try dsimp only at hSw); go_simp) <;> with_reducible rfl
              try simp only [Act.put, List.getElem_toArray, List.getElem_cons_zero, List.getElem_cons_succ, List.setIfInBounds_toArray, List.set_cons_zero, List.set_cons_succ]
              refine wpAnyH_take (i := 5) (v := ?_) rfl (by kernel_rfl) (by kernel_rfl) (by kernel_rfl) (fun _ _ _ h => h) (Or.inl ⟨by rfl, ?_⟩) (by assumption) ?_
              rotate_left 1
              · (intro w hSw; (try dsimp only at hSw); go_simp) <;> with_reducible rfl
              try simp only [Act.put, List.getElem_toArray, List.getElem_cons_zero, List.getElem_cons_succ, List.setIfInBounds_toArray, List.set_cons_zero, List.set_cons_succ]
              refine wpAnyH_take (i := 6) (v := ?_) rfl (by kernel_rfl) (by kernel_rfl) (by kernel_rfl) (fun _ _ _ h => h) (Or.inl ⟨by rfl, ?_⟩) (by assumption) ?_
              rotate_left 1
              · (intro w hSw; (try dsimp only at hSw); go_simp) <;> with_reducible rfl
              try simp only [Act.put, List.getElem_toArray, List.getElem_cons_zero, List.getElem_cons_succ, List.setIfInBounds_toArray, List.set_cons_zero, List.set_cons_succ]
              refine wpAnyH_take (i := 9) (v := ?_) rfl (by kernel_rfl) (by kernel_rfl) (by kernel_rfl) (fun _ _ _ h => h) (Or.inl ⟨by rfl, ?_⟩) (by assumption) ?_
              rotate_left 1
              · (intro w hSw; (try dsimp only at hSw); go_simp) <;> with_reducible rfl
              try simp only [Act.put, List.getElem_toArray, List.getElem_cons_zero, List.getElem_cons_succ, List.setIfInBounds_toArray, List.set_cons_zero, List.set_cons_succ]
              refine wpAnyH_take (i := 10) (v := ?_) rfl (by kernel_rfl) (by kernel_rfl) (by kernel_rfl) (fun _ _ _ h => h) (Or.inl ⟨by rfl, ?_⟩) (by assumption) ?_
              rotate_left 1
              · (intro w hSw; (try dsimp only at hSw); go_simp) <;> with_reducible rfl
              try simp only [Act.put, List.getElem_toArray, List.getElem_cons_zero, List.getElem_cons_succ, List.setIfInBounds_toArray, List.set_cons_zero, List.set_cons_succ]
              refine wpAnyH_take (i := 11) (v := ?_) rfl (by kernel_rfl) (by kernel_rfl) (by kernel_rfl) (fun _ _ _ h => h) (Or.inl ⟨by rfl, ?_⟩) (by assumption) ?_
              rotate_left 1
              · (intro w hSw; (try dsimp only at hSw); go_simp) <;> with_reducible rfl
              try simp only [Act.put, List.getElem_toArray, List.getElem_cons_zero, List.getElem_cons_succ, List.setIfInBounds_toArray, List.set_cons_zero, List.set_cons_succ]
              obtain ⟨wc, hwc⟩ : ∃ wc, wo.drew = wc := ⟨_, rfl⟩
              have HW := Lib.hid (show NewW wo wc from by rw [← hwc]; exact (Ch.refl _ wo).drew)
              rw [hwc] at hHeld ⊢
              clear hwc
              refine wpAnyH_ready (rs := [0, 7]) (by kernel_rfl) (by simp) ?_
              refine (AllReadyH.cons rfl (fun K hK => ?_) (AllReadyH.cons rfl (fun K hK => ?_) AllReadyH.nil))
              · go_simp
                have HW2 := Lib.hid (show NewW wo (wc.alloc (.cells #[] 3)) from HW.out.alloc _)
                have HO := Lib.hid (own_fresh (w := wc) HW.out.size)
                refine hK.out _ _ (HST.out _ HW2.out) (fun hHeld2 => ?_)
                clear hK K hHeld
                try simp only [Act.put, List.getElem_toArray, List.getElem_cons_zero, List.getElem_cons_succ, List.setIfInBounds_toArray, List.set_cons_zero, List.set_cons_succ]
                have HW := HW2
                clear HW2
                generalize wc.alloc (.cells #[] 3) = w1_0 at *
                generalize wc.heap.size = g0 at *
                have hHeld := hHeld2
                clear hHeld2
                refine wpAnyH_ready (rs := [4, 7]) (by kernel_rfl) (by simp) ?_
                refine (AllReadyH.cons rfl (fun K hK => ?_) (AllReadyH.cons rfl (fun K hK => ?_) AllReadyH.nil))
                · refine wp_append_any _ (.tmp 31) (.tmp 34) _ rfl wo.heap.size 3 i1 _ 1 8 Tryd.underlying31 hi1 hy0 hy1 hy2 rfl (by omega) _ 0 [] rfl HO.out wo.heap.size _ a _ ((ints L).take a) rfl (by first | exact HRT.out _ HW.out | simpa using HRT.out _ HW.out) (fun u hu => ints_one L u (List.mem_of_mem_take hu)) (by simp only [maxLen]; omega) (by omega) HW.out.size ?_
                  intro v4 w2_4 hown hg hat
                  have HW2 := Lib.hid (show NewW wo w2_4 from HW.out.grown hg (fun g hg => .inr (own_lt HO.out hg).1))
                  have HO2 := Lib.hid (show w2_4.ownsRow wo.heap.size 3 1 v4 a ((ints L).take a) from by simpa using hown)
                  refine hK.out _ _ (HST.out _ HW2.out) (fun hHeld2 => ?_)
                  clear hK K hHeld
                  try simp only [Act.put, List.getElem_toArray, List.getElem_cons_zero, List.getElem_cons_succ, List.setIfInBounds_toArray, List.set_cons_zero, List.set_cons_succ]
                  have HW := HW2
                  have HO := HO2
                  clear HW2 HO2 hown hg hat
                  have hHeld := hHeld2
                  clear hHeld2
                  refine wpAnyH_ready (rs := [7]) (by kernel_rfl) (by simp) ?_
                  refine (AllReadyH.cons rfl (fun K hK => ?_) AllReadyH.nil)
                  go_simp
                  have HW2 := Lib.hid (show NewW wo (w2_4.alloc (.cells #[.int .i64 x] 3)) from HW.out.alloc _)
                  have B7 := Lib.hid (Blk.new w2_4 3 #[.int .i64 x])
                  have HNE := Lib.hid (show _ ≠ some w2_4.heap.size from fun e => by have := (own_lt HO.out e).2; omega)
                  have HO2 := Lib.hid (own_ch HO.out ((Ch.refl (fun _ => False) w2_4).alloc (.cells #[.int .i64 x] 3)) (fun _ _ h => h))
                  refine hK.out _ _ (HST.out _ HW2.out) (fun hHeld2 => ?_)
                  clear hK K hHeld
                  try simp only [Act.put, List.getElem_toArray, List.getElem_cons_zero, List.getElem_cons_succ, List.setIfInBounds_toArray, List.set_cons_zero, List.set_cons_succ]
                  have HO := HO2
                  clear HO2
                  have HW := HW2
                  clear HW2
                  generalize w2_4.alloc (.cells #[.int .i64 x] 3) = w3_7 at *
                  generalize w2_4.heap.size = g7 at *
                  have hHeld := hHeld2
                  clear hHeld2
                  refine wpAnyH_ready (rs := [8]) (by kernel_rfl) (by simp) ?_
                  refine (AllReadyH.cons rfl (fun K hK => ?_) AllReadyH.nil)
                  refine wp_append_any _ (.tmp 35) (.tmp 38) _ rfl wo.heap.size 3 i1 _ 1 8 Tryd.underlying31 hi1 hy0 hy1 hy2 rfl (by omega) _ a ((ints L).take a) rfl HO.out (g7 + 1) _ 1 _ [.int .i64 x] rfl (reads_blk B7.out) (by simp [Value.oneCell']) (by simp only [maxLen]; omega) (by omega) HW.out.size ?_
                  intro v8 w4_8 hown hg hat
                  have HW2 := Lib.hid (show NewW wo w4_8 from HW.out.grown hg (fun g hg => .inr (own_lt HO.out hg).1))
                  have HO2 := Lib.hid (show w4_8.ownsRow wo.heap.size 3 1 v8 (a + 1) ((ints L).take a ++ [.int .i64 x]) from by simpa using hown)
                  refine hK.out _ _ (HST.out _ HW2.out) (fun hHeld2 => ?_)
                  clear hK K hHeld
                  try simp only [Act.put, List.getElem_toArray, List.getElem_cons_zero, List.getElem_cons_succ, List.setIfInBounds_toArray, List.set_cons_zero, List.set_cons_succ]
                  have HW := HW2
                  have HO := HO2
                  clear HW2 HO2 hown hg hat
                  have hHeld := hHeld2
                  clear hHeld2
                  refine wpAnyH_ready (rs := [12]) (by kernel_rfl) (by simp) ?_
                  refine (AllReadyH.cons rfl (fun K hK => ?_) AllReadyH.nil)
                  refine wp_append_any _ (.tmp 39) (.tmp 42) _ rfl wo.heap.size 3 i1 _ 1 8 Tryd.underlying31 hi1 hy0 hy1 hy2 rfl (by omega) _ (a + 1) ((ints L).take a ++ [Value.int IntKind.i64 x]) rfl HO.out wo.heap.size _ 0 _ ((ints L).drop a) rfl (by first | exact HRD.out _ HW.out | simpa using HRD.out _ HW.out) (fun u hu => ints_one L u (List.mem_of_mem_drop hu)) (by simp only [maxLen]; omega) (by omega) HW.out.size ?_
                  intro v12 w5_12 hown hg hat
                  have HW2 := Lib.hid (show NewW wo w5_12 from HW.out.grown hg (fun g hg => .inr (own_lt HO.out hg).1))
                  have HO2 := Lib.hid (show w5_12.ownsRow wo.heap.size 3 1 v12 (a + 1 + 0) ((ints L).take a ++ [.int .i64 x] ++ (ints L).drop a) from by simpa using hown)
                  refine hK.out _ _ (HST.out _ HW2.out) (fun hHeld2 => ?_)
                  clear hK K hHeld
                  try simp only [Act.put, List.getElem_toArray, List.getElem_cons_zero, List.getElem_cons_succ, List.setIfInBounds_toArray, List.set_cons_zero, List.set_cons_succ]
                  have HW := HW2
                  have HO := HO2
                  clear HW2 HO2 hown hg hat
                  have hHeld := hHeld2
                  clear hHeld2
                  refine wpAnyH_take (i := 13) (v := ?_) rfl (by kernel_rfl) (by kernel_rfl) (by kernel_rfl) (fun _ _ _ h => h) (Or.inl ⟨by rfl, ?_⟩) (by assumption) ?_
                  rotate_left 1
                  · (intro w hSw; (try dsimp only at hSw); go_simp) <;> with_reducible rfl
                  try simp only [Act.put, List.getElem_toArray, List.getElem_cons_zero, List.getElem_cons_succ, List.setIfInBounds_toArray, List.set_cons_zero, List.set_cons_succ]
                  refine wpAnyH_done (by kernel_rfl) ?_ _
                  go_wp2_with fail
                  refine ⟨⟨a + 1, by omega, by go_num, ?_, (HCB.out.trans' HDO.out).trans' HW.out⟩, by simp [intOf]; omega⟩
                  have hf := own_mono HO.out (Nat.le_trans HCB.out.size HDO.out.size)
                  rw [HNX.out, ← HIS.out, HLE.out]
                  rw [ints_cut L x a]
                  rw [show a + 1 = a + 1 + 0 from by omega]
                  exact hf
                · go_simp
                  have HW2 := Lib.hid (show NewW wo (w1_0.alloc (.cells #[.int .i64 x] 3)) from HW.out.alloc _)
                  have B7 := Lib.hid (Blk.new w1_0 3 #[.int .i64 x])
                  have HNE := Lib.hid (show _ ≠ some w1_0.heap.size from fun e => by have := (own_lt HO.out e).2; omega)
                  have HO2 := Lib.hid (own_ch HO.out ((Ch.refl (fun _ => False) w1_0).alloc (.cells #[.int .i64 x] 3)) (fun _ _ h => h))
                  refine hK.out _ _ (HST.out _ HW2.out) (fun hHeld2 => ?_)
                  clear hK K hHeld
                  try simp only [Act.put, List.getElem_toArray, List.getElem_cons_zero, List.getElem_cons_succ, List.setIfInBounds_toArray, List.set_cons_zero, List.set_cons_succ]
                  have HO := HO2
                  clear HO2
                  have HW := HW2
                  clear HW2
                  generalize w1_0.alloc (.cells #[.int .i64 x] 3) = w2_7 at *
                  generalize w1_0.heap.size = g7 at *
                  have hHeld := hHeld2
                  clear hHeld2
                  refine wpAnyH_ready (rs := [4]) (by kernel_rfl) (by simp) ?_
                  refine (AllReadyH.cons rfl (fun K hK => ?_) AllReadyH.nil)
                  refine wp_append_any _ (.tmp 31) (.tmp 34) _ rfl wo.heap.size 3 i1 _ 1 8 Tryd.underlying31 hi1 hy0 hy1 hy2 rfl (by omega) _ 0 [] rfl HO.out wo.heap.size _ a _ ((ints L).take a) rfl (by first | exact HRT.out _ HW.out | simpa using HRT.out _ HW.out) (fun u hu => ints_one L u (List.mem_of_mem_take hu)) (by simp only [maxLen]; omega) (by omega) HW.out.size ?_
                  intro v4 w3_4 hown hg hat
                  have HW2 := Lib.hid (show NewW wo w3_4 from HW.out.grown hg (fun g hg => .inr (own_lt HO.out hg).1))
                  have HO2 := Lib.hid (show w3_4.ownsRow wo.heap.size 3 1 v4 a ((ints L).take a) from by simpa using hown)
                  have B72 := Lib.hid (B7.out.grown hg (fun e => HNE.out e.symm))
                  have HNE2 := Lib.hid (show v4.ownBlock ≠ some g7 from fun e => by rcases hat with h | h; exact HNE.out (h ▸ e); rw [h] at e; injection e with e; have := B7.out.lt; omega)
                  refine hK.out _ _ (HST.out _ HW2.out) (fun hHeld2 => ?_)
                  clear hK K hHeld
                  try simp only [Act.put, List.getElem_toArray, List.getElem_cons_zero, List.getElem_cons_succ, List.setIfInBounds_toArray, List.set_cons_zero, List.set_cons_succ]
                  have B7 := B72
                  have HNE := HNE2
                  clear B72 HNE2
                  have HW := HW2
                  have HO := HO2
                  clear HW2 HO2 hown hg hat
                  have hHeld := hHeld2
                  clear hHeld2
                  refine wpAnyH_ready (rs := [8]) (by kernel_rfl) (by simp) ?_
                  refine (AllReadyH.cons rfl (fun K hK => ?_) AllReadyH.nil)
                  refine wp_append_any _ (.tmp 35) (.tmp 38) _ rfl wo.heap.size 3 i1 _ 1 8 Tryd.underlying31 hi1 hy0 hy1 hy2 rfl (by omega) _ a ((ints L).take a) rfl HO.out (g7 + 1) _ 1 _ [.int .i64 x] rfl (reads_blk B7.out) (by simp [Value.oneCell']) (by simp only [maxLen]; omega) (by omega) HW.out.size ?_
                  intro v8 w4_8 hown hg hat
                  have HW2 := Lib.hid (show NewW wo w4_8 from HW.out.grown hg (fun g hg => .inr (own_lt HO.out hg).1))
                  have HO2 := Lib.hid (show w4_8.ownsRow wo.heap.size 3 1 v8 (a + 1) ((ints L).take a ++ [.int .i64 x]) from by simpa using hown)
                  refine hK.out _ _ (HST.out _ HW2.out) (fun hHeld2 => ?_)
                  clear hK K hHeld
                  try simp only [Act.put, List.getElem_toArray, List.getElem_cons_zero, List.getElem_cons_succ, List.setIfInBounds_toArray, List.set_cons_zero, List.set_cons_succ]
                  have HW := HW2
                  have HO := HO2
                  clear HW2 HO2 hown hg hat
                  have hHeld := hHeld2
                  clear hHeld2
                  refine wpAnyH_ready (rs := [12]) (by kernel_rfl) (by simp) ?_
                  refine (AllReadyH.cons rfl (fun K hK => ?_) AllReadyH.nil)
                  refine wp_append_any _ (.tmp 39) (.tmp 42) _ rfl wo.heap.size 3 i1 _ 1 8 Tryd.underlying31 hi1 hy0 hy1 hy2 rfl (by omega) _ (a + 1) ((ints L).take a ++ [Value.int IntKind.i64 x]) rfl HO.out wo.heap.size _ 0 _ ((ints L).drop a) rfl (by first | exact HRD.out _ HW.out | simpa using HRD.out _ HW.out) (fun u hu => ints_one L u (List.mem_of_mem_drop hu)) (by simp only [maxLen]; omega) (by omega) HW.out.size ?_
                  intro v12 w5_12 hown hg hat
                  have HW2 := Lib.hid (show NewW wo w5_12 from HW.out.grown hg (fun g hg => .inr (own_lt HO.out hg).1))
                  have HO2 := Lib.hid (show w5_12.ownsRow wo.heap.size 3 1 v12 (a + 1 + 0) ((ints L).take a ++ [.int .i64 x] ++ (ints L).drop a) from by simpa using hown)
                  refine hK.out _ _ (HST.out _ HW2.out) (fun hHeld2 => ?_)
                  clear hK K hHeld
                  try simp only [Act.put, List.getElem_toArray, List.getElem_cons_zero, List.getElem_cons_succ, List.setIfInBounds_toArray, List.set_cons_zero, List.set_cons_succ]
                  have HW := HW2
                  have HO := HO2
                  clear HW2 HO2 hown hg hat
                  have hHeld := hHeld2
                  clear hHeld2
                  refine wpAnyH_take (i := 13) (v := ?_) rfl (by kernel_rfl) (by kernel_rfl) (by kernel_rfl) (fun _ _ _ h => h) (Or.inl ⟨by rfl, ?_⟩) (by assumption) ?_
                  rotate_left 1
                  · (intro w hSw; (try dsimp only at hSw); go_simp) <;> with_reducible rfl
                  try simp only [Act.put, List.getElem_toArray, List.getElem_cons_zero, List.getElem_cons_succ, List.setIfInBounds_toArray, List.set_cons_zero, List.set_cons_succ]
                  refine wpAnyH_done (by kernel_rfl) ?_ _
                  go_wp2_with fail
                  refine ⟨⟨a + 1, by omega, by go_num, ?_, (HCB.out.trans' HDO.out).trans' HW.out⟩, by simp [intOf]; omega⟩
                  have hf := own_mono HO.out (Nat.le_trans HCB.out.size HDO.out.size)
                  rw [HNX.out, ← HIS.out, HLE.out]
                  rw [ints_cut L x a]
                  rw [show a + 1 = a + 1 + 0 from by omega]
                  exact hf
              · go_simp
                have HW2 := Lib.hid (show NewW wo (wc.alloc (.cells #[.int .i64 x] 3)) from HW.out.alloc _)
                have B7 := Lib.hid (Blk.new wc 3 #[.int .i64 x])
                refine hK.out _ _ (HST.out _ HW2.out) (fun hHeld2 => ?_)
                clear hK K hHeld
                try simp only [Act.put, List.getElem_toArray, List.getElem_cons_zero, List.getElem_cons_succ, List.setIfInBounds_toArray, List.set_cons_zero, List.set_cons_succ]
                have HW := HW2
                clear HW2
                generalize wc.alloc (.cells #[.int .i64 x] 3) = w1_7 at *
                generalize wc.heap.size = g7 at *
                have hHeld := hHeld2
                clear hHeld2
                refine wpAnyH_ready (rs := [0]) (by kernel_rfl) (by simp) ?_
                refine (AllReadyH.cons rfl (fun K hK => ?_) AllReadyH.nil)
                go_simp
                have HW2 := Lib.hid (show NewW wo (w1_7.alloc (.cells #[] 3)) from HW.out.alloc _)
                have HO := Lib.hid (own_fresh (w := w1_7) HW.out.size)
                have HNE := Lib.hid (show (Value.slice (some ⟨w1_7.heap.size, 0, none⟩) 0 0).ownBlock ≠ some g7 from fun e => by simp [Value.ownBlock] at e; have := B7.out.lt; omega)
                have B72 := Lib.hid (B7.out.alloc (.cells #[] 3))
                refine hK.out _ _ (HST.out _ HW2.out) (fun hHeld2 => ?_)
                clear hK K hHeld
                try simp only [Act.put, List.getElem_toArray, List.getElem_cons_zero, List.getElem_cons_succ, List.setIfInBounds_toArray, List.set_cons_zero, List.set_cons_succ]
                have B7 := B72
                clear B72
                have HW := HW2
                clear HW2
                generalize w1_7.alloc (.cells #[] 3) = w2_0 at *
                generalize w1_7.heap.size = g0 at *
                have hHeld := hHeld2
                clear hHeld2
                refine wpAnyH_ready (rs := [4]) (by kernel_rfl) (by simp) ?_
                refine (AllReadyH.cons rfl (fun K hK => ?_) AllReadyH.nil)
                refine wp_append_any _ (.tmp 31) (.tmp 34) _ rfl wo.heap.size 3 i1 _ 1 8 Tryd.underlying31 hi1 hy0 hy1 hy2 rfl (by omega) _ 0 [] rfl HO.out wo.heap.size _ a _ ((ints L).take a) rfl (by first | exact HRT.out _ HW.out | simpa using HRT.out _ HW.out) (fun u hu => ints_one L u (List.mem_of_mem_take hu)) (by simp only [maxLen]; omega) (by omega) HW.out.size ?_
                intro v4 w3_4 hown hg hat
                have HW2 := Lib.hid (show NewW wo w3_4 from HW.out.grown hg (fun g hg => .inr (own_lt HO.out hg).1))
                have HO2 := Lib.hid (show w3_4.ownsRow wo.heap.size 3 1 v4 a ((ints L).take a) from by simpa using hown)
                have B72 := Lib.hid (B7.out.grown hg (fun e => HNE.out e.symm))
                have HNE2 := Lib.hid (show v4.ownBlock ≠ some g7 from fun e => by rcases hat with h | h; exact HNE.out (h ▸ e); rw [h] at e; injection e with e; have := B7.out.lt; omega)
                refine hK.out _ _ (HST.out _ HW2.out) (fun hHeld2 => ?_)
                clear hK K hHeld
                try simp only [Act.put, List.getElem_toArray, List.getElem_cons_zero, List.getElem_cons_succ, List.setIfInBounds_toArray, List.set_cons_zero, List.set_cons_succ]
                have B7 := B72
                have HNE := HNE2
                clear B72 HNE2
                have HW := HW2
                have HO := HO2
                clear HW2 HO2 hown hg hat
                have hHeld := hHeld2
                clear hHeld2
                refine wpAnyH_ready (rs := [8]) (by kernel_rfl) (by simp) ?_
                refine (AllReadyH.cons rfl (fun K hK => ?_) AllReadyH.nil)
                refine wp_append_any _ (.tmp 35) (.tmp 38) _ rfl wo.heap.size 3 i1 _ 1 8 Tryd.underlying31 hi1 hy0 hy1 hy2 rfl (by omega) _ a ((ints L).take a) rfl HO.out (g7 + 1) _ 1 _ [.int .i64 x] rfl (reads_blk B7.out) (by simp [Value.oneCell']) (by simp only [maxLen]; omega) (by omega) HW.out.size ?_
                intro v8 w4_8 hown hg hat
                have HW2 := Lib.hid (show NewW wo w4_8 from HW.out.grown hg (fun g hg => .inr (own_lt HO.out hg).1))
                have HO2 := Lib.hid (show w4_8.ownsRow wo.heap.size 3 1 v8 (a + 1) ((ints L).take a ++ [.int .i64 x]) from by simpa using hown)
                refine hK.out _ _ (HST.out _ HW2.out) (fun hHeld2 => ?_)
                clear hK K hHeld
                try simp only [Act.put, List.getElem_toArray, List.getElem_cons_zero, List.getElem_cons_succ, List.setIfInBounds_toArray, List.set_cons_zero, List.set_cons_succ]
                have HW := HW2
                have HO := HO2
                clear HW2 HO2 hown hg hat
                have hHeld := hHeld2
                clear hHeld2
                refine wpAnyH_ready (rs := [12]) (by kernel_rfl) (by simp) ?_
                refine (AllReadyH.cons rfl (fun K hK => ?_) AllReadyH.nil)
                refine wp_append_any _ (.tmp 39) (.tmp 42) _ rfl wo.heap.size 3 i1 _ 1 8 Tryd.underlying31 hi1 hy0 hy1 hy2 rfl (by omega) _ (a + 1) ((ints L).take a ++ [Value.int IntKind.i64 x]) rfl HO.out wo.heap.size _ 0 _ ((ints L).drop a) rfl (by first | exact HRD.out _ HW.out | simpa using HRD.out _ HW.out) (fun u hu => ints_one L u (List.mem_of_mem_drop hu)) (by simp only [maxLen]; omega) (by omega) HW.out.size ?_
                intro v12 w5_12 hown hg hat
                have HW2 := Lib.hid (show NewW wo w5_12 from HW.out.grown hg (fun g hg => .inr (own_lt HO.out hg).1))
                have HO2 := Lib.hid (show w5_12.ownsRow wo.heap.size 3 1 v12 (a + 1 + 0) ((ints L).take a ++ [.int .i64 x] ++ (ints L).drop a) from by simpa using hown)
                refine hK.out _ _ (HST.out _ HW2.out) (fun hHeld2 => ?_)
                clear hK K hHeld
                try simp only [Act.put, List.getElem_toArray, List.getElem_cons_zero, List.getElem_cons_succ, List.setIfInBounds_toArray, List.set_cons_zero, List.set_cons_succ]
                have HW := HW2
                have HO := HO2
                clear HW2 HO2 hown hg hat
                have hHeld := hHeld2
                clear hHeld2
                refine wpAnyH_take (i := 13) (v := ?_) rfl (by kernel_rfl) (by kernel_rfl) (by kernel_rfl) (fun _ _ _ h => h) (Or.inl ⟨by rfl, ?_⟩) (by assumption) ?_
                rotate_left 1
                · (intro w hSw; (try dsimp only at hSw); go_simp) <;> with_reducible rfl
                try simp only [Act.put, List.getElem_toArray, List.getElem_cons_zero, List.getElem_cons_succ, List.setIfInBounds_toArray, List.set_cons_zero, List.set_cons_succ]
                refine wpAnyH_done (by kernel_rfl) ?_ _
                go_wp2_with fail
                refine ⟨⟨a + 1, by omega, by go_num, ?_, (HCB.out.trans' HDO.out).trans' HW.out⟩, by simp [intOf]; omega⟩
                have hf := own_mono HO.out (Nat.le_trans HCB.out.size HDO.out.size)
                rw [HNX.out, ← HIS.out, HLE.out]
                rw [ints_cut L x a]
                rw [show a + 1 = a + 1 + 0 from by omega]
                exact hf
            · have HRD := Lib.hid (fun (w' : World) (hc : NewW wo w') => (show Reads w' wo.heap.size 1 (some ⟨gl, a, none⟩) 0 ((ints L).drop a) from by rw [HD0.out]; exact ⟨rfl, fun h => absurd h (by omega)⟩))
              have HDO := Lib.hid (show NewW wb wo from HDW.out)
              have HST := Lib.hid (fun (w' : World) (hc : NewW wo w') => new_cell hc (new_cell HDO.out z0))
              refine wp_region_held_drew (S := (fun w' => w'.cell? ⟨bx, 0, none⟩ = some (.int .i64 x))) (by kernel_rfl) (HST.out _ (Ch.refl _ _).drew) (fun hHeld => ?_)
              refine wpAnyH_take (i := 1) (v := ?_) rfl (by kernel_rfl) (by kernel_rfl) (by kernel_rfl) (fun _ _ _ h => h) (Or.inl ⟨by rfl, ?_⟩) (by assumption) ?_
              rotate_left 1
              · (intro w hSw; (try dsimp only at hSw); go_simp) <;> with_reducible rfl
              try simp only [Act.put, List.getElem_toArray, List.getElem_cons_zero, List.getElem_cons_succ, List.setIfInBounds_toArray, List.set_cons_zero, List.set_cons_succ]
              refine wpAnyH_take (i := 2) (v := ?_) rfl (by kernel_rfl) (by kernel_rfl) (by kernel_rfl) (fun _ _ _ h => h) (Or.inl ⟨by rfl, ?_⟩) (by assumption) ?_
              rotate_left 1
              · (intro w hSw; (try dsimp only at hSw); go_simp) <;> with_reducible rfl
              try simp only [Act.put, List.getElem_toArray, List.getElem_cons_zero, List.getElem_cons_succ, List.setIfInBounds_toArray, List.set_cons_zero, List.set_cons_succ]
              refine wpAnyH_take (i := 3) (v := ?_) rfl (by kernel_rfl) (by kernel_rfl) (by kernel_rfl) (fun _ _ _ h => h) (Or.inl ⟨by rfl, ?_⟩) (by assumption) ?_
              rotate_left 1
              · (intro w hSw; (try dsimp only at hSw); go_simp) <;> with_reducible rfl
              try simp only [Act.put, List.getElem_toArray, List.getElem_cons_zero, List.getElem_cons_succ, List.setIfInBounds_toArray, List.set_cons_zero, List.set_cons_succ]
              refine wpAnyH_take (i := 5) (v := ?_) rfl (by kernel_rfl) (by kernel_rfl) (by kernel_rfl) (fun _ _ _ h => h) (Or.inl ⟨by rfl, ?_⟩) (by assumption) ?_
              rotate_left 1
              · (intro w hSw; (try dsimp only at hSw); go_simp) <;> with_reducible rfl
              try simp only [Act.put, List.getElem_toArray, List.getElem_cons_zero, List.getElem_cons_succ, List.setIfInBounds_toArray, List.set_cons_zero, List.set_cons_succ]
              refine wpAnyH_take (i := 6) (v := ?_) rfl (by kernel_rfl) (by kernel_rfl) (by kernel_rfl) (fun _ _ _ h => h) (Or.inl ⟨by rfl, ?_⟩) (by assumption) ?_
              rotate_left 1
              · (intro w hSw; (try dsimp only at hSw); go_simp) <;> with_reducible rfl
              try simp only [Act.put, List.getElem_toArray, List.getElem_cons_zero, List.getElem_cons_succ, List.setIfInBounds_toArray, List.set_cons_zero, List.set_cons_succ]
              refine wpAnyH_take (i := 9) (v := ?_) rfl (by kernel_rfl) (by kernel_rfl) (by kernel_rfl) (fun _ _ _ h => h) (Or.inl ⟨by rfl, ?_⟩) (by assumption) ?_
              rotate_left 1
              · (intro w hSw; (try dsimp only at hSw); go_simp) <;> with_reducible rfl
              try simp only [Act.put, List.getElem_toArray, List.getElem_cons_zero, List.getElem_cons_succ, List.setIfInBounds_toArray, List.set_cons_zero, List.set_cons_succ]
              refine wpAnyH_take (i := 10) (v := ?_) rfl (by kernel_rfl) (by kernel_rfl) (by kernel_rfl) (fun _ _ _ h => h) (Or.inl ⟨by rfl, ?_⟩) (by assumption) ?_
              rotate_left 1
              · (intro w hSw; (try dsimp only at hSw); go_simp) <;> with_reducible rfl
              try simp only [Act.put, List.getElem_toArray, List.getElem_cons_zero, List.getElem_cons_succ, List.setIfInBounds_toArray, List.set_cons_zero, List.set_cons_succ]
              refine wpAnyH_take (i := 11) (v := ?_) rfl (by kernel_rfl) (by kernel_rfl) (by kernel_rfl) (fun _ _ _ h => h) (Or.inl ⟨by rfl, ?_⟩) (by assumption) ?_
              rotate_left 1
              · (intro w hSw; (try dsimp only at hSw); go_simp) <;> with_reducible rfl
              try simp only [Act.put, List.getElem_toArray, List.getElem_cons_zero, List.getElem_cons_succ, List.setIfInBounds_toArray, List.set_cons_zero, List.set_cons_succ]
              obtain ⟨wc, hwc⟩ : ∃ wc, wo.drew = wc := ⟨_, rfl⟩
              have HW := Lib.hid (show NewW wo wc from by rw [← hwc]; exact (Ch.refl _ wo).drew)
              rw [hwc] at hHeld ⊢
              clear hwc
              refine wpAnyH_ready (rs := [0, 7]) (by kernel_rfl) (by simp) ?_
              refine (AllReadyH.cons rfl (fun K hK => ?_) (AllReadyH.cons rfl (fun K hK => ?_) AllReadyH.nil))
              · go_simp
                have HW2 := Lib.hid (show NewW wo (wc.alloc (.cells #[] 3)) from HW.out.alloc _)
                have HO := Lib.hid (own_fresh (w := wc) HW.out.size)
                refine hK.out _ _ (HST.out _ HW2.out) (fun hHeld2 => ?_)
                clear hK K hHeld
                try simp only [Act.put, List.getElem_toArray, List.getElem_cons_zero, List.getElem_cons_succ, List.setIfInBounds_toArray, List.set_cons_zero, List.set_cons_succ]
                have HW := HW2
                clear HW2
                generalize wc.alloc (.cells #[] 3) = w1_0 at *
                generalize wc.heap.size = g0 at *
                have hHeld := hHeld2
                clear hHeld2
                refine wpAnyH_ready (rs := [4, 7]) (by kernel_rfl) (by simp) ?_
                refine (AllReadyH.cons rfl (fun K hK => ?_) (AllReadyH.cons rfl (fun K hK => ?_) AllReadyH.nil))
                · refine wp_append_any _ (.tmp 31) (.tmp 34) _ rfl wo.heap.size 3 i1 _ 1 8 Tryd.underlying31 hi1 hy0 hy1 hy2 rfl (by omega) _ 0 [] rfl HO.out wo.heap.size _ a _ ((ints L).take a) rfl (by first | exact HRT.out _ HW.out | simpa using HRT.out _ HW.out) (fun u hu => ints_one L u (List.mem_of_mem_take hu)) (by simp only [maxLen]; omega) (by omega) HW.out.size ?_
                  intro v4 w2_4 hown hg hat
                  have HW2 := Lib.hid (show NewW wo w2_4 from HW.out.grown hg (fun g hg => .inr (own_lt HO.out hg).1))
                  have HO2 := Lib.hid (show w2_4.ownsRow wo.heap.size 3 1 v4 a ((ints L).take a) from by simpa using hown)
                  refine hK.out _ _ (HST.out _ HW2.out) (fun hHeld2 => ?_)
                  clear hK K hHeld
                  try simp only [Act.put, List.getElem_toArray, List.getElem_cons_zero, List.getElem_cons_succ, List.setIfInBounds_toArray, List.set_cons_zero, List.set_cons_succ]
                  have HW := HW2
                  have HO := HO2
                  clear HW2 HO2 hown hg hat
                  have hHeld := hHeld2
                  clear hHeld2
                  refine wpAnyH_ready (rs := [7]) (by kernel_rfl) (by simp) ?_
                  refine (AllReadyH.cons rfl (fun K hK => ?_) AllReadyH.nil)
                  go_simp
                  have HW2 := Lib.hid (show NewW wo (w2_4.alloc (.cells #[.int .i64 x] 3)) from HW.out.alloc _)
                  have B7 := Lib.hid (Blk.new w2_4 3 #[.int .i64 x])
                  have HNE := Lib.hid (show _ ≠ some w2_4.heap.size from fun e => by have := (own_lt HO.out e).2; omega)
                  have HO2 := Lib.hid (own_ch HO.out ((Ch.refl (fun _ => False) w2_4).alloc (.cells #[.int .i64 x] 3)) (fun _ _ h => h))
                  refine hK.out _ _ (HST.out _ HW2.out) (fun hHeld2 => ?_)
                  clear hK K hHeld
                  try simp only [Act.put, List.getElem_toArray, List.getElem_cons_zero, List.getElem_cons_succ, List.setIfInBounds_toArray, List.set_cons_zero, List.set_cons_succ]
                  have HO := HO2
                  clear HO2
                  have HW := HW2
                  clear HW2
                  generalize w2_4.alloc (.cells #[.int .i64 x] 3) = w3_7 at *
                  generalize w2_4.heap.size = g7 at *
                  have hHeld := hHeld2
                  clear hHeld2
                  refine wpAnyH_ready (rs := [8]) (by kernel_rfl) (by simp) ?_
                  refine (AllReadyH.cons rfl (fun K hK => ?_) AllReadyH.nil)
                  refine wp_append_any _ (.tmp 35) (.tmp 38) _ rfl wo.heap.size 3 i1 _ 1 8 Tryd.underlying31 hi1 hy0 hy1 hy2 rfl (by omega) _ a ((ints L).take a) rfl HO.out (g7 + 1) _ 1 _ [.int .i64 x] rfl (reads_blk B7.out) (by simp [Value.oneCell']) (by simp only [maxLen]; omega) (by omega) HW.out.size ?_
                  intro v8 w4_8 hown hg hat
                  have HW2 := Lib.hid (show NewW wo w4_8 from HW.out.grown hg (fun g hg => .inr (own_lt HO.out hg).1))
                  have HO2 := Lib.hid (show w4_8.ownsRow wo.heap.size 3 1 v8 (a + 1) ((ints L).take a ++ [.int .i64 x]) from by simpa using hown)
                  refine hK.out _ _ (HST.out _ HW2.out) (fun hHeld2 => ?_)
                  clear hK K hHeld
                  try simp only [Act.put, List.getElem_toArray, List.getElem_cons_zero, List.getElem_cons_succ, List.setIfInBounds_toArray, List.set_cons_zero, List.set_cons_succ]
                  have HW := HW2
                  have HO := HO2
                  clear HW2 HO2 hown hg hat
                  have hHeld := hHeld2
                  clear hHeld2
                  refine wpAnyH_ready (rs := [12]) (by kernel_rfl) (by simp) ?_
                  refine (AllReadyH.cons rfl (fun K hK => ?_) AllReadyH.nil)
                  refine wp_append_any _ (.tmp 39) (.tmp 42) _ rfl wo.heap.size 3 i1 _ 1 8 Tryd.underlying31 hi1 hy0 hy1 hy2 rfl (by omega) _ (a + 1) ((ints L).take a ++ [Value.int IntKind.i64 x]) rfl HO.out wo.heap.size _ 0 _ ((ints L).drop a) rfl (by first | exact HRD.out _ HW.out | simpa using HRD.out _ HW.out) (fun u hu => ints_one L u (List.mem_of_mem_drop hu)) (by simp only [maxLen]; omega) (by omega) HW.out.size ?_
                  intro v12 w5_12 hown hg hat
                  have HW2 := Lib.hid (show NewW wo w5_12 from HW.out.grown hg (fun g hg => .inr (own_lt HO.out hg).1))
                  have HO2 := Lib.hid (show w5_12.ownsRow wo.heap.size 3 1 v12 (a + 1 + 0) ((ints L).take a ++ [.int .i64 x] ++ (ints L).drop a) from by simpa using hown)
                  refine hK.out _ _ (HST.out _ HW2.out) (fun hHeld2 => ?_)
                  clear hK K hHeld
                  try simp only [Act.put, List.getElem_toArray, List.getElem_cons_zero, List.getElem_cons_succ, List.setIfInBounds_toArray, List.set_cons_zero, List.set_cons_succ]
                  have HW := HW2
                  have HO := HO2
                  clear HW2 HO2 hown hg hat
                  have hHeld := hHeld2
                  clear hHeld2
                  refine wpAnyH_take (i := 13) (v := ?_) rfl (by kernel_rfl) (by kernel_rfl) (by kernel_rfl) (fun _ _ _ h => h) (Or.inl ⟨by rfl, ?_⟩) (by assumption) ?_
                  rotate_left 1
                  · (intro w hSw; (try dsimp only at hSw); go_simp) <;> with_reducible rfl
                  try simp only [Act.put, List.getElem_toArray, List.getElem_cons_zero, List.getElem_cons_succ, List.setIfInBounds_toArray, List.set_cons_zero, List.set_cons_succ]
                  refine wpAnyH_done (by kernel_rfl) ?_ _
                  go_wp2_with fail
                  refine ⟨⟨a + 1, by omega, by go_num, ?_, (HCB.out.trans' HDO.out).trans' HW.out⟩, by simp [intOf]; omega⟩
                  have hf := own_mono HO.out (Nat.le_trans HCB.out.size HDO.out.size)
                  rw [HNX.out, ← HIS.out, HLE.out]
                  rw [ints_cut L x a]
                  rw [show a + 1 = a + 1 + 0 from by omega]
                  exact hf
                · go_simp
                  have HW2 := Lib.hid (show NewW wo (w1_0.alloc (.cells #[.int .i64 x] 3)) from HW.out.alloc _)
                  have B7 := Lib.hid (Blk.new w1_0 3 #[.int .i64 x])
                  have HNE := Lib.hid (show _ ≠ some w1_0.heap.size from fun e => by have := (own_lt HO.out e).2; omega)
                  have HO2 := Lib.hid (own_ch HO.out ((Ch.refl (fun _ => False) w1_0).alloc (.cells #[.int .i64 x] 3)) (fun _ _ h => h))
                  refine hK.out _ _ (HST.out _ HW2.out) (fun hHeld2 => ?_)
                  clear hK K hHeld
                  try simp only [Act.put, List.getElem_toArray, List.getElem_cons_zero, List.getElem_cons_succ, List.setIfInBounds_toArray, List.set_cons_zero, List.set_cons_succ]
                  have HO := HO2
                  clear HO2
                  have HW := HW2
                  clear HW2
                  generalize w1_0.alloc (.cells #[.int .i64 x] 3) = w2_7 at *
                  generalize w1_0.heap.size = g7 at *
                  have hHeld := hHeld2
                  clear hHeld2
                  refine wpAnyH_ready (rs := [4]) (by kernel_rfl) (by simp) ?_
                  refine (AllReadyH.cons rfl (fun K hK => ?_) AllReadyH.nil)
                  refine wp_append_any _ (.tmp 31) (.tmp 34) _ rfl wo.heap.size 3 i1 _ 1 8 Tryd.underlying31 hi1 hy0 hy1 hy2 rfl (by omega) _ 0 [] rfl HO.out wo.heap.size _ a _ ((ints L).take a) rfl (by first | exact HRT.out _ HW.out | simpa using HRT.out _ HW.out) (fun u hu => ints_one L u (List.mem_of_mem_take hu)) (by simp only [maxLen]; omega) (by omega) HW.out.size ?_
                  intro v4 w3_4 hown hg hat
                  have HW2 := Lib.hid (show NewW wo w3_4 from HW.out.grown hg (fun g hg => .inr (own_lt HO.out hg).1))
                  have HO2 := Lib.hid (show w3_4.ownsRow wo.heap.size 3 1 v4 a ((ints L).take a) from by simpa using hown)
                  have B72 := Lib.hid (B7.out.grown hg (fun e => HNE.out e.symm))
                  have HNE2 := Lib.hid (show v4.ownBlock ≠ some g7 from fun e => by rcases hat with h | h; exact HNE.out (h ▸ e); rw [h] at e; injection e with e; have := B7.out.lt; omega)
                  refine hK.out _ _ (HST.out _ HW2.out) (fun hHeld2 => ?_)
                  clear hK K hHeld
                  try simp only [Act.put, List.getElem_toArray, List.getElem_cons_zero, List.getElem_cons_succ, List.setIfInBounds_toArray, List.set_cons_zero, List.set_cons_succ]
                  have B7 := B72
                  have HNE := HNE2
                  clear B72 HNE2
                  have HW := HW2
                  have HO := HO2
                  clear HW2 HO2 hown hg hat
                  have hHeld := hHeld2
                  clear hHeld2
                  refine wpAnyH_ready (rs := [8]) (by kernel_rfl) (by simp) ?_
                  refine (AllReadyH.cons rfl (fun K hK => ?_) AllReadyH.nil)
                  refine wp_append_any _ (.tmp 35) (.tmp 38) _ rfl wo.heap.size 3 i1 _ 1 8 Tryd.underlying31 hi1 hy0 hy1 hy2 rfl (by omega) _ a ((ints L).take a) rfl HO.out (g7 + 1) _ 1 _ [.int .i64 x] rfl (reads_blk B7.out) (by simp [Value.oneCell']) (by simp only [maxLen]; omega) (by omega) HW.out.size ?_
                  intro v8 w4_8 hown hg hat
                  have HW2 := Lib.hid (show NewW wo w4_8 from HW.out.grown hg (fun g hg => .inr (own_lt HO.out hg).1))
                  have HO2 := Lib.hid (show w4_8.ownsRow wo.heap.size 3 1 v8 (a + 1) ((ints L).take a ++ [.int .i64 x]) from by simpa using hown)
                  refine hK.out _ _ (HST.out _ HW2.out) (fun hHeld2 => ?_)
                  clear hK K hHeld
                  try simp only [Act.put, List.getElem_toArray, List.getElem_cons_zero, List.getElem_cons_succ, List.setIfInBounds_toArray, List.set_cons_zero, List.set_cons_succ]
                  have HW := HW2
                  have HO := HO2
                  clear HW2 HO2 hown hg hat
                  have hHeld := hHeld2
                  clear hHeld2
                  refine wpAnyH_ready (rs := [12]) (by kernel_rfl) (by simp) ?_
                  refine (AllReadyH.cons rfl (fun K hK => ?_) AllReadyH.nil)
                  refine wp_append_any _ (.tmp 39) (.tmp 42) _ rfl wo.heap.size 3 i1 _ 1 8 Tryd.underlying31 hi1 hy0 hy1 hy2 rfl (by omega) _ (a + 1) ((ints L).take a ++ [Value.int IntKind.i64 x]) rfl HO.out wo.heap.size _ 0 _ ((ints L).drop a) rfl (by first | exact HRD.out _ HW.out | simpa using HRD.out _ HW.out) (fun u hu => ints_one L u (List.mem_of_mem_drop hu)) (by simp only [maxLen]; omega) (by omega) HW.out.size ?_
                  intro v12 w5_12 hown hg hat
                  have HW2 := Lib.hid (show NewW wo w5_12 from HW.out.grown hg (fun g hg => .inr (own_lt HO.out hg).1))
                  have HO2 := Lib.hid (show w5_12.ownsRow wo.heap.size 3 1 v12 (a + 1 + 0) ((ints L).take a ++ [.int .i64 x] ++ (ints L).drop a) from by simpa using hown)
                  refine hK.out _ _ (HST.out _ HW2.out) (fun hHeld2 => ?_)
                  clear hK K hHeld
                  try simp only [Act.put, List.getElem_toArray, List.getElem_cons_zero, List.getElem_cons_succ, List.setIfInBounds_toArray, List.set_cons_zero, List.set_cons_succ]
                  have HW := HW2
                  have HO := HO2
                  clear HW2 HO2 hown hg hat
                  have hHeld := hHeld2
                  clear hHeld2
                  refine wpAnyH_take (i := 13) (v := ?_) rfl (by kernel_rfl) (by kernel_rfl) (by kernel_rfl) (fun _ _ _ h => h) (Or.inl ⟨by rfl, ?_⟩) (by assumption) ?_
                  rotate_left 1
                  · (intro w hSw; (try dsimp only at hSw); go_simp) <;> with_reducible rfl
                  try simp only [Act.put, List.getElem_toArray, List.getElem_cons_zero, List.getElem_cons_succ, List.setIfInBounds_toArray, List.set_cons_zero, List.set_cons_succ]
                  refine wpAnyH_done (by kernel_rfl) ?_ _
                  go_wp2_with fail
                  refine ⟨⟨a + 1, by omega, by go_num, ?_, (HCB.out.trans' HDO.out).trans' HW.out⟩, by simp [intOf]; omega⟩
                  have hf := own_mono HO.out (Nat.le_trans HCB.out.size HDO.out.size)
                  rw [HNX.out, ← HIS.out, HLE.out]
                  rw [ints_cut L x a]
                  rw [show a + 1 = a + 1 + 0 from by omega]
                  exact hf
              · go_simp
                have HW2 := Lib.hid (show NewW wo (wc.alloc (.cells #[.int .i64 x] 3)) from HW.out.alloc _)
                have B7 := Lib.hid (Blk.new wc 3 #[.int .i64 x])
                refine hK.out _ _ (HST.out _ HW2.out) (fun hHeld2 => ?_)
                clear hK K hHeld
                try simp only [Act.put, List.getElem_toArray, List.getElem_cons_zero, List.getElem_cons_succ, List.setIfInBounds_toArray, List.set_cons_zero, List.set_cons_succ]
                have HW := HW2
                clear HW2
                generalize wc.alloc (.cells #[.int .i64 x] 3) = w1_7 at *
                generalize wc.heap.size = g7 at *
                have hHeld := hHeld2
                clear hHeld2
                refine wpAnyH_ready (rs := [0]) (by kernel_rfl) (by simp) ?_
                refine (AllReadyH.cons rfl (fun K hK => ?_) AllReadyH.nil)
                go_simp
                have HW2 := Lib.hid (show NewW wo (w1_7.alloc (.cells #[] 3)) from HW.out.alloc _)
                have HO := Lib.hid (own_fresh (w := w1_7) HW.out.size)
                have HNE := Lib.hid (show (Value.slice (some ⟨w1_7.heap.size, 0, none⟩) 0 0).ownBlock ≠ some g7 from fun e => by simp [Value.ownBlock] at e; have := B7.out.lt; omega)
                have B72 := Lib.hid (B7.out.alloc (.cells #[] 3))
                refine hK.out _ _ (HST.out _ HW2.out) (fun hHeld2 => ?_)
                clear hK K hHeld
                try simp only [Act.put, List.getElem_toArray, List.getElem_cons_zero, List.getElem_cons_succ, List.setIfInBounds_toArray, List.set_cons_zero, List.set_cons_succ]
                have B7 := B72
                clear B72
                have HW := HW2
                clear HW2
                generalize w1_7.alloc (.cells #[] 3) = w2_0 at *
                generalize w1_7.heap.size = g0 at *
                have hHeld := hHeld2
                clear hHeld2
                refine wpAnyH_ready (rs := [4]) (by kernel_rfl) (by simp) ?_
                refine (AllReadyH.cons rfl (fun K hK => ?_) AllReadyH.nil)
                refine wp_append_any _ (.tmp 31) (.tmp 34) _ rfl wo.heap.size 3 i1 _ 1 8 Tryd.underlying31 hi1 hy0 hy1 hy2 rfl (by omega) _ 0 [] rfl HO.out wo.heap.size _ a _ ((ints L).take a) rfl (by first | exact HRT.out _ HW.out | simpa using HRT.out _ HW.out) (fun u hu => ints_one L u (List.mem_of_mem_take hu)) (by simp only [maxLen]; omega) (by omega) HW.out.size ?_
                intro v4 w3_4 hown hg hat
                have HW2 := Lib.hid (show NewW wo w3_4 from HW.out.grown hg (fun g hg => .inr (own_lt HO.out hg).1))
                have HO2 := Lib.hid (show w3_4.ownsRow wo.heap.size 3 1 v4 a ((ints L).take a) from by simpa using hown)
                have B72 := Lib.hid (B7.out.grown hg (fun e => HNE.out e.symm))
                have HNE2 := Lib.hid (show v4.ownBlock ≠ some g7 from fun e => by rcases hat with h | h; exact HNE.out (h ▸ e); rw [h] at e; injection e with e; have := B7.out.lt; omega)
                refine hK.out _ _ (HST.out _ HW2.out) (fun hHeld2 => ?_)
                clear hK K hHeld
                try simp only [Act.put, List.getElem_toArray, List.getElem_cons_zero, List.getElem_cons_succ, List.setIfInBounds_toArray, List.set_cons_zero, List.set_cons_succ]
                have B7 := B72
                have HNE := HNE2
                clear B72 HNE2
                have HW := HW2
                have HO := HO2
                clear HW2 HO2 hown hg hat
                have hHeld := hHeld2
                clear hHeld2
                refine wpAnyH_ready (rs := [8]) (by kernel_rfl) (by simp) ?_
                refine (AllReadyH.cons rfl (fun K hK => ?_) AllReadyH.nil)
                refine wp_append_any _ (.tmp 35) (.tmp 38) _ rfl wo.heap.size 3 i1 _ 1 8 Tryd.underlying31 hi1 hy0 hy1 hy2 rfl (by omega) _ a ((ints L).take a) rfl HO.out (g7 + 1) _ 1 _ [.int .i64 x] rfl (reads_blk B7.out) (by simp [Value.oneCell']) (by simp only [maxLen]; omega) (by omega) HW.out.size ?_
                intro v8 w4_8 hown hg hat
                have HW2 := Lib.hid (show NewW wo w4_8 from HW.out.grown hg (fun g hg => .inr (own_lt HO.out hg).1))
                have HO2 := Lib.hid (show w4_8.ownsRow wo.heap.size 3 1 v8 (a + 1) ((ints L).take a ++ [.int .i64 x]) from by simpa using hown)
                refine hK.out _ _ (HST.out _ HW2.out) (fun hHeld2 => ?_)
                clear hK K hHeld
                try simp only [Act.put, List.getElem_toArray, List.getElem_cons_zero, List.getElem_cons_succ, List.setIfInBounds_toArray, List.set_cons_zero, List.set_cons_succ]
                have HW := HW2
                have HO := HO2
                clear HW2 HO2 hown hg hat
                have hHeld := hHeld2
                clear hHeld2
                refine wpAnyH_ready (rs := [12]) (by kernel_rfl) (by simp) ?_
                refine (AllReadyH.cons rfl (fun K hK => ?_) AllReadyH.nil)
                refine wp_append_any _ (.tmp 39) (.tmp 42) _ rfl wo.heap.size 3 i1 _ 1 8 Tryd.underlying31 hi1 hy0 hy1 hy2 rfl (by omega) _ (a + 1) ((ints L).take a ++ [Value.int IntKind.i64 x]) rfl HO.out wo.heap.size _ 0 _ ((ints L).drop a) rfl (by first | exact HRD.out _ HW.out | simpa using HRD.out _ HW.out) (fun u hu => ints_one L u (List.mem_of_mem_drop hu)) (by simp only [maxLen]; omega) (by omega) HW.out.size ?_
                intro v12 w5_12 hown hg hat
                have HW2 := Lib.hid (show NewW wo w5_12 from HW.out.grown hg (fun g hg => .inr (own_lt HO.out hg).1))
                have HO2 := Lib.hid (show w5_12.ownsRow wo.heap.size 3 1 v12 (a + 1 + 0) ((ints L).take a ++ [.int .i64 x] ++ (ints L).drop a) from by simpa using hown)
                refine hK.out _ _ (HST.out _ HW2.out) (fun hHeld2 => ?_)
                clear hK K hHeld
                try simp only [Act.put, List.getElem_toArray, List.getElem_cons_zero, List.getElem_cons_succ, List.setIfInBounds_toArray, List.set_cons_zero, List.set_cons_succ]
                have HW := HW2
                have HO := HO2
                clear HW2 HO2 hown hg hat
                have hHeld := hHeld2
                clear hHeld2
                refine wpAnyH_take (i := 13) (v := ?_) rfl (by kernel_rfl) (by kernel_rfl) (by kernel_rfl) (fun _ _ _ h => h) (Or.inl ⟨by rfl, ?_⟩) (by assumption) ?_
                rotate_left 1
                · (intro w hSw; (try dsimp only at hSw); go_simp) <;> with_reducible rfl
                try simp only [Act.put, List.getElem_toArray, List.getElem_cons_zero, List.getElem_cons_succ, List.setIfInBounds_toArray, List.set_cons_zero, List.set_cons_succ]
                refine wpAnyH_done (by kernel_rfl) ?_ _
                go_wp2_with fail
                refine ⟨⟨a + 1, by omega, by go_num, ?_, (HCB.out.trans' HDO.out).trans' HW.out⟩, by simp [intOf]; omega⟩
                have hf := own_mono HO.out (Nat.le_trans HCB.out.size HDO.out.size)
                rw [HNX.out, ← HIS.out, HLE.out]
                rw [ints_cut L x a]
                rw [show a + 1 = a + 1 + 0 from by omega]
                exact hf
    · obtain rfl : k = n := by omega
      have hft : (N.take k).map Prod.fst = N.map Prod.fst := by rw [← HN.out, List.take_length]
      rw [hft] at hO
      have HO2 := Lib.hid hO
      have HC2 := Lib.hid hC
      clear hO hC hft
      go_wp2_with fail
      go_ret
      exact ⟨A7, q7, rfl, HO2.out, HC2.out⟩
end Go.Proofs.YtfcdplfnhjbdnabDoor
