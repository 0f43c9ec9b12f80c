/- Edges: the walk. -/
import Derived.Test.YtfcdplfnhjbdnabDoorEp
import Derived.Deep.RegionHeld3
import Derived.Deep.RegionWith
namespace Go.Proofs.YtfcdplfnhjbdnabDoor
open Go.RowKit Go.Sort
set_option linter.unusedVariables false

theorem own_mono {w : World} {B B' size n : Nat} {e : TypeId} {v : Value} {xs : List Value} (h : w.ownsRow B e size v n xs) (hB : B' ≤ B) : w.ownsRow B' e size v n xs := by
  refine ⟨h.1, ?_⟩
  rcases h.2 with h2 | ⟨g, cap, cur, rfl, hg, r⟩
  · exact .inl h2
  · exact .inr ⟨g, cap, cur, rfl, Nat.le_trans hB hg, r⟩
theorem own_own_ne {w : World} {B B' s s' n n' : Nat} {e e' : TypeId} {v v' : Value} {xs xs' : List Value} (h : w.ownsRow B e s v n xs) (h' : w.ownsRow B' e' s' v' n' xs') (hne : e ≠ e') (k : Nat) (hk : v.ownBlock = some k) : v'.ownBlock ≠ some k := by
  rcases h'.2 with ⟨rfl, _⟩ | ⟨g, cap, cur, rfl, _, hh, _⟩
  · simp [Value.ownBlock]
  · intro he
    have : g = k := by simpa [Value.ownBlock] using he
    subst this
    exact own_blk_ne h (show Blk w g e' cur from hh) hne hk
theorem edge_info : (Tryd.prog.info? 41).map (fun i => (i.zero, i.size, i.bytes)) = some (some (.agg #[.int .i64 0, .int .i64 0]), 2, 16) := by kernel_rfl
set_option maxHeartbeats 8000000 in
theorem edges_any {w : World} {B b : Nat} {l : List Nd} {v : Value} (h : GM w B b l v) :
    Calls Tryd.prog 17 #[.pointer (some ⟨b, 0, none⟩)] w fun e w' => ∃ A c, e = .returned (.slice A (edgesG l).length c) ∧ w'.ownsRow w.heap.size 41 2 (.slice A (edgesG l).length c) (edgesG l).length (flatE (edgesG l)) ∧ NewW w w' := by
  obtain ⟨A, q, rfl⟩ := own_form h.own
  have h64 := h.ok.len
  have HND := Lib.hid (nodes_any h)
  have HH := Lib.hid h
  have HFI := Lib.hid (fun (w' : World) (hc : Ch (fun _ => False) w w') id => find_any (h.new_ hc) id)
  obtain ⟨i1, hi1, hy0, hy1, hy2⟩ := info_parts int_info
  obtain ⟨i2, hi2, hz0, hz1, hz2⟩ := info_parts edge_info
  obtain ⟨N, hN⟩ : ∃ N, sortI (l.map Nd.id) = N := ⟨_, rfl⟩
  have HNM := Lib.hid (show ∀ x, x ∈ N → ∃ (i : Nat) (p : Nd), idxOf l x = i ∧ l[i]? = some p from fun x hx => by
    rw [← hN] at hx
    obtain ⟨p, hp, rfl⟩ := List.mem_map.1 (List.mem_mergeSort.1 hx)
    rcases idx_cases l p.id with ⟨_, hno⟩ | ⟨i, p', hi, hp', _⟩
    · exact absurd rfl (hno p hp)
    · exact ⟨i, p', hi, hp'⟩)
  have HEN := Lib.hid (show edgesK l N = edgesG l from by rw [← hN]; rfl)
  have HNL := Lib.hid (show N.length = l.length from by rw [← hN, List.length_mergeSort, List.length_map])
  rw [hN] at HND
  clear h hN
  generalize hn : l.length = n at *
  have HN := Lib.hid hn
  clear hn
  have hmax : (n : Int) ≤ 64 := by omega
  go_enter Tryd.func17, Tryd.ntmps17
  go_wp2_with fail
  refine HND.out.mono ?_
  rintro e w2 ⟨A2, c2, rfl, ho, hN2⟩
  dsimp only
  have HO2 := Lib.hid ho
  have HN2 := Lib.hid hN2
  clear ho hN2 HND
  go_wp2_with fail
  go_loopw [3, 15] (fun o i w' => ∃ k : Nat, k ≤ n ∧ i = .int .i64 k ∧ w'.ownsRow w2.heap.size 41 2 o (edgesK l (N.take k)).length (flatE (edgesK l (N.take k))) ∧ NewW w2 w') (fun _ i _ => n - (intOf i).toNat)
  case atStart => exact ⟨0, by omega, rfl, ⟨rfl, .inl ⟨rfl, rfl⟩⟩, Ch.refl _ _⟩
  case round =>
    obtain ⟨k, hk, rfl, hO, hC⟩ := hrel
    obtain ⟨A', c', rfl⟩ := own_form hO
    have HO := Lib.hid hO
    have HC := Lib.hid hC
    obtain ⟨wo, hwo⟩ : ∃ wo, wo = wr := ⟨_, rfl⟩
    subst hwo
    by_cases hlt : k < n
    · obtain ⟨x, hx⟩ := some_of_lt (L := N) (i := k) (by rw [HNL.out]; exact hlt)
      obtain ⟨g2, rfl, hcell⟩ := row_kp HO2.out (KpT.new_ hC) hx
      obtain ⟨i, p, hi, hp⟩ := HNM.out x (mem_of_some hx)
      have hil : i < n := Nat.lt_of_lt_of_le (lt_of_some hp) (Nat.le_of_eq HN.out)
      have hilI : (i : Int) < (n : Int) := by omega
      have hgm := HH.out.new_ (HN2.out.trans' hC)
      obtain ⟨g, q', hv, r0, r1, r2⟩ := hgm.at_ hp
      injection hv with hA hn hq
      subst hA
      have c0 := hgm.c0
      have HFX := Lib.hid (fun (w' : World) (hc : Ch (fun _ => False) wo w') => HFI.out w' ((HN2.out.trans' hC).trans' hc) x)
      rw [hi] at HFX
      have HTK := Lib.hid (show edgesK l (N.take (k + 1)) = edgesK l (N.take k) ++ (tosOf l x).map fun b => (x, b) from by
        rw [List.take_add_one, hx]
        exact edgesK_snoc l _ x)
      have HTO := Lib.hid (show tosOf l x = sortI (tosK l p.to l.length) from by unfold tosOf; rw [hi, Int.toNat_natCast, toAt_of hp])
      have HP64 := Lib.hid (bit64 HH.out.ok (mem_of_some hp))
      have HST := Lib.hid (fun w' (hc : Ch (fun _ => False) wo w') => And.intro (new_cell hc c0) (And.intro (new_cell hc r0) (And.intro (new_cell hc r1) (new_cell hc r2))))
      have HGM := Lib.hid hgm
      clear hO hC hx hi hp hn hq hgm
      obtain ⟨pi, ps, pt⟩ := p
      simp only at r0 r1 r2 HTO HP64 HST
      go_wp2_with fail
      refine wp_region_held_drew (S := (fun w' => w'.cell? ⟨b, 0, none⟩ = some (.slice (some ⟨g, 0, none⟩) n q) ∧ w'.cell? ⟨g, i * 3, none⟩ = some (.int .i64 pi) ∧ w'.cell? ⟨g, i * 3 + 1, none⟩ = some (.int .i64 ps) ∧ w'.cell? ⟨g, i * 3 + 2, none⟩ = some (.int .u64 pt))) (by kernel_rfl) (HST.out _ (by repeat (first | with_reducible exact Ch.refl _ _ | with_reducible refine Ch.drew ?_ | with_reducible refine Ch.alloc ?_ _))) (fun hHeld => ?_)
      refine wpAnyH_take (i := 0) (v := ?_) rfl (by kernel_rfl) (by kernel_rfl) (by kernel_rfl) (fun _ _ _ h => h) (Or.inl ⟨by rfl, ?_⟩) (by assumption) ?_
      rotate_left 1
      · (intro w hSw; (try dsimp only at hSw); go_simp) <;> with_reducible rfl
      try simp only [Act.put, List.getElem_toArray, List.getElem_cons_zero, List.setIfInBounds_toArray, List.set_cons_zero, List.set_cons_succ]
      refine wpAnyH_take (i := 1) (v := ?_) rfl (by kernel_rfl) (by kernel_rfl) (by kernel_rfl) (fun _ _ _ h => h) (Or.inl ⟨by rfl, ?_⟩) (by assumption) ?_
      rotate_left 1
      · (intro w hSw; (try dsimp only at hSw); go_simp) <;> with_reducible rfl
      try simp only [Act.put, List.getElem_toArray, List.getElem_cons_zero, List.getElem_cons_succ, List.setIfInBounds_toArray, List.set_cons_zero, List.set_cons_succ]
      refine wpAnyH_take (i := 2) (v := ?_) rfl (by kernel_rfl) (by kernel_rfl) (by kernel_rfl) (fun _ _ _ h => h) (Or.inl ⟨by rfl, ?_⟩) (by assumption) ?_
      rotate_left 1
      · (intro w hSw; (try dsimp only at hSw); go_simp) <;> with_reducible rfl
      try simp only [Act.put, List.getElem_toArray, List.getElem_cons_zero, List.getElem_cons_succ, List.setIfInBounds_toArray, List.set_cons_zero, List.set_cons_succ]
      refine wpAnyH_take (i := 3) (v := ?_) rfl (by kernel_rfl) (by kernel_rfl) (by kernel_rfl) (fun _ _ _ h => h) (Or.inl ⟨by rfl, ?_⟩) (by assumption) ?_
      rotate_left 1
      · (intro w hSw; (try dsimp only at hSw); go_simp) <;> with_reducible rfl
      try simp only [Act.put, List.getElem_toArray, List.getElem_cons_zero, List.getElem_cons_succ, List.setIfInBounds_toArray, List.set_cons_zero, List.set_cons_succ]
      refine wpAnyH_take (i := 4) (v := ?_) rfl (by kernel_rfl) (by kernel_rfl) (by kernel_rfl) (fun _ _ _ h => h) (Or.inl ⟨by rfl, ?_⟩) (by assumption) ?_
      rotate_left 1
      · (intro w hSw; (try dsimp only at hSw); go_simp) <;> with_reducible rfl
      try simp only [Act.put, List.getElem_toArray, List.getElem_cons_zero, List.getElem_cons_succ, List.setIfInBounds_toArray, List.set_cons_zero, List.set_cons_succ]
      refine wpAnyH_take (i := 5) (v := ?_) rfl (by kernel_rfl) (by kernel_rfl) (by kernel_rfl) (fun _ _ _ h => h) (Or.inl ⟨by rfl, ?_⟩) (by assumption) ?_
      rotate_left 1
      · (intro w hSw; (try dsimp only at hSw); go_simp) <;> with_reducible rfl
      try simp only [Act.put, List.getElem_toArray, List.getElem_cons_zero, List.getElem_cons_succ, List.setIfInBounds_toArray, List.set_cons_zero, List.set_cons_succ]
      refine wpAnyH_ready (rs := [6, 9]) (by kernel_rfl) (by simp) ?_
      refine AllReadyH.cons rfl (fun K hK => ?_) (AllReadyH.cons rfl (fun K hK => ?_) AllReadyH.nil)
      · go_simp
        go_at_call 34
        refine (HFX.out _ (by repeat (first | with_reducible exact Ch.refl _ _ | with_reducible refine Ch.drew ?_ | with_reducible refine Ch.alloc ?_ _))).mono ?_
        rintro e w5 ⟨rfl, hN5⟩
        have hN5 : Ch (fun _ => False) _ w5 := hN5
        dsimp only
        refine hK.out _ _ (HST.out _ (by refine Ch.trans' ?_ hN5; repeat (first | with_reducible exact Ch.refl _ _ | with_reducible refine Ch.drew ?_ | with_reducible refine Ch.alloc ?_ _))) (fun hHeldA => ?_)
        clear hK K hHeld
        try simp only [Act.put, List.getElem_toArray, List.getElem_cons_zero, List.getElem_cons_succ, List.setIfInBounds_toArray, List.set_cons_zero, List.set_cons_succ]
        refine wpAnyH_take (i := 7) (v := ?_) rfl (by kernel_rfl) (by kernel_rfl) (by kernel_rfl) (fun _ _ _ h => h) (Or.inl ⟨by rfl, ?_⟩) (by assumption) ?_
        rotate_left 1
        · (intro w hSw; (try dsimp only at hSw); go_simp) <;> with_reducible rfl
        try simp only [Act.put, List.getElem_toArray, List.getElem_cons_zero, List.getElem_cons_succ, List.setIfInBounds_toArray, List.set_cons_zero, List.set_cons_succ]
        refine wpAnyH_take (i := 8) (v := ?_) rfl (by kernel_rfl) (by kernel_rfl) (by kernel_rfl) (fun _ _ _ h => h) (Or.inl ⟨by rfl, ?_⟩) (by assumption) ?_
        rotate_left 1
        · (intro w hSw; (try dsimp only at hSw); go_simp) <;> with_reducible rfl
        try simp only [Act.put, List.getElem_toArray, List.getElem_cons_zero, List.getElem_cons_succ, List.setIfInBounds_toArray, List.set_cons_zero, List.set_cons_succ]
        refine wpAnyH_ready (rs := [9]) (by kernel_rfl) (by simp) ?_
        refine AllReadyH.cons rfl (fun K hK => ?_) AllReadyH.nil
        go_simp
        have HW5 := Lib.hid (show Ch (fun _ => False) wo w5 from ((Ch.refl (fun _ => False) wo).drew.trans' hN5))
        have HNZ := Lib.hid (HW5.out.alloc (.cells #[.int .i64 0, .int .i64 0, .int .u64 0] 57))
        have HBX := Lib.hid (show wo.heap.size ≤ w5.heap.size from HW5.out.size)
        have BZ := Lib.hid (Blk.new w5 57 #[.int .i64 0, .int .i64 0, .int .u64 0])
        refine hK.out _ _ (HST.out _ HNZ.out) (fun hHeldC => ?_)
        clear hK K hN5 hHeldA
        try simp only [Act.put, List.getElem_toArray, List.getElem_cons_zero, List.getElem_cons_succ, List.setIfInBounds_toArray, List.set_cons_zero, List.set_cons_succ]
        generalize w5.alloc (.cells #[.int .i64 0, .int .i64 0, .int .u64 0] 57) = wz at *
        generalize w5.heap.size = bx at *
        refine wpAnyH_ready (rs := [10]) (by kernel_rfl) (by simp) ?_
        refine AllReadyH.cons rfl (fun K hK => ?_) AllReadyH.nil
        have e0 : wz.cell? ⟨bx, 0, none⟩ = some (.int .i64 0) := by rw [BZ.out.cell]; rfl
        have e1 : wz.cell? ⟨bx, 1, none⟩ = some (.int .i64 0) := by rw [BZ.out.cell]; rfl
        have e2 : wz.cell? ⟨bx, 2, none⟩ = some (.int .u64 0) := by rw [BZ.out.cell]; rfl
        have f0 := BZ.out.frozen 0
        have f1 := BZ.out.frozen 1
        have f2 := BZ.out.frozen 2
        go_simp
        have HW6 := Lib.hid (((HNZ.out.setCell (p := ⟨bx, 0, none⟩) (.inr HBX.out) (.int .i64 pi)).setCell (p := ⟨bx, 1, none⟩) (.inr HBX.out) (.int .i64 ps)).setCell (p := ⟨bx, 2, none⟩) (.inr HBX.out) (.int .u64 pt))
        have HB6 := Lib.hid (((BZ.out.set_ 0 (.int .i64 pi)).set_ 1 (.int .i64 ps)).set_ 2 (.int .u64 pt))
        refine hK.out _ _ (HST.out _ HW6.out) (fun hHeldE => ?_)
        clear hK K e0 e1 e2 f0 f1 f2
        try simp only [Act.put, List.getElem_toArray, List.getElem_cons_zero, List.getElem_cons_succ, List.setIfInBounds_toArray, List.set_cons_zero, List.set_cons_succ]
        refine wpAnyH_done (by kernel_rfl) ?_ _
        have HB6 := Lib.hid (show Blk _ bx 57 #[.int .i64 pi, .int .i64 ps, .int .u64 pt] from by simpa using HB6.out)
        generalize ((wz.setCell ⟨bx, 0, none⟩ (.int .i64 pi)).setCell ⟨bx, 1, none⟩ (.int .i64 ps)).setCell ⟨bx, 2, none⟩ (.int .u64 pt) = w6 at *
        clear HNZ HBX BZ HFX HST r0 r1 r2 c0
        have HG6 := Lib.hid (HGM.out.new_ HW6.out)
        have c6 := HG6.out.c0
        have HC6 := Lib.hid (HC.out.trans' HW6.out)
        have HOE := Lib.hid (own_ch HO.out HW6.out (fun _ _ h => h))
        clear HW6 HO HC HGM
        go_wp2_with fail
        go_loopw [7, 33] (fun tv i w' => ∃ m : Nat, m ≤ n ∧ i = .int .i64 m ∧ w'.ownsRow w6.heap.size 3 1 tv (tosK l pt m).length (ints (tosK l pt m)) ∧ NewW w6 w') (fun _ i _ => n - (intOf i).toNat)
        case atStart => exact ⟨0, by omega, rfl, ⟨rfl, .inl ⟨rfl, rfl⟩⟩, Ch.refl _ _⟩
        case round =>
          obtain ⟨m, hm, rfl, hO, hC⟩ := hrel
          obtain ⟨At, ct, rfl⟩ := own_form hO
          have HCT := Lib.hid hC
          by_cases hlm : m < n
          · obtain ⟨y, hy⟩ := some_of_lt (L := l) (i := m) (by rw [HN.out]; exact hlm)
            have hlmI : (m : Int) < (n : Int) := by omega
            have hgm := HG6.out.new_ hC
            obtain ⟨s0, s1, s2⟩ := hgm.cel hy
            have c7 := hgm.c0
            have hVS := tosK_step (t := pt) hy
            have HHA := Lib.hid (fun w' => has_any pt m HP64.out (by omega) w')
            have hcb : NewW wr (wr.alloc (.cells #[.int .i64 y.id, .int .i64 y.st, .int .u64 y.to] 57)) := (Ch.refl _ wr).alloc _
            have BY := Lib.hid (Blk.new wr 57 #[.int .i64 y.id, .int .i64 y.st, .int .u64 y.to])
            have HCB := Lib.hid (hC.trans' hcb)
            have HOB := Lib.hid (own_ch hO hcb (fun _ _ h => h))
            have BX := Lib.hid ((HB6.out.ch hC (fun h => h)).ch hcb (fun h => h))
            obtain ⟨vb, hvb⟩ : ∃ vb, pt.testBit m = vb := ⟨_, rfl⟩
            rw [hvb] at HHA hVS
            have HVS := Lib.hid hVS
            have htl := tosK_len l pt m
            clear hC hO hy hvb hVS hcb hgm HCT
            generalize htn : (tosK l pt m).length = tn at *
            go_upto_region 10 with (fail)
            generalize wr.alloc (.cells #[.int .i64 y.id, .int .i64 y.st, .int .u64 y.to] 57) = wb at *
            generalize wr.heap.size = yb at *
            clear s0 s1 s2 c7
            have x2 : wb.cell? ⟨bx, 2, none⟩ = some (.int .u64 pt) := by rw [BX.out.cell]; rfl
            have y0 : wb.cell? ⟨yb, 0, none⟩ = some (.int .i64 y.id) := by rw [BY.out.cell]; rfl
            have hsz := HCB.out.size
            go_wp2_with fail
            refine (HHA.out _).mono ?_
            rintro e w7 ⟨rfl, rfl⟩
            dsimp only
            cases vb
            · go_wp2_with fail
              refine ⟨⟨m + 1, by omega, by go_num, ?_, HCB.out⟩, by simp [intOf]; omega⟩
              rw [HVS.out]
              simp only [Bool.false_eq_true, if_false, List.append_nil]
              rw [htn]
              exact HOB.out
            · go_wp2_with (first
                | (at_builtin
                   refine wpList_append_any _ rfl (.tmp 42) (.tmp 45) _ rfl w6.heap.size 3 i1 _ 1 8 Tryd.underlying31 hi1 hy0 hy1 hy2 rfl (by omega) _ tn (ints (tosK l pt m)) rfl
                     (own_ch HOB.out ((Ch.refl (fun _ => False) _).alloc _) (fun _ _ h => h)) (wb.heap.size + 1) (some ⟨wb.heap.size, 0, none⟩) 1 1 [.int .i64 y.id] rfl (reads_new wb 3 #[.int .i64 y.id] 1 1 rfl) (by simp [Value.oneCell']) (by simp only [maxLen]; omega) (by omega) (by simp; omega) ?_
                   intro v7 w7 hown7 hg7 hat7
                   have HO7 := Lib.hid hown7
                   have HG7 := Lib.hid hg7
                   clear hown7 hg7 hat7))
              refine ⟨⟨m + 1, by omega, by go_num, ?_, ((HCB.out : Ch (fun _ => False) w6 wb).alloc _).grown HG7.out (fun g hg => .inr (own_lt HOB.out hg).1)⟩, by simp [intOf]; omega⟩
              rw [HVS.out]
              simp only [if_true]
              rw [ints_snoc, List.length_append, htn]
              exact HO7.out
          · obtain rfl : n = m := by omega
            have hT : tosOf l x = sortI (tosK l pt n) := HTO.out.trans (by rw [HN.out])
            have htl := tosK_len l pt n
            have HTL := Lib.hid (show (tosOf l x).length = (tosK l pt n).length from by rw [hT, List.length_mergeSort])
            have HTT := Lib.hid hT
            obtain ⟨T, hTe⟩ : ∃ T, tosOf l x = T := ⟨_, rfl⟩
            rw [hTe] at HTT HTL HTK
            obtain ⟨E0, hE0⟩ : ∃ E0, edgesK l (N.take k) = E0 := ⟨_, rfl⟩
            have hEl : E0.length ≤ 4096 := by
              rw [← hE0]
              refine Nat.le_trans (edgesK_len _ _) (Nat.le_trans (Nat.mul_le_mul (Nat.le_trans (List.length_take_le _ _) (show k ≤ 64 by omega)) (show l.length ≤ 64 by rw [HN.out]; omega)) (by omega))
            rw [hE0] at HOE HTK ⊢
            generalize htn : (tosK l pt n).length = tn at *
            have HS := Lib.hid (sort_any hO (by omega))
            have HOT2 := Lib.hid hO
            clear hT htn hTe hE0 hO hC hlm hm HTO
            go_wp2_with fail
            refine HS.out.mono ?_
            rintro e w7 ⟨rfl, ho7, hc7⟩
            have HF := Lib.hid (own_new HOT2.out (Nat.le_refl _) HCT.out hc7)
            rw [← HTT.out] at ho7
            have HO7 := Lib.hid ho7
            clear ho7 hc7 HS HOT2 HCT HTT
            have HOE7 := Lib.hid (own_ch HOE.out HF.out (fun _ _ h => h))
            have HC7 := Lib.hid (HC6.out.trans' HF.out)
            clear HOE HC6 HF HG6 c6 HB6
            dsimp only
            go_wp2_with fail
            go_loopw [3, 52] (fun ev i w' => ∃ m : Nat, m ≤ tn ∧ i = .int .i64 m ∧ w'.ownsRow w2.heap.size 41 2 ev (E0 ++ (T.take m).map fun b => (x, b)).length (flatE (E0 ++ (T.take m).map fun b => (x, b))) ∧ NewW w2 w' ∧ w'.ownsRow w6.heap.size 3 1 (.slice At tn ct) tn (ints T)) (fun _ i _ => tn - (intOf i).toNat)
            case atStart => exact ⟨0, by omega, rfl, by simpa using HOE7.out, HC7.out, HO7.out⟩
            case round =>
              obtain ⟨m, hm, rfl, hO, hC, hT⟩ := hrel
              obtain ⟨Ae, ce, rfl⟩ := own_form hO
              have hsz := hC.size
              have HO9 := Lib.hid hO
              have HC9 := Lib.hid hC
              have HT9 := Lib.hid hT
              by_cases hlm : m < tn
              · obtain ⟨z, hz⟩ := some_of_lt (L := T) (i := m) (by rw [HTL.out]; exact hlm)
                obtain ⟨g7, rfl, hcell⟩ := row_kp hT (KpT.new_ (Ch.refl _ _)) hz
                have HTZ := Lib.hid (show (E0 ++ (T.take (m + 1)).map fun b => (x, b)) = (E0 ++ (T.take m).map fun b => (x, b)) ++ [(x, z)] from by
                  rw [List.take_add_one, hz, List.map_append, List.append_assoc]; rfl)
                have henl : (E0 ++ (T.take m).map fun b => (x, b)).length ≤ 5000 := by
                  rw [List.length_append, List.length_map, List.length_take]; omega
                have hlmI : (m : Int) < (tn : Int) := by omega
                clear hO hC hT hz HOE7 HC7 HO7
                generalize hen : (E0 ++ (T.take m).map fun b => (x, b)).length = en at *
                go_wp2_with (first
                  | (at_builtin
                     refine wpList_append_any _ rfl (.tmp 56) (.tmp 60) _ rfl w2.heap.size 41 i2 _ 2 16 Tryd.underlying23 hi2 hz0 hz1 hz2 rfl (by omega) _ en (flatE (E0 ++ (T.take m).map fun b => (x, b))) rfl
                       (own_ch HO9.out ((Ch.refl (fun _ => False) _).alloc _) (fun _ _ h => h)) (wr.heap.size + 1) (some ⟨wr.heap.size, 0, none⟩) 1 1 [.int .i64 x, .int .i64 z] rfl (reads_new wr 41 #[.int .i64 x, .int .i64 z] 1 2 rfl) (by simp [Value.oneCell']) (by simp only [maxLen]; omega) (by omega) (by simp; omega) ?_
                     intro v8 w8 hown8 hg8 hat8
                     have HO8 := Lib.hid hown8
                     have HG8 := Lib.hid hg8
                     clear hown8 hg8 hat8))
                refine ⟨⟨m + 1, by omega, by go_num, ?_, ((HC9.out : Ch (fun _ => False) w2 wr).alloc _).grown HG8.out (fun g hg => .inr (own_lt HO9.out hg).1),
                  own_ch (own_ch HT9.out ((Ch.refl (fun _ => False) wr).alloc _) (fun _ _ h => h)) (Ch.of_grown HG8.out) (own_own_ne HT9.out HO9.out (by decide))⟩, by simp [intOf]; omega⟩
                rw [HTZ.out, flatE_snoc, List.length_append, hen]
                exact HO8.out
              · obtain rfl : tn = m := by omega
                have HTF := Lib.hid (show edgesK l (N.take (k + 1)) = (E0 ++ (T.take tn).map fun b => (x, b)) from by rw [HTK.out, List.take_of_length_le (Nat.le_of_eq HTL.out)])
                clear hO hC hT hlm hm HTK
                go_wp2_with fail
                refine ⟨⟨k + 1, by omega, by go_num, ?_, HC9.out⟩, by simp [intOf]; omega⟩
                rw [HTF.out]
                exact HO9.out
      · go_simp
        have HNZ := Lib.hid (((Ch.refl (fun _ => False) wo).alloc (.cells #[.int .i64 0, .int .i64 0, .int .u64 0] 57)).drew)
        have BZ := Lib.hid ((Blk.new wo 57 #[.int .i64 0, .int .i64 0, .int .u64 0]).drew)
        have HBX := Lib.hid (Nat.le_refl wo.heap.size)
        refine hK.out _ _ (HST.out _ HNZ.out) (fun hHeldC => ?_)
        clear hK K
        try simp only [Act.put, List.getElem_toArray, List.getElem_cons_zero, List.getElem_cons_succ, List.setIfInBounds_toArray, List.set_cons_zero, List.set_cons_succ]
        obtain ⟨bx, hbx⟩ : ∃ bx, wo.heap.size = bx := ⟨_, rfl⟩
        rw [hbx] at BZ
        have HBX := Lib.hid (show wo.heap.size ≤ bx from Nat.le_of_eq hbx)
        simp only [hbx]
        clear hbx
        generalize (wo.alloc (.cells #[.int .i64 0, .int .i64 0, .int .u64 0] 57)).drew = wz at *
        refine wpAnyH_ready (rs := [6]) (by kernel_rfl) (by simp) ?_
        refine AllReadyH.cons rfl (fun K hK => ?_) AllReadyH.nil
        go_simp
        go_at_call 34
        refine (HFX.out _ HNZ.out).mono ?_
        rintro e w5 ⟨rfl, hN5⟩
        have hN5 : Ch (fun _ => False) wz w5 := hN5
        dsimp only
        have HNZ2 := Lib.hid (HNZ.out.trans' hN5)
        have BZ2 := Lib.hid (BZ.out.ch hN5 (fun h => h))
        refine hK.out _ _ (HST.out _ HNZ2.out) (fun hHeldD => ?_)
        clear hK K hN5 BZ HNZ
        have HNZ := HNZ2
        have BZ := BZ2
        clear HNZ2 BZ2 hHeldC
        try simp only [Act.put, List.getElem_toArray, List.getElem_cons_zero, List.getElem_cons_succ, List.setIfInBounds_toArray, List.set_cons_zero, List.set_cons_succ]
        refine wpAnyH_take (i := 7) (v := ?_) rfl (by kernel_rfl) (by kernel_rfl) (by kernel_rfl) (fun _ _ _ h => h) (Or.inl ⟨by rfl, ?_⟩) (by assumption) ?_
        rotate_left 1
        · (intro w hSw; (try dsimp only at hSw); go_simp) <;> with_reducible rfl
        try simp only [Act.put, List.getElem_toArray, List.getElem_cons_zero, List.getElem_cons_succ, List.setIfInBounds_toArray, List.set_cons_zero, List.set_cons_succ]
        refine wpAnyH_take (i := 8) (v := ?_) rfl (by kernel_rfl) (by kernel_rfl) (by kernel_rfl) (fun _ _ _ h => h) (Or.inl ⟨by rfl, ?_⟩) (by assumption) ?_
        rotate_left 1
        · (intro w hSw; (try dsimp only at hSw); go_simp) <;> with_reducible rfl
        try simp only [Act.put, List.getElem_toArray, List.getElem_cons_zero, List.getElem_cons_succ, List.setIfInBounds_toArray, List.set_cons_zero, List.set_cons_succ]
        refine wpAnyH_ready (rs := [10]) (by kernel_rfl) (by simp) ?_
        refine AllReadyH.cons rfl (fun K hK => ?_) AllReadyH.nil
        have e0 : w5.cell? ⟨bx, 0, none⟩ = some (.int .i64 0) := by rw [BZ.out.cell]; rfl
        have e1 : w5.cell? ⟨bx, 1, none⟩ = some (.int .i64 0) := by rw [BZ.out.cell]; rfl
        have e2 : w5.cell? ⟨bx, 2, none⟩ = some (.int .u64 0) := by rw [BZ.out.cell]; rfl
        have f0 := BZ.out.frozen 0
        have f1 := BZ.out.frozen 1
        have f2 := BZ.out.frozen 2
        go_simp
        have HW6 := Lib.hid (((HNZ.out.setCell (p := ⟨bx, 0, none⟩) (.inr HBX.out) (.int .i64 pi)).setCell (p := ⟨bx, 1, none⟩) (.inr HBX.out) (.int .i64 ps)).setCell (p := ⟨bx, 2, none⟩) (.inr HBX.out) (.int .u64 pt))
        have HB6 := Lib.hid (((BZ.out.set_ 0 (.int .i64 pi)).set_ 1 (.int .i64 ps)).set_ 2 (.int .u64 pt))
        refine hK.out _ _ (HST.out _ HW6.out) (fun hHeldE => ?_)
        clear hK K e0 e1 e2 f0 f1 f2
        try simp only [Act.put, List.getElem_toArray, List.getElem_cons_zero, List.getElem_cons_succ, List.setIfInBounds_toArray, List.set_cons_zero, List.set_cons_succ]
        refine wpAnyH_done (by kernel_rfl) ?_ _
        have HB6 := Lib.hid (show Blk _ bx 57 #[.int .i64 pi, .int .i64 ps, .int .u64 pt] from by simpa using HB6.out)
        generalize ((w5.setCell ⟨bx, 0, none⟩ (.int .i64 pi)).setCell ⟨bx, 1, none⟩ (.int .i64 ps)).setCell ⟨bx, 2, none⟩ (.int .u64 pt) = w6 at *
        clear HNZ HBX BZ HFX HST r0 r1 r2 c0
        have HG6 := Lib.hid (HGM.out.new_ HW6.out)
        have c6 := HG6.out.c0
        have HC6 := Lib.hid (HC.out.trans' HW6.out)
        have HOE := Lib.hid (own_ch HO.out HW6.out (fun _ _ h => h))
        clear HW6 HO HC HGM
        go_wp2_with fail
        go_loopw [7, 33] (fun tv i w' => ∃ m : Nat, m ≤ n ∧ i = .int .i64 m ∧ w'.ownsRow w6.heap.size 3 1 tv (tosK l pt m).length (ints (tosK l pt m)) ∧ NewW w6 w') (fun _ i _ => n - (intOf i).toNat)
        case atStart => exact ⟨0, by omega, rfl, ⟨rfl, .inl ⟨rfl, rfl⟩⟩, Ch.refl _ _⟩
        case round =>
          obtain ⟨m, hm, rfl, hO, hC⟩ := hrel
          obtain ⟨At, ct, rfl⟩ := own_form hO
          have HCT := Lib.hid hC
          by_cases hlm : m < n
          · obtain ⟨y, hy⟩ := some_of_lt (L := l) (i := m) (by rw [HN.out]; exact hlm)
            have hlmI : (m : Int) < (n : Int) := by omega
            have hgm := HG6.out.new_ hC
            obtain ⟨s0, s1, s2⟩ := hgm.cel hy
            have c7 := hgm.c0
            have hVS := tosK_step (t := pt) hy
            have HHA := Lib.hid (fun w' => has_any pt m HP64.out (by omega) w')
            have hcb : NewW wr (wr.alloc (.cells #[.int .i64 y.id, .int .i64 y.st, .int .u64 y.to] 57)) := (Ch.refl _ wr).alloc _
            have BY := Lib.hid (Blk.new wr 57 #[.int .i64 y.id, .int .i64 y.st, .int .u64 y.to])
            have HCB := Lib.hid (hC.trans' hcb)
            have HOB := Lib.hid (own_ch hO hcb (fun _ _ h => h))
            have BX := Lib.hid ((HB6.out.ch hC (fun h => h)).ch hcb (fun h => h))
            obtain ⟨vb, hvb⟩ : ∃ vb, pt.testBit m = vb := ⟨_, rfl⟩
            rw [hvb] at HHA hVS
            have HVS := Lib.hid hVS
            have htl := tosK_len l pt m
            clear hC hO hy hvb hVS hcb hgm HCT
            generalize htn : (tosK l pt m).length = tn at *
            go_upto_region 10 with (fail)
            generalize wr.alloc (.cells #[.int .i64 y.id, .int .i64 y.st, .int .u64 y.to] 57) = wb at *
            generalize wr.heap.size = yb at *
            clear s0 s1 s2 c7
            have x2 : wb.cell? ⟨bx, 2, none⟩ = some (.int .u64 pt) := by rw [BX.out.cell]; rfl
            have y0 : wb.cell? ⟨yb, 0, none⟩ = some (.int .i64 y.id) := by rw [BY.out.cell]; rfl
            have hsz := HCB.out.size
            go_wp2_with fail
            refine (HHA.out _).mono ?_
            rintro e w7 ⟨rfl, rfl⟩
            dsimp only
            cases vb
            · go_wp2_with fail
              refine ⟨⟨m + 1, by omega, by go_num, ?_, HCB.out⟩, by simp [intOf]; omega⟩
              rw [HVS.out]
              simp only [Bool.false_eq_true, if_false, List.append_nil]
              rw [htn]
              exact HOB.out
            · go_wp2_with (first
                | (at_builtin
                   refine wpList_append_any _ rfl (.tmp 42) (.tmp 45) _ rfl w6.heap.size 3 i1 _ 1 8 Tryd.underlying31 hi1 hy0 hy1 hy2 rfl (by omega) _ tn (ints (tosK l pt m)) rfl
                     (own_ch HOB.out ((Ch.refl (fun _ => False) _).alloc _) (fun _ _ h => h)) (wb.heap.size + 1) (some ⟨wb.heap.size, 0, none⟩) 1 1 [.int .i64 y.id] rfl (reads_new wb 3 #[.int .i64 y.id] 1 1 rfl) (by simp [Value.oneCell']) (by simp only [maxLen]; omega) (by omega) (by simp; omega) ?_
                   intro v7 w7 hown7 hg7 hat7
                   have HO7 := Lib.hid hown7
                   have HG7 := Lib.hid hg7
                   clear hown7 hg7 hat7))
              refine ⟨⟨m + 1, by omega, by go_num, ?_, ((HCB.out : Ch (fun _ => False) w6 wb).alloc _).grown HG7.out (fun g hg => .inr (own_lt HOB.out hg).1)⟩, by simp [intOf]; omega⟩
              rw [HVS.out]
              simp only [if_true]
              rw [ints_snoc, List.length_append, htn]
              exact HO7.out
          · obtain rfl : n = m := by omega
            have hT : tosOf l x = sortI (tosK l pt n) := HTO.out.trans (by rw [HN.out])
            have htl := tosK_len l pt n
            have HTL := Lib.hid (show (tosOf l x).length = (tosK l pt n).length from by rw [hT, List.length_mergeSort])
            have HTT := Lib.hid hT
            obtain ⟨T, hTe⟩ : ∃ T, tosOf l x = T := ⟨_, rfl⟩
            rw [hTe] at HTT HTL HTK
            obtain ⟨E0, hE0⟩ : ∃ E0, edgesK l (N.take k) = E0 := ⟨_, rfl⟩
            have hEl : E0.length ≤ 4096 := by
              rw [← hE0]
              refine Nat.le_trans (edgesK_len _ _) (Nat.le_trans (Nat.mul_le_mul (Nat.le_trans (List.length_take_le _ _) (show k ≤ 64 by omega)) (show l.length ≤ 64 by rw [HN.out]; omega)) (by omega))
            rw [hE0] at HOE HTK ⊢
            generalize htn : (tosK l pt n).length = tn at *
            have HS := Lib.hid (sort_any hO (by omega))
            have HOT2 := Lib.hid hO
            clear hT htn hTe hE0 hO hC hlm hm HTO
            go_wp2_with fail
            refine HS.out.mono ?_
            rintro e w7 ⟨rfl, ho7, hc7⟩
            have HF := Lib.hid (own_new HOT2.out (Nat.le_refl _) HCT.out hc7)
            rw [← HTT.out] at ho7
            have HO7 := Lib.hid ho7
            clear ho7 hc7 HS HOT2 HCT HTT
            have HOE7 := Lib.hid (own_ch HOE.out HF.out (fun _ _ h => h))
            have HC7 := Lib.hid (HC6.out.trans' HF.out)
            clear HOE HC6 HF HG6 c6 HB6
            dsimp only
            go_wp2_with fail
            go_loopw [3, 52] (fun ev i w' => ∃ m : Nat, m ≤ tn ∧ i = .int .i64 m ∧ w'.ownsRow w2.heap.size 41 2 ev (E0 ++ (T.take m).map fun b => (x, b)).length (flatE (E0 ++ (T.take m).map fun b => (x, b))) ∧ NewW w2 w' ∧ w'.ownsRow w6.heap.size 3 1 (.slice At tn ct) tn (ints T)) (fun _ i _ => tn - (intOf i).toNat)
            case atStart => exact ⟨0, by omega, rfl, by simpa using HOE7.out, HC7.out, HO7.out⟩
            case round =>
              obtain ⟨m, hm, rfl, hO, hC, hT⟩ := hrel
              obtain ⟨Ae, ce, rfl⟩ := own_form hO
              have hsz := hC.size
              have HO9 := Lib.hid hO
              have HC9 := Lib.hid hC
              have HT9 := Lib.hid hT
              by_cases hlm : m < tn
              · obtain ⟨z, hz⟩ := some_of_lt (L := T) (i := m) (by rw [HTL.out]; exact hlm)
                obtain ⟨g7, rfl, hcell⟩ := row_kp hT (KpT.new_ (Ch.refl _ _)) hz
                have HTZ := Lib.hid (show (E0 ++ (T.take (m + 1)).map fun b => (x, b)) = (E0 ++ (T.take m).map fun b => (x, b)) ++ [(x, z)] from by
                  rw [List.take_add_one, hz, List.map_append, List.append_assoc]; rfl)
                have henl : (E0 ++ (T.take m).map fun b => (x, b)).length ≤ 5000 := by
                  rw [List.length_append, List.length_map, List.length_take]; omega
                have hlmI : (m : Int) < (tn : Int) := by omega
                clear hO hC hT hz HOE7 HC7 HO7
                generalize hen : (E0 ++ (T.take m).map fun b => (x, b)).length = en at *
                go_wp2_with (first
                  | (at_builtin
                     refine wpList_append_any _ rfl (.tmp 56) (.tmp 60) _ rfl w2.heap.size 41 i2 _ 2 16 Tryd.underlying23 hi2 hz0 hz1 hz2 rfl (by omega) _ en (flatE (E0 ++ (T.take m).map fun b => (x, b))) rfl
                       (own_ch HO9.out ((Ch.refl (fun _ => False) _).alloc _) (fun _ _ h => h)) (wr.heap.size + 1) (some ⟨wr.heap.size, 0, none⟩) 1 1 [.int .i64 x, .int .i64 z] rfl (reads_new wr 41 #[.int .i64 x, .int .i64 z] 1 2 rfl) (by simp [Value.oneCell']) (by simp only [maxLen]; omega) (by omega) (by simp; omega) ?_
                     intro v8 w8 hown8 hg8 hat8
                     have HO8 := Lib.hid hown8
                     have HG8 := Lib.hid hg8
                     clear hown8 hg8 hat8))
                refine ⟨⟨m + 1, by omega, by go_num, ?_, ((HC9.out : Ch (fun _ => False) w2 wr).alloc _).grown HG8.out (fun g hg => .inr (own_lt HO9.out hg).1),
                  own_ch (own_ch HT9.out ((Ch.refl (fun _ => False) wr).alloc _) (fun _ _ h => h)) (Ch.of_grown HG8.out) (own_own_ne HT9.out HO9.out (by decide))⟩, by simp [intOf]; omega⟩
                rw [HTZ.out, flatE_snoc, List.length_append, hen]
                exact HO8.out
              · obtain rfl : tn = m := by omega
                have HTF := Lib.hid (show edgesK l (N.take (k + 1)) = (E0 ++ (T.take tn).map fun b => (x, b)) from by rw [HTK.out, List.take_of_length_le (Nat.le_of_eq HTL.out)])
                clear hO hC hT hlm hm HTK
                go_wp2_with fail
                refine ⟨⟨k + 1, by omega, by go_num, ?_, HC9.out⟩, by simp [intOf]; omega⟩
                rw [HTF.out]
                exact HO9.out
    · obtain rfl : n = k := by omega
      have HEE := Lib.hid (show edgesK l (N.take n) = edgesG l from by rw [List.take_of_length_le (by rw [HNL.out]; exact Nat.le_refl _)]; exact HEN.out)
      clear hlt hk hO hC
      go_wp2_with fail
      go_ret
      refine ⟨A', c', by rw [HEE.out]; rfl, ?_, HN2.out.trans' HC.out⟩
      rw [← HEE.out]
      exact own_mono HO.out HN2.out.size
end Go.Proofs.YtfcdplfnhjbdnabDoor
