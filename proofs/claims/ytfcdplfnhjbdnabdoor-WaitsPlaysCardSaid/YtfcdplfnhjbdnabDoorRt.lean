/- The reference's Reaches, Cyclic, Victims, Oldest, Edges; the program's Stamp; same. -/
import Derived.Test.YtfcdplfnhjbdnabDoorRs
namespace Go.Proofs.YtfcdplfnhjbdnabDoor
open Go.RowKit Go.Sort
set_option linter.unusedVariables false

section
variable {w : World} {B rb : Nat} {N E : List (Int × Int)} {vn ve : Value}
theorem reaches_r (h : RM w B rb N E vn ve) (f t : Int) :
    Calls Tryd.prog 32 #[.pointer (some ⟨rb, 0, none⟩), .int .i64 f, .int .i64 t] w fun e w' => ∃ b, e = .returned (.bool b) ∧ (b = true ↔ Wr E (okP N (-1)) f t) ∧ NewW w w' := by
  have HW := Lib.hid (way_r h f t (-1))
  clear h
  go_enter Tryd.func32, Tryd.ntmps32
  go_wp2_with fail
  refine HW.out.mono ?_
  rintro e w2 ⟨b, rfl, hb, hN⟩
  have HB := Lib.hid hb
  have HN := Lib.hid hN
  clear hb hN HW
  dsimp only
  go_wp2_with fail
  go_ret
  exact ⟨b, rfl, HB.out, HN.out⟩
def CycR (N E : List (Int × Int)) (b : Bool) : Prop := b = true ↔ ∃ p, p ∈ N ∧ Wr E (okP N (-1)) p.1 p.1
set_option maxHeartbeats 2000000 in
theorem cyclic_r (h : RM w B rb N E vn ve) :
    Calls Tryd.prog 33 #[.pointer (some ⟨rb, 0, none⟩)] w fun e w' => ∃ b, e = .returned (.bool b) ∧ CycR N E b ∧ NewW w w' := by
  obtain ⟨A, q, rfl⟩ := own_form h.on
  have c0 := h.c0
  have h64 := h.nl
  have HH := Lib.hid h
  have HWY := Lib.hid (fun (w' : World) (hc : NewW w w') (x : Int) => way_r (h.new_ hc) x x (-1))
  clear h
  generalize hn : N.length = n at *
  have HN := Lib.hid hn
  clear hn
  have hmax : (n : Int) ≤ 64 := by omega
  go_enter Tryd.func33, Tryd.ntmps33
  go_wp2_with fail
  go_loopw [10] (fun i w' => ∃ k : Nat, k ≤ n ∧ i = .int .i64 k ∧ (∀ (j : Nat) (p : Int × Int), j < k → N[j]? = some p → ¬ Wr E (okP N (-1)) p.1 p.1) ∧ NewW w w') (fun i _ => n - (intOf i).toNat)
  case atStart => exact ⟨0, by omega, rfl, fun j p hj => absurd hj (by omega), Ch.refl _ _⟩
  case round =>
    obtain ⟨k, hk, rfl, hno, hC⟩ := hrel
    have HC := Lib.hid hC
    by_cases hlt : k < n
    · obtain ⟨⟨a, s⟩, hx⟩ := some_of_lt (L := N) (i := k) (by rw [HN.out]; exact hlt)
      obtain ⟨g, rfl, x0, x1⟩ := pair_cells (by have := (HH.out.new_ hC).on; rw [HN.out] at this; exact this) HN.out (Ch.refl _ _) hx
      dsimp only at x0 x1
      have HX := Lib.hid hx
      have HNO := Lib.hid hno
      have hcb : NewW wr (wr.alloc (.cells #[.int .i64 a, .int .i64 s] 69)) := (Ch.refl _ wr).alloc _
      have HCB := Lib.hid (hC.trans' hcb)
      have BX := Lib.hid (Blk.new wr 69 #[.int .i64 a, .int .i64 s])
      clear hC hx hno hcb
      go_upto_region 4 with (fail)
      generalize wr.alloc (.cells #[.int .i64 a, .int .i64 s] 69) = wb at *
      generalize wr.heap.size = bx at *
      have z0 : wb.cell? ⟨bx, 0, none⟩ = some (.int .i64 a) := by rw [BX.out.cell]; rfl
      have HW := Lib.hid (HWY.out _ HCB.out a)
      clear x0 x1
      go_wp2_with fail
      refine HW.out.mono ?_
      rintro e w2 ⟨b, rfl, hb, hN⟩
      have HB := Lib.hid hb
      have HC2 := Lib.hid (HCB.out.trans' hN)
      clear hb hN HW
      dsimp only
      cases b
      · have HNO2 := Lib.hid (show ∀ (j : Nat) (p : Int × Int), j < k + 1 → N[j]? = some p → ¬ Wr E (okP N (-1)) p.1 p.1 from fun j p hj hp => by
          by_cases ej : j = k
          · subst ej
            rw [HX.out] at hp
            injection hp with hp
            subst hp
            exact fun h => absurd (HB.out.2 h) (by simp)
          · exact HNO.out j p (by omega) hp)
        go_wp2_with fail
        exact ⟨⟨k + 1, by omega, by go_num, HNO2.out, HC2.out⟩, by simp [intOf]; omega⟩
      · go_wp2_with fail
        go_ret
        exact .inr ⟨rfl, ⟨fun _ => ⟨(a, s), mem_of_some HX.out, HB.out.1 (by simp)⟩, fun _ => rfl⟩, HC2.out⟩
    · obtain rfl : n = k := by omega
      have HNO := Lib.hid hno
      clear hno hC hlt hk
      go_wp2_with fail
      go_ret
      refine ⟨false, rfl, ⟨fun h => absurd h (by simp), fun ⟨p, hp, hw⟩ => ?_⟩, HC.out⟩
      obtain ⟨j, hj⟩ := List.mem_iff_getElem?.1 hp
      exact absurd hw (HNO.out j p (by rw [← HN.out]; exact lt_of_some hj) hj)
/-- Who reaches itself by those that are elder. -/
noncomputable def victR (N E : List (Int × Int)) (id : Int) : Bool := @decide (Wr E (okP N id) id id) (Classical.propDecidable _)
theorem victR_of {N E : List (Int × Int)} {id : Int} {b : Bool} (h : b = true ↔ Wr E (okP N id) id id) : b = victR N E id := by
  unfold victR
  cases b
  · exact (@decide_eq_false _ (Classical.propDecidable _) (fun hw => absurd (h.2 hw) (by simp))).symm
  · exact (@decide_eq_true _ (Classical.propDecidable _) (h.1 rfl)).symm
theorem filtI_step {L : List Int} {P : Int → Bool} {k : Nat} {x : Int} (hx : L[k]? = some x) : (L.take (k + 1)).filter P = (L.take k).filter P ++ (if P x then [x] else []) := by
  rw [List.take_add_one, hx, List.filter_append]
  congr 1
  cases h : P x <;> simp [h]
set_option maxHeartbeats 2000000 in
theorem victims_r (h : RM w B rb N E vn ve) :
    Calls Tryd.prog 30 #[.pointer (some ⟨rb, 0, none⟩)] w fun e w' => ∃ A c, e = .returned (.slice A ((sortI (N.map Prod.fst)).filter (victR N E)).length c) ∧ w'.ownsRow w.heap.size 3 1 (.slice A ((sortI (N.map Prod.fst)).filter (victR N E)).length c) ((sortI (N.map Prod.fst)).filter (victR N E)).length (ints ((sortI (N.map Prod.fst)).filter (victR N E))) ∧ NewW w w' := by
  have HND := Lib.hid (nodes_r h)
  have h64 := h.nl
  have HWY := Lib.hid (fun (w' : World) (hc : NewW w w') (x : Int) => way_r (h.new_ hc) x x x)
  obtain ⟨i1, hi1, hy0, hy1, hy2⟩ := info_parts int_info
  clear h
  obtain ⟨L, hL⟩ : ∃ L, sortI (N.map Prod.fst) = L := ⟨_, rfl⟩
  have hll : L.length = N.length := by rw [← hL, List.length_mergeSort, List.length_map]
  rw [hL] at HND ⊢
  generalize N.length = n at *
  have HLN := Lib.hid hll
  clear hL hll
  have hmax : (n : Int) ≤ 64 := by omega
  obtain ⟨P, hP⟩ : ∃ P, victR N E = P := ⟨_, rfl⟩
  have HPE := Lib.hid (show ∀ (x : Int) (b : Bool), (b = true ↔ Wr E (okP N x) x x) → b = P x from fun x b h => by rw [← hP]; exact victR_of h)
  rw [hP]
  clear hP
  go_enter Tryd.func30, Tryd.ntmps30
  go_wp2_with fail
  refine HND.out.mono ?_
  rintro e w2 ⟨A, c, rfl, ho, hN⟩
  have HO := Lib.hid ho
  have HN2 := Lib.hid hN
  clear ho hN HND
  dsimp only
  go_wp2_with fail
  go_loopw [3, 9] (fun ov i w' => ∃ k : Nat, k ≤ n ∧ i = .int .i64 k ∧ w'.ownsRow w2.heap.size 3 1 ov ((L.take k).filter P).length (ints ((L.take k).filter P)) ∧ NewW w2 w') (fun _ i _ => n - (intOf i).toNat)
  case atStart => exact ⟨0, by omega, rfl, ⟨by simp [ints], .inl ⟨by simp, by simp⟩⟩, Ch.refl _ _⟩
  case round =>
    obtain ⟨k, hk, rfl, hO, hC⟩ := hrel
    obtain ⟨A7, q7, rfl⟩ := own_form hO
    have HO7 := Lib.hid hO
    have HC := Lib.hid hC
    by_cases hlt : k < n
    · obtain ⟨x, hx⟩ := some_of_lt (L := L) (i := k) (by rw [HLN.out]; exact hlt)
      obtain ⟨g, rfl, hcell⟩ := row_kp HO.out (KpT.new_ hC) hx
      have HF := Lib.hid (filtI_step (P := P) hx)
      have HW := Lib.hid (HWY.out _ (HN2.out.trans' hC) x)
      have hfl : ((L.take k).filter P).length ≤ 64 := Nat.le_trans (List.length_filter_le _ _) (by rw [List.length_take]; omega)
      generalize hfn : (L.take k).filter P = F at *
      generalize hfl' : F.length = fl at *
      have HFL := Lib.hid hfl'
      clear hO hC hx hfn hfl'
      go_wp2_with fail
      refine HW.out.mono ?_
      rintro e w3 ⟨b, rfl, hb, hN⟩
      have HB := Lib.hid (HPE.out _ _ hb)
      rw [← HB.out] at HF
      have HC3 := Lib.hid (HC.out.trans' hN)
      have HO3 := Lib.hid (own_ch HO7.out hN (fun _ _ h => h))
      have hsz := HC3.out.size
      clear hb hN HW HB HC HO7
      dsimp only
      cases b
      · go_wp2_with fail
        refine ⟨⟨k + 1, by omega, by go_num, ?_, HC3.out⟩, by simp [intOf]; omega⟩
        rw [HF.out]
        simp only [Bool.false_eq_true, if_false, List.append_nil]
        rw [HFL.out]
        exact HO3.out
      · go_wp2_with (first
          | (at_builtin
             refine wpList_append_any _ rfl (.tmp 18) (.tmp 20) _ rfl w2.heap.size 3 i1 _ 1 8 Tryd.underlying31 hi1 hy0 hy1 hy2 rfl (by omega) _ fl (ints F) rfl
               (own_ch HO3.out ((Ch.refl (fun _ => False) _).alloc _) (fun _ _ h => h)) (w3.heap.size + 1) (some ⟨w3.heap.size, 0, none⟩) 1 1 [.int .i64 x] rfl (reads_new w3 3 #[.int .i64 x] 1 1 rfl) (by simp [Value.oneCell']) (by simp only [maxLen]; omega) (by omega) (by simp; omega) ?_
             intro v8 w8 hown8 hg8 hat8
             have HO8 := Lib.hid hown8
             have HG8 := Lib.hid hg8
             clear hown8 hg8 hat8))
        refine ⟨⟨k + 1, by omega, by go_num, ?_, ((HC3.out : Ch (fun _ => False) w2 w3).alloc _).grown HG8.out (fun g hg => .inr (own_lt HO3.out hg).1)⟩, by simp [intOf]; omega⟩
        rw [HF.out, if_pos rfl, ints_snoc, List.length_append, HFL.out]
        exact HO8.out
    · obtain rfl : n = k := by omega
      have HFT := Lib.hid (show L.take n = L from by rw [← HLN.out, List.take_length])
      clear hO hC hlt hk
      go_wp2_with fail
      go_ret
      refine ⟨A7, q7, by rw [HFT.out]; rfl, ?_, HN2.out.trans' HC.out⟩
      have := own_mono HO7.out HN2.out.size
      rwa [HFT.out] at this
/-- The first one that has no elder one. -/
theorem elderN_self (N : List (Int × Int)) (a : Int) : elderN N a a = false := by
  unfold elderN
  simp
def OldR (N : List (Int × Int)) (e : Ending) : Prop := ((∀ p, p ∈ N → ∃ q, q ∈ N ∧ elderN N q.1 p.1 = true) ∧ e = .returned (.tuple #[.int .i64 0, .bool false])) ∨ (∃ p, p ∈ N ∧ (∀ q, q ∈ N → elderN N q.1 p.1 = false) ∧ e = .returned (.tuple #[.int .i64 p.1, .bool true]))
set_option maxHeartbeats 4000000 in
theorem oldest_r (h : RM w B rb N E vn ve) :
    Calls Tryd.prog 26 #[.pointer (some ⟨rb, 0, none⟩)] w fun e w' => OldR N e ∧ NewW w w' := by
  obtain ⟨A, q, rfl⟩ := own_form h.on
  have c0 := h.c0
  have h64 := h.nl
  have HH := Lib.hid h
  have HEL := Lib.hid (fun (w' : World) (hc : NewW w w') (x y : Int) => elder_r (h.new_ hc) x y)
  clear h
  generalize hn : N.length = n at *
  have HN := Lib.hid hn
  clear hn
  have hmax : (n : Int) ≤ 64 := by omega
  go_enter Tryd.func26, Tryd.ntmps26
  go_wp2_with fail
  go_loopw [14] (fun i w' => ∃ k : Nat, k ≤ n ∧ i = .int .i64 k ∧ (∀ (j : Nat) (p : Int × Int), j < k → N[j]? = some p → ∃ q, q ∈ N ∧ elderN N q.1 p.1 = true) ∧ NewW w w') (fun i _ => n - (intOf i).toNat)
  case atStart => exact ⟨0, by omega, rfl, fun j p hj => absurd hj (by omega), Ch.refl _ _⟩
  case round =>
    obtain ⟨k, hk, rfl, hno, hC⟩ := hrel
    have HC := Lib.hid hC
    by_cases hlt : k < n
    · obtain ⟨⟨a, s⟩, hx⟩ := some_of_lt (L := N) (i := k) (by rw [HN.out]; exact hlt)
      obtain ⟨g, rfl, x0, x1⟩ := pair_cells (by have := (HH.out.new_ hC).on; rw [HN.out] at this; exact this) HN.out (Ch.refl _ _) hx
      dsimp only at x0 x1
      have HX := Lib.hid hx
      have HNO := Lib.hid hno
      have hcb : NewW wr (wr.alloc (.cells #[.int .i64 a, .int .i64 s] 69)) := (Ch.refl _ wr).alloc _
      have HCB := Lib.hid (hC.trans' hcb)
      have BX := Lib.hid (Blk.new wr 69 #[.int .i64 a, .int .i64 s])
      clear hC hx hno hcb HC
      go_upto_region 5 with (fail)
      generalize wr.alloc (.cells #[.int .i64 a, .int .i64 s] 69) = wb at *
      generalize wr.heap.size = bx at *
      have c0b := (HH.out.new_ HCB.out).c0
      clear x0 x1
      go_wp2_with fail
      go_loopw [6, 23] (fun fv i w' => ∃ (m : Nat) (f : Bool), m ≤ n ∧ i = .int .i64 m ∧ fv = .bool f ∧ (f = true → ∀ (j : Nat) (p : Int × Int), j < m → N[j]? = some p → elderN N p.1 a = false) ∧ (f = false → ∃ q, q ∈ N ∧ elderN N q.1 a = true) ∧ NewW wb w') (fun _ i _ => n - (intOf i).toNat)
      case atStart => exact ⟨0, true, by omega, rfl, rfl, fun _ j p hj => absurd hj (by omega), fun h => absurd h (by simp), Ch.refl _ _⟩
      case round =>
        obtain ⟨m, f, hm, rfl, rfl, hf1, hf2, hD⟩ := hrel
        have HD := Lib.hid hD
        by_cases hlm : m < n
        · obtain ⟨⟨b, s2⟩, hy⟩ := some_of_lt (L := N) (i := m) (by rw [HN.out]; exact hlm)
          obtain ⟨g2, hg2, y0, y1⟩ := pair_cells (by have := (HH.out.new_ (HCB.out.trans' hD)).on; rw [HN.out] at this; exact this) HN.out (Ch.refl _ _) hy
          injection hg2 with hg2
          injection hg2 with hg2
          subst hg2
          dsimp only at y0 y1
          have HY := Lib.hid hy
          have hcb : NewW wr (wr.alloc (.cells #[.int .i64 b, .int .i64 s2] 69)) := (Ch.refl _ wr).alloc _
          have HDB := Lib.hid (hD.trans' hcb)
          have BY := Lib.hid (Blk.new wr 69 #[.int .i64 b, .int .i64 s2])
          have HF1 := Lib.hid hf1
          have HF2 := Lib.hid hf2
          clear hD hy hcb hf1 hf2
          go_upto_region 8 with (fail)
          generalize wr.alloc (.cells #[.int .i64 b, .int .i64 s2] 69) = wc at *
          generalize wr.heap.size = by_ at *
          have z0 : wc.cell? ⟨by_, 0, none⟩ = some (.int .i64 b) := by rw [BY.out.cell]; rfl
          have z1 : wc.cell? ⟨bx, 0, none⟩ = some (.int .i64 a) := by rw [(BX.out.ch HDB.out (fun h => h)).cell]; rfl
          have HE := Lib.hid (HEL.out _ (HCB.out.trans' HDB.out) b a)
          clear y0 y1
          cases f
          · go_wp2_with fail
            exact ⟨⟨m + 1, false, by omega, by go_num, rfl, fun h => absurd h (by simp), HF2.out, HDB.out⟩, by simp [intOf]; omega⟩
          · obtain ⟨R, hR⟩ : ∃ R, elderN N b a = R := ⟨_, rfl⟩
            rw [hR] at HE
            have HR := Lib.hid hR
            clear hR
            go_wp2_with fail
            refine HE.out.mono ?_
            rintro e w3 ⟨rfl, hN⟩
            have HD3 := Lib.hid (HDB.out.trans' hN)
            clear hN HE
            dsimp only
            cases R
            · have HF3 := Lib.hid (show ∀ (j : Nat) (p : Int × Int), j < m + 1 → N[j]? = some p → elderN N p.1 a = false from fun j p hj hp => by
                by_cases ej : j = m
                · subst ej
                  rw [HY.out] at hp
                  injection hp with hp
                  subst hp
                  exact HR.out
                · exact HF1.out (by simp) j p (by omega) hp)
              go_wp2_with fail
              exact ⟨⟨m + 1, true, by omega, by go_num, rfl, fun _ => HF3.out, fun h => absurd h (by simp), HD3.out⟩, by simp [intOf]; omega⟩
            · go_wp2_with fail
              exact ⟨⟨m + 1, false, by omega, by go_num, rfl, fun h => absurd h (by simp), fun _ => ⟨(b, s2), mem_of_some HY.out, HR.out⟩, HD3.out⟩, by simp [intOf]; omega⟩
        · obtain rfl : n = m := by omega
          have HF1 := Lib.hid hf1
          have HF2 := Lib.hid hf2
          have z1 : wr.cell? ⟨bx, 0, none⟩ = some (.int .i64 a) := by rw [(BX.out.ch hD (fun h => h)).cell]; rfl
          clear hD hf1 hf2 hm hlm
          cases f
          · have HNO2 := Lib.hid (show ∀ (j : Nat) (p : Int × Int), j < k + 1 → N[j]? = some p → ∃ q, q ∈ N ∧ elderN N q.1 p.1 = true from fun j p hj hp => by
              by_cases ej : j = k
              · subst ej
                rw [HX.out] at hp
                injection hp with hp
                subst hp
                exact HF2.out (by simp)
              · exact HNO.out j p (by omega) hp)
            go_wp2_with fail
            exact ⟨⟨k + 1, by omega, by go_num, HNO2.out, HCB.out.trans' HD.out⟩, by simp [intOf]; omega⟩
          · go_wp2_with fail
            go_ret2
            refine ⟨.inr ⟨(a, s), mem_of_some HX.out, fun p hp => ?_, rfl⟩, HCB.out.trans' HD.out⟩
            obtain ⟨j, hj⟩ := List.mem_iff_getElem?.1 hp
            exact HF1.out (by simp) j p (by rw [← HN.out]; exact lt_of_some hj) hj
    · obtain rfl : n = k := by omega
      have HNO := Lib.hid hno
      clear hno hC hlt hk
      go_wp2_with fail
      go_ret2
      refine ⟨.inl ⟨fun p hp => ?_, rfl⟩, HC.out⟩
      obtain ⟨j, hj⟩ := List.mem_iff_getElem?.1 hp
      exact HNO.out j p (by rw [← HN.out]; exact lt_of_some hj) hj
end
end Go.Proofs.YtfcdplfnhjbdnabDoor
