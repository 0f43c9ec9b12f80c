/- PlanAborted: the law's walk. -/
import Derived.Test.YtbggadhaaphmcaaDoorPr
namespace Go.Proofs.YtbggadhaaphmcaaDoor
open Go.Lib Go.RowKit
set_option linter.unusedVariables false

theorem runS_other {k : Txt} : ∀ (l : List OpD) (s : Rs), (∀ o ∈ l, o.key.data.toList ≠ k) → (l.foldl stepS s).f k = s.f k
  | [], s, _ => rfl
  | o :: l, s, h => by
    rw [List.foldl_cons, runS_other l _ (fun o ho => h o (List.mem_cons_of_mem _ ho))]
    unfold stepS
    dsimp only
    split
    · unfold putF
      rw [if_neg (fun e => h o (List.mem_cons_self) e.symm)]
    · rfl
theorem runF_other {f : Has} {l : List OpD} {k : Txt} (h : ∀ o ∈ l, o.key.data.toList ≠ k) : runF f l k = f k := by
  unfold runF
  split
  · exact runS_other l _ h
  · rfl
def namedB (l : List OpD) (key : ByteArray) : Bool := l.any (fun o => o.key.toList == key.toList)
theorem named_not {f : Has} {l : List OpD} {key : ByteArray} (h : namedB l key = false) : runF f l key.data.toList = f key.data.toList := by
  refine runF_other fun o ho e => ?_
  unfold namedB at h
  rw [List.any_eq_false] at h
  exact h o ho (by rw [ByteArray.toList_eq, ByteArray.toList_eq, e]; simp)
theorem anyS {α : Type} {f : α → Bool} {l : List α} {k : Nat} {o : α} (h : l[k]? = some o) : (l.take (k + 1)).any f = ((l.take k).any f || f o) := by
  have hk := lt_of_some h
  rw [List.take_succ_eq_append_getElem hk]
  rw [List.getElem?_eq_getElem hk] at h
  injection h with h
  simp [h]
theorem few_one {l : List OpD} : fewB [l] = okP l := by simp [fewB]
theorem ok_len {l : List OpD} (h : okP l = true) : l.length ≤ 30 := by
  unfold okP at h
  simp at h
  omega
set_option maxRecDepth 100000 in
set_option maxHeartbeats 8000000 in
theorem aborted_walk (A B : Option Addr) (n m c d : Nat) (ps : List (List OpD)) (p : List OpD) (key : ByteArray) (hz : key.size ≤ maxLen) (w : World) (hE : Env w) (hP : Plans w A n ps) (hO : Ops w B m p) (hm : m ≤ maxLen) :
    Calls Tryd.prog 5 #[.slice A n c, .slice B m d, .string key] w fun e w' => e = .returned (.bool true) ∧ Below w.heap.size w w' := by
  have HFX := Lib.hid (fixed_any hE)
  have HE := Lib.hid hE
  have H := Lib.hid hP
  have HO := Lib.hid hO
  have HML := Lib.hid hm
  have HL := Lib.hid hP.1
  have HM := Lib.hid hO.1
  have hzI : (key.size : Int) ≤ 9223372036854775807 := by unfold maxLen at hz; omega
  clear hE hP hO hm hz
  go_enter Tryd.func5, Tryd.ntmps5
  go_wp2_with fail
  refine HFX.out.mono ?_
  rintro e w1 ⟨rfl, hb⟩
  dsimp only
  have HB1 := Lib.hid hb
  have HFE := Lib.hid (few_any (c := c) (H.out.below hb))
  clear hb HFX
  obtain ⟨R, hR⟩ : ∃ R, fewB ps = R := ⟨_, rfl⟩
  have HR := Lib.hid hR
  rw [hR] at HFE
  clear hR
  go_wp2_with fail
  refine HFE.out.mono ?_
  rintro e w2 ⟨rfl, hN⟩
  dsimp only
  have HB2 := Lib.hid (show Below w.heap.size w w2 from Ch.below HB1.out hN (fun _ h => h.elim) HB1.out.size)
  clear hN HFE HB1
  cases R
  · go_wp2_with fail
    go_ret
    exact ⟨rfl, HB2.out⟩
  have hq : Plans (w2.alloc (.cells #[.slice B m d] 31)) (some ⟨w2.heap.size, 0, none⟩) 1 [p] := by
    refine ⟨rfl, by simp [maxLen], fun _ => ⟨w2.heap.size, 0, rfl, by simp, fun i q hi => ?_⟩⟩
    match i, hi with
    | 0, hi =>
      simp at hi
      subst hi
      have := (Blk.new w2 31 #[.slice B m d]).cell 0
      exact ⟨⟨B, d, by rw [HM.out]; exact this, by rw [HM.out]; exact (HO.out.below HB2.out).new_ ((Ch.refl (fun _ => False) w2).alloc _)⟩, by rw [HM.out]; exact HML.out⟩
    | i + 1, hi => simp at hi
  have HFE := Lib.hid (few_any (c := 1) hq)
  rw [few_one] at HFE
  obtain ⟨R2, hR2⟩ : ∃ R, okP p = R := ⟨_, rfl⟩
  have HR2 := Lib.hid hR2
  rw [hR2] at HFE
  clear hR2 hq
  go_wp2_with fail
  refine HFE.out.mono ?_
  rintro e w3 ⟨rfl, hN⟩
  dsimp only
  have HB3 := Lib.hid (show Below w.heap.size w w3 from Ch.below HB2.out (((Ch.refl (fun _ => False) w2).alloc (.cells #[.slice B m d] 31)).trans' hN) (fun _ h => h.elim) HB2.out.size)
  clear hN HFE HB2
  cases R2
  · go_wp2_with fail
    go_ret
    exact ⟨rfl, HB3.out⟩
  by_cases hk : 100 < key.size
  · have d1 : decide (100 < (key.size : Int)) = true := by simp; omega
    have d1' : decide (100 < key.size) = true := by simpa using hk
    clear hk
    go_wp2_with fail
    go_ret
    exact ⟨rfl, HB3.out⟩
  have d1 : decide (100 < (key.size : Int)) = false := by simp; omega
  have d1' : decide (100 < key.size) = false := by simpa using hk
  have HKS := Lib.hid (show key.size ≤ 1000 by omega)
  have HNE := Lib.hid (km_new w w3 HB3.out)
  clear hk
  go_wp2_with fail
  refine HNE.out.mono ?_
  rintro e w4 ⟨rfl, hk, hN⟩
  dsimp only
  have HI := Lib.hid hk
  have hn20 : (n : Int) ≤ 20 := by have := few_len HR.out; rw [HL.out] at this; omega
  clear hk hN HNE d1 d1'
  generalize w3.heap.size + 1 = pb at *
  go_wp2_with fail
  go_loopw [40] (fun i wr => ∃ k : Nat, k ≤ n ∧ i = .int .i64 k ∧ ∃ f, KM w pb (16 * k) f wr ∧ Sm f) (fun i _ => n - (intOf i).toNat)
  case atStart => exact ⟨0, by omega, rfl, none0, HI.out, sm_zero⟩
  case round =>
    obtain ⟨k, hk, rfl, f, hI, hsm⟩ := hrel
    have HK := Lib.hid hI
    have HSM := Lib.hid hsm
    clear hI hsm
    by_cases hlt : k < n
    · obtain ⟨p1, hp⟩ := some_of_lt (show k < ps.length by rw [HL.out]; exact hlt)
      obtain ⟨b, off, rfl, ⟨A2, c2, x0, hO⟩, _⟩ := H.out.at_ hp
      replace x0 := (HK.out.below.cell (p := ⟨b, off + k, none⟩) (block_lt_of_cell x0)).trans x0
      have hk20 : k < 20 := by omega
      have HRU := Lib.hid (Run_any (c := c2) HK.out (by omega) (HE.out.below HK.out.below) HSM.out (hO.below HK.out.below))
      have HSN := Lib.hid (sm_run HSM.out p1)
      clear hp hO
      obtain ⟨m1, hm1⟩ : ∃ m, p1.length = m := ⟨_, rfl⟩
      rw [hm1] at x0 HRU
      clear hm1
      go_wp2_with fail
      refine HRU.out.mono ?_
      rintro e w5 ⟨⟨A3, c3, rfl, _⟩, hk5, _⟩
      dsimp only
      have HK5 := Lib.hid (show ∃ f', KM w pb (16 * (k + 1)) f' w5 ∧ Sm f' from ⟨_, hk5, HSN.out⟩)
      clear hk5 HRU HSN
      go_wp2_with fail
      exact ⟨⟨k + 1, by omega, by go_num, HK5.out⟩, by simp [intOf]; omega⟩
    · obtain rfl : k = n := by omega
      clear hlt hk
      have HL100 := Lib.hid (show (16 * k + 16) ≤ 100000 by omega)
      have hnk : k ≤ 20 := by omega
      clear hn20
      have HAL := Lib.hid (All_any HK.out (by omega))
      go_wp2_with fail
      refine HAL.out.mono ?_
      rintro e w5 ⟨A5, c5, L, rfl, hS, hLl, ho, hN⟩
      dsimp only
      have HK5 := Lib.hid (HK.out.new_ hN)
      have HO5 := Lib.hid ho
      have HS := Lib.hid hS
      have HL100 := Lib.hid (show L.length ≤ 100000 by omega)
      have HG := Lib.hid (get_any (key := key) HK5.out HKS.out)
      obtain ⟨V, hV⟩ : ∃ V, vOf (f key.data.toList) = V := ⟨_, rfl⟩
      obtain ⟨BH, hBH⟩ : ∃ B, hOf (f key.data.toList) = B := ⟨_, rfl⟩
      have HV := Lib.hid hV
      have HBH := Lib.hid hBH
      rw [hV, hBH] at HG
      have e1 : (V.toList == V.toList) = true := by simp
      have e2 : (BH == BH) = true := by simp
      clear hS hLl ho hN HAL hV hBH HK
      go_wp2_with fail
      refine HG.out.mono ?_
      rintro e w6 ⟨rfl, hN⟩
      dsimp only
      have HK6 := Lib.hid (HK5.out.new_ hN)
      have HO6 := Lib.hid (own_ch HO5.out hN (fun _ _ h => h))
      have HRU := Lib.hid (Run_any (c := d) HK6.out (by omega) (HE.out.below HK6.out.below) HSM.out (HO.out.below HK6.out.below))
      clear hN HG HK5 HO5
      go_wp2_with fail
      refine HRU.out.mono ?_
      rintro e w7 ⟨⟨A7, c7, rfl, _⟩, hk7, hc7⟩
      dsimp only
      obtain ⟨cs6, hb6⟩ := HK6.out.blk
      have HO7 := Lib.hid (own_ch HO6.out hc7 (fun g hg e => by subst e; exact own_blk_ne HO6.out hb6 (by decide) hg))
      have HK7 := Lib.hid hk7
      obtain ⟨G, hG⟩ : ∃ G, goodB p = G := ⟨_, rfl⟩
      obtain ⟨l3, hl3⟩ : ∃ l3, (runO f p).length = l3 := ⟨_, rfl⟩
      rw [hG, hl3]
      have HGG := Lib.hid hG
      have HL3 := Lib.hid hl3
      have hm30 : (m : Int) ≤ 30 := by have := ok_len HR2.out; rw [HM.out] at this; omega
      clear hk7 hc7 hb6 hG hl3 HRU HK6 HO6
      go_wp2_with fail
      go_loopw [15, 16, 64] (fun s15 s16 i wr => ∃ j : Nat, j ≤ m ∧ i = .int .i64 j ∧ s15 = .bool (abortB (p.take j)) ∧ s16 = .bool (namedB (p.take j) key) ∧ NewW w7 wr) (fun _ _ i _ => m - (intOf i).toNat)
      case atStart => exact ⟨0, by omega, rfl, rfl, rfl, Ch.refl _ _⟩
      case round =>
        obtain ⟨j, hj, rfl, rfl, rfl, hC⟩ := hrel
        have HC := Lib.hid hC
        clear hC
        by_cases hjm : j < m
        · obtain ⟨o, ho⟩ := some_of_lt (show j < p.length by rw [HM.out]; exact hjm)
          obtain ⟨b2, off2, rfl, y0, y1, y2, y3⟩ := (HO.out.below (HK7.out.new_ HC.out).below).at_ ho
          have HAB := Lib.hid (anyS (f := fun o => o.k == 6) ho)
          have HNM := Lib.hid (anyS (f := fun o => o.key.toList == key.toList) ho)
          obtain ⟨K, ky, val, N⟩ := o
          dsimp only at y0 y1 y2 y3
          have HC2 := Lib.hid (HC.out.alloc (.cells #[.int .i64 K, .string ky, .string val, .int .i64 N] 41))
          obtain ⟨a1, ha1⟩ : ∃ a, abortB (p.take j) = a := ⟨_, rfl⟩
          obtain ⟨a2, ha2⟩ : ∃ a, namedB (p.take j) key = a := ⟨_, rfl⟩
          rw [ha1, ha2]
          have HA1 := Lib.hid (show abortB (p.take (j + 1)) = (a1 || (K == 6)) by rw [← ha1]; exact HAB.out)
          have HA2 := Lib.hid (show namedB (p.take (j + 1)) key = (a2 || (ky.toList == key.toList)) by rw [← ha2]; exact HNM.out)
          clear ho HAB HNM ha1 ha2
          obtain ⟨q1, hq1⟩ : ∃ q, (K == 6) = q := ⟨_, rfl⟩
          obtain ⟨q2, hq2⟩ : ∃ q, (ky.toList == key.toList) = q := ⟨_, rfl⟩
          have hq1' : decide (K = 6) = q1 := by rw [← hq1]; rfl
          rw [hq1] at HA1
          rw [hq2] at HA2
          cases a1 <;> cases a2
          all_goals
            go_wp2_with fail
            exact ⟨⟨j + 1, by omega, by go_num, by rw [HA1.out]; simp, by rw [HA2.out]; simp, HC2.out⟩, by simp [intOf]; omega⟩
        · obtain rfl : j = m := by omega
          have htk : p.take j = p := List.take_of_length_le (by rw [HM.out]; omega)
          rw [htk]
          clear htk hjm hj
          obtain ⟨AB, hAB⟩ : ∃ a, abortB p = a := ⟨_, rfl⟩
          obtain ⟨NB, hNB⟩ : ∃ a, namedB p key = a := ⟨_, rfl⟩
          obtain ⟨E, hE⟩ : ∃ E, rightE p = E := ⟨_, rfl⟩
          rw [hAB, hNB]
          have HNB := Lib.hid hNB
          have HKW := Lib.hid (HK7.out.new_ HC.out)
          have HOW := Lib.hid (own_ch HO7.out HC.out (fun _ _ h => h))
          have HRA := Lib.hid (Right_any (c := d) (HO.out.below HKW.out.below))
          have hgo : G = ((E == 0) && !AB) := by rw [← HGG.out, ← hE, ← hAB]; rfl
          have hlen : l3 = if G then j else 0 := by rw [← HL3.out, runO_len, HGG.out, HM.out]
          rw [hE] at HRA
          clear hAB hNB hE HK7 HO7 HC
          cases AB
          · by_cases hE0 : E = 0
            · subst hE0
              obtain rfl : G = true := by rw [hgo]; rfl
              obtain rfl : l3 = j := by rw [hlen]; rfl
              clear hgo hlen
              go_wp2_with fail
              refine HRA.out.mono ?_
              rintro e w8 ⟨rfl, hN⟩
              dsimp only
              have HKX := Lib.hid (HKW.out.new_ hN)
              have HOX := Lib.hid (own_ch HOW.out hN (fun _ _ h => h))
              clear hN HRA HKW HOW
              cases NB
              · have HG2 := Lib.hid (get_any (key := key) HKX.out HKS.out)
                rw [named_not (f := f) HNB.out, HV.out, HBH.out] at HG2
                go_wp2_with fail
                refine HG2.out.mono ?_
                rintro e w9 ⟨rfl, hN⟩
                dsimp only
                have HKY := Lib.hid (HKX.out.new_ hN)
                have HOY := Lib.hid (own_ch HOX.out hN (fun _ _ h => h))
                clear hN HG2
                go_wp2_with fail
                go_ret
                exact ⟨rfl, HKY.out.below⟩
              · have HG2 := Lib.hid (get_any (key := key) HKX.out HKS.out)
                generalize vOf (runF f p key.data.toList) = V2 at HG2
                generalize hOf (runF f p key.data.toList) = B2 at HG2
                go_wp2_with fail
                refine HG2.out.mono ?_
                rintro e w9 ⟨rfl, hN⟩
                dsimp only
                have HKY := Lib.hid (HKX.out.new_ hN)
                have HOY := Lib.hid (own_ch HOX.out hN (fun _ _ h => h))
                clear hN HG2
                go_wp2_with fail
                go_ret
                exact ⟨rfl, HKY.out.below⟩
            · have hb0 : (E == 0) = false := by simpa using hE0
              have hb1 : (E != 0) = true := by simpa using hE0
              have hb2 : decide (E = 0) = false := by simpa using hE0
              obtain rfl : G = false := by rw [hgo, hb0]; rfl
              obtain rfl : l3 = 0 := by rw [hlen]; rfl
              clear hgo hlen hE0
              go_wp2_with fail
              refine HRA.out.mono ?_
              rintro e w8 ⟨rfl, hN⟩
              dsimp only
              have HKX := Lib.hid (HKW.out.new_ hN)
              have HOX := Lib.hid (own_ch HOW.out hN (fun _ _ h => h))
              clear hN HRA HKW HOW
              cases NB
              · have HG2 := Lib.hid (get_any (key := key) HKX.out HKS.out)
                rw [(run_bad (f := f) HGG.out).2, HV.out, HBH.out] at HG2
                go_wp2_with fail
                refine HG2.out.mono ?_
                rintro e w9 ⟨rfl, hN⟩
                dsimp only
                have HKY := Lib.hid (HKX.out.new_ hN)
                have HOY := Lib.hid (own_ch HOX.out hN (fun _ _ h => h))
                clear hN HG2
                have HAL := Lib.hid (all_same HKY.out (by omega) (show SortedW L (runF f p) by rw [(run_bad (f := f) HGG.out).2]; exact HS.out) (Ch.refl _ _))
                go_wp2_with fail
                refine HAL.out.mono ?_
                rintro e wa ⟨A9, c9, rfl, hW, hN⟩
                dsimp only
                have HNA := Lib.hid hN
                have HWA := Lib.hid hW
                have HSW := Lib.hid (SameWrites_any ((wrs_own HOY.out rfl).new_ HNA.out) HWA.out HL100.out HL100.out (c := c5) (d := c9))
                rw [decide_eq_true rfl] at HSW
                clear hN hW HAL
                go_wp2_with fail
                refine HSW.out.mono ?_
                rintro e wb ⟨rfl, hN⟩
                dsimp only
                have HKZ := Lib.hid ((HKY.out.new_ HNA.out).new_ hN)
                clear hN HSW
                go_wp2_with fail
                go_ret
                exact ⟨rfl, HKZ.out.below⟩
              · have HG2 := Lib.hid (get_any (key := key) HKX.out HKS.out)
                rw [(run_bad (f := f) HGG.out).2, HV.out, HBH.out] at HG2
                go_wp2_with fail
                refine HG2.out.mono ?_
                rintro e w9 ⟨rfl, hN⟩
                dsimp only
                have HKY := Lib.hid (HKX.out.new_ hN)
                have HOY := Lib.hid (own_ch HOX.out hN (fun _ _ h => h))
                clear hN HG2
                have HAL := Lib.hid (all_same HKY.out (by omega) (show SortedW L (runF f p) by rw [(run_bad (f := f) HGG.out).2]; exact HS.out) (Ch.refl _ _))
                go_wp2_with fail
                refine HAL.out.mono ?_
                rintro e wa ⟨A9, c9, rfl, hW, hN⟩
                dsimp only
                have HNA := Lib.hid hN
                have HWA := Lib.hid hW
                have HSW := Lib.hid (SameWrites_any ((wrs_own HOY.out rfl).new_ HNA.out) HWA.out HL100.out HL100.out (c := c5) (d := c9))
                rw [decide_eq_true rfl] at HSW
                clear hN hW HAL
                go_wp2_with fail
                refine HSW.out.mono ?_
                rintro e wb ⟨rfl, hN⟩
                dsimp only
                have HKZ := Lib.hid ((HKY.out.new_ HNA.out).new_ hN)
                clear hN HSW
                go_wp2_with fail
                go_ret
                exact ⟨rfl, HKZ.out.below⟩
          · obtain rfl : G = false := by rw [hgo]; simp
            obtain rfl : l3 = 0 := by rw [hlen]; rfl
            clear hgo hlen
            have HKX := HKW
            have HOX := HOW
            clear HRA HKW HOW
            cases NB
            · have HG2 := Lib.hid (get_any (key := key) HKX.out HKS.out)
              rw [(run_bad (f := f) HGG.out).2, HV.out, HBH.out] at HG2
              go_wp2_with fail
              refine HG2.out.mono ?_
              rintro e w9 ⟨rfl, hN⟩
              dsimp only
              have HKY := Lib.hid (HKX.out.new_ hN)
              have HOY := Lib.hid (own_ch HOX.out hN (fun _ _ h => h))
              clear hN HG2
              have HAL := Lib.hid (all_same HKY.out (by omega) (show SortedW L (runF f p) by rw [(run_bad (f := f) HGG.out).2]; exact HS.out) (Ch.refl _ _))
              go_wp2_with fail
              refine HAL.out.mono ?_
              rintro e wa ⟨A9, c9, rfl, hW, hN⟩
              dsimp only
              have HNA := Lib.hid hN
              have HWA := Lib.hid hW
              have HSW := Lib.hid (SameWrites_any ((wrs_own HOY.out rfl).new_ HNA.out) HWA.out HL100.out HL100.out (c := c5) (d := c9))
              rw [decide_eq_true rfl] at HSW
              clear hN hW HAL
              go_wp2_with fail
              refine HSW.out.mono ?_
              rintro e wb ⟨rfl, hN⟩
              dsimp only
              have HKZ := Lib.hid ((HKY.out.new_ HNA.out).new_ hN)
              clear hN HSW
              go_wp2_with fail
              go_ret
              exact ⟨rfl, HKZ.out.below⟩
            · have HG2 := Lib.hid (get_any (key := key) HKX.out HKS.out)
              rw [(run_bad (f := f) HGG.out).2, HV.out, HBH.out] at HG2
              go_wp2_with fail
              refine HG2.out.mono ?_
              rintro e w9 ⟨rfl, hN⟩
              dsimp only
              have HKY := Lib.hid (HKX.out.new_ hN)
              have HOY := Lib.hid (own_ch HOX.out hN (fun _ _ h => h))
              clear hN HG2
              have HAL := Lib.hid (all_same HKY.out (by omega) (show SortedW L (runF f p) by rw [(run_bad (f := f) HGG.out).2]; exact HS.out) (Ch.refl _ _))
              go_wp2_with fail
              refine HAL.out.mono ?_
              rintro e wa ⟨A9, c9, rfl, hW, hN⟩
              dsimp only
              have HNA := Lib.hid hN
              have HWA := Lib.hid hW
              have HSW := Lib.hid (SameWrites_any ((wrs_own HOY.out rfl).new_ HNA.out) HWA.out HL100.out HL100.out (c := c5) (d := c9))
              rw [decide_eq_true rfl] at HSW
              clear hN hW HAL
              go_wp2_with fail
              refine HSW.out.mono ?_
              rintro e wb ⟨rfl, hN⟩
              dsimp only
              have HKZ := Lib.hid ((HKY.out.new_ HNA.out).new_ hN)
              clear hN HSW
              go_wp2_with fail
              go_ret
              exact ⟨rfl, HKZ.out.below⟩
end Go.Proofs.YtbggadhaaphmcaaDoor
