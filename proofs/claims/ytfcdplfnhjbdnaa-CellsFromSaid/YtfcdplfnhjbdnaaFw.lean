/- CellsFrom: the law's walk. -/
import Derived.Test.YtfcdplfnhjbdnaaFk
import Derived.Deep.DeepCutAuto
import Derived.Deep.RegionHeld3
namespace Go.Proofs.Ytfcdplfnhjbdnaa
open Go.RowKit Go.Maps
set_option linter.unusedVariables false

set_option maxRecDepth 100000 in
set_option maxHeartbeats 8000000 in
theorem from_walk (A1 A2 : Option Addr) (n1 c1 n2 c2 : Nat) (fl : Int) (w : World) (hA1 : Acts w A1 n1)
    (hA2 : ∃ cs : List Cell, cs.length = n2 ∧ n2 ≤ maxLen ∧ RdC w A2 cs ∧ ∀ x ∈ cs, x.1.length ≤ maxLen ∧ x.2.length ≤ maxLen ∧ ∀ v ∈ x.2, v.val.size ≤ maxLen) :
    Calls Try.prog 6 #[.slice A1 n1 c1, .slice A2 n2 c2, .int .i64 fl] w fun e w' => e = .returned (.bool true) ∧ Below w.heap.size w w' := by
  obtain ⟨cs, hcl, hcm, hrd, hkv⟩ := hA2
  have hfx := Lib.hid (fixed_any w)
  have hmax1 : (n1 : Int) ≤ 9223372036854775807 := by have := hA1.1; unfold maxLen at this; omega
  have hmax2 : (n2 : Int) ≤ 9223372036854775807 := by unfold maxLen at hcm; omega
  have HA1 := Lib.hid hA1
  have HCL := Lib.hid hcl
  have HRD := Lib.hid hrd
  have HKV := Lib.hid hkv
  clear hA1 hcl hrd hkv hcm
  go_enter Try.func6, Try.ntmps6
  go_wp2_with fail
  refine hfx.out.mono ?_
  rintro e w1 ⟨rfl, hb⟩
  dsimp only
  have HB := Lib.hid hb
  have HF1 := Lib.hid (few_any A1 n1 c1 w1 (HA1.out.below hb))
  clear hb hfx
  go_wp2_with fail
  refine HF1.out.mono ?_
  rintro e w3 ⟨fb1, rfl, h60, hN2⟩
  dsimp only
  have HB3 := Lib.hid (Ch.below HB.out hN2 (fun _ h => h.elim) HB.out.size)
  have H60 := Lib.hid h60
  clear h60 hN2 HF1 HB
  cases fb1
  · go_wp2_with fail
    go_ret
    exact ⟨rfl, HB3.out⟩
  have h60 := H60.out rfl
  clear H60
  by_cases hk20 : 20 < n2
  · have d : decide (20 < (n2 : Int)) = true := by simp; omega
    have d' : decide (20 < n2) = true := by simpa using hk20
    go_wp2_with fail
    go_ret
    exact ⟨rfl, HB3.out⟩
  have dk : decide (20 < (n2 : Int)) = false := by simp; omega
  have dk' : decide (20 < n2) = false := by simp; omega
  have hk20' : (n2 : Int) ≤ 20 := by omega
  have HNW := Lib.hid (ks_new w w3 HB3.out)
  go_wp2_with fail
  refine HNW.out.mono ?_
  rintro e w4 ⟨rfl, hK4, hN4⟩
  dsimp only
  have HD4 := Lib.hid (ds_new hK4)
  clear hK4 hN4 HNW
  generalize w3.heap.size + 1 = ca at *
  go_upto_region 6 with (fail)
  generalize w4.alloc (.cells #[.slice none 0 0, .int .i64 0, .int .i64 0] 30) = w5 at *
  generalize w4.heap.size = rb at *
  go_wp2_with fail
  go_loopw [34] (fun i w' => ∃ (q : Nat) (s : CS) (L : List Was), q ≤ n1 ∧ i = .int .i64 q ∧ Inv s ∧ DS w q ca rb s L w') (fun i _ => n1 - (intOf i).toNat)
  case atStart => exact ⟨0, emptyS, [], by omega, rfl, inv_empty, HD4.out⟩
  case round =>
    obtain ⟨q, s, L, hq, rfl, hvo, hD⟩ := hrel
    by_cases hlt : q < n1
    · obtain ⟨b0, off, rfl, hb0, hc⟩ := HA1.out.2 (by omega)
      obtain ⟨K, V, H, T, M, hK, hV, hM, hact⟩ := hc q hlt
      obtain ⟨x0, x1, x2, x3, x4⟩ := hact.below hD.ks.below hb0
      have BX := Lib.hid (Blk.new wr 32 #[.string K, .string V, .bool H, .bool T, .int .i64 M])
      have HP := Lib.hid (do_any (hD.new_ ((Ch.refl _ wr).alloc (.cells #[.string K, .string V, .bool H, .bool T, .int .i64 M] 32))) (by omega) K V H T M)
      have HVO := Lib.hid (inv_do hvo hD.ks.good K V H T M)
      clear hc hact hD hM hK hV hvo
      go_wp2_with fail
      refine HP.out.mono ?_
      rintro e w6 ⟨rfl, hD6⟩
      dsimp only
      have HD6 := Lib.hid hD6
      clear HP BX hD6 x0 x1 x2 x3 x4
      go_wp2_with fail
      exact ⟨⟨q + 1, _, _, by omega, by go_num, HVO.out, HD6.out⟩, by simp [intOf]; omega⟩
    · obtain rfl : q = n1 := by omega
      have hL6 : L.length ≤ 60 := by have := hD.len; omega
      have HIV := Lib.hid hvo
      have HD := Lib.hid hD
      have HAL0 := Lib.hid (ks_all hD.ks (by omega))
      clear hlt hq HD4 hvo hD
      go_wp2_with fail
      refine HAL0.out.mono ?_
      rintro e w6 ⟨A, c, ks, hks, _, hkl, rfl, hra, hN6⟩
      dsimp only
      have HD6 := Lib.hid (HD.out.new_ hN6)
      have HFL0 := Lib.hid (ks_floor HD6.out.ks)
      have HBK := Lib.hid (ks_back (c := c) HD6.out.ks.below HIV.out HD6.out.ks.good (fun k => by have := HD6.out.ks.len k; omega) hks (by omega) hra)
      obtain ⟨FF, hFF⟩ : ∃ FF, s.floor = FF := ⟨_, rfl⟩
      obtain ⟨LL, hLL⟩ : ∃ LL, s.last = LL := ⟨_, rfl⟩
      rw [hFF] at HFL0 HBK
      rw [hLL] at HBK
      have HFF := Lib.hid hFF
      have HLL := Lib.hid hLL
      clear hks hkl hra hN6 HAL0 HD hFF hLL
      go_wp2_with fail
      refine HFL0.out.mono ?_
      rintro e w7 ⟨rfl, rfl⟩
      dsimp only
      go_wp2_with fail
      refine HBK.out.mono ?_
      rintro e wr ⟨hN8, x, L2, rfl, hL2, hX⟩
      dsimp only
      have hD := HD6.out.new_ hN8
      obtain ⟨v, hr⟩ := hD.rm
      have hHS : ∀ w', Ch (fun _ => False) wr w' → w'.cell? ⟨rb, 1, none⟩ = some (.int .i64 s.last) ∧ w'.cell? ⟨rb, 2, none⟩ = some (.int .i64 s.floor) := fun w' hc => ⟨(hr.new_ hc).c1, (hr.new_ hc).c2⟩
      have hLA : ∀ w', Ch (fun _ => False) wr w' → Calls Try.prog 11 #[.pointer (some ⟨x, 0, none⟩)] w' fun e w'' => e = .returned (.int .i64 L2) ∧ w' = w'' := fun w' hc => ks_last (hX.new_ hc)
      have hFL : ∀ w', Ch (fun _ => False) wr w' → Calls Try.prog 12 #[.pointer (some ⟨x, 0, none⟩)] w' fun e w'' => e = .returned (.int .i64 FF) ∧ w' = w'' := fun w' hc => ks_floor (hX.new_ hc)
      have hAL : ∀ w', Ch (fun _ => False) wr w' → Calls Try.prog 14 #[.pointer (some ⟨x, 0, none⟩)] w' fun e w'' => ∃ A c ks, KeysIn s ks ∧ ks.length ≤ 60 ∧ e = .returned (.slice A ks.length c) ∧ RdC w'' A (cellsOf s.f ks) ∧ Ch (fun _ => False) wr w'' ∧ Ch (fun _ => False) w' w'' :=
        fun w' hc => (ks_all (hX.new_ hc) (by omega)).mono fun e w'' ⟨A, c, ks, h1, _, h2, h3, h4, h5⟩ => ⟨A, c, ks, h1, by omega, h3, h4, hc.trans' h5, h5⟩
      have hCL : ∀ w', Ch (fun _ => False) wr w' → Calls Try.prog 15 #[.pointer (some ⟨rb, 0, none⟩)] w' fun e w'' => ∃ A c ks, KeysIn s ks ∧ ks.length ≤ 60 ∧ e = .returned (.slice A ks.length c) ∧ RdC w'' A (cellsOf s.f ks) ∧ Ch (fun _ => False) wr w'' ∧ Ch (fun _ => False) w' w'' :=
        fun w' hc => (rcells_any (hr.new_ hc) (by omega)).mono fun e w'' ⟨A, c, ks, h1, h2, h3, h4, h5⟩ => ⟨A, c, ks, keysR_in hD.rel h1, by omega, h3, by rw [← cells_eq hD.rel]; exact h4, hc.trans' h5, h5⟩
      have hSA : ∀ (ks : List (List UInt8)) (A1 A2 : Option Addr) (c1 c2 : Nat) w', Ch (fun _ => False) wr w' → ks.length ≤ 60 → RdC w' A1 (cellsOf s.f ks) → RdC w' A2 (cellsOf s.f ks) → Calls Try.prog 13 #[.slice A1 ks.length c1, .slice A2 ks.length c2] w' fun e w'' => e = .returned (.bool true) ∧ Ch (fun _ => False) wr w'' :=
        fun ks A1 A2 c1 c2 w' hc hl h1 h2 => (same_any (cellsOf s.f ks) A1 A2 ks.length c1 c2 w' h1 h2 (by simp [cellsOf]) (by omega) (fun x hx => by
          obtain ⟨k, _, rfl⟩ := List.mem_map.1 hx
          have := hD.ks.len k
          show (s.f k).length ≤ _
          omega)).mono fun e w'' ⟨h3, h4⟩ => ⟨h3, hc.trans' h4⟩
      have hBW : ∀ w', Ch (fun _ => False) wr w' → Below w.heap.size w w' := fun w' hc => (hD.new_ hc).ks.below
      rw [HLL.out, HFF.out] at hHS
      have hff : (FF != FF) = false := by simp
      have hl2 : decide (LL < L2) = false := by simp; omega
      obtain ⟨cl, cf⟩ := hHS wr (Ch.refl _ _)
      have HHS := Lib.hid hHS
      have HLA := Lib.hid hLA
      have HFL := Lib.hid hFL
      have HAL := Lib.hid hAL
      have HCL2 := Lib.hid hCL
      have HSA := Lib.hid hSA
      have HBW := Lib.hid hBW
      clear hHS hLA hFL hAL hCL hSA hBW hD hr hX hN8 hL2 HD6 HFL0 HBK HIV HFF HLL
      go_wp2_with fail
      go_region_held3 (fun w' => w'.cell? ⟨rb, 1, none⟩ = some (.int .i64 LL) ∧ w'.cell? ⟨rb, 2, none⟩ = some (.int .i64 FF)) (exact HHS.out _ (by repeat (first | with_reducible exact hNc | with_reducible exact hNb | with_reducible exact hNa | with_reducible exact Ch.refl _ _ | with_reducible refine Ch.drew ?_ | with_reducible refine Ch.drewN ?_ _)))
        (first
          | (go_at_call 11; refine (HLA.out _ (by repeat (first | with_reducible exact hNc | with_reducible exact hNb | with_reducible exact hNa | with_reducible exact Ch.refl _ _ | with_reducible refine Ch.drew ?_ | with_reducible refine Ch.drewN ?_ _))).mono ?_; rintro e wl ⟨rfl, rfl⟩)
          | (go_at_call 12; refine (HFL.out _ (by repeat (first | with_reducible exact hNc | with_reducible exact hNb | with_reducible exact hNa | with_reducible exact Ch.refl _ _ | with_reducible refine Ch.drew ?_ | with_reducible refine Ch.drewN ?_ _))).mono ?_; rintro e wl ⟨rfl, rfl⟩)
          | (go_at_call 14; refine (HAL.out _ (by repeat (first | with_reducible exact hNc | with_reducible exact hNb | with_reducible exact hNa | with_reducible exact Ch.refl _ _ | with_reducible refine Ch.drew ?_ | with_reducible refine Ch.drewN ?_ _))).mono ?_; rintro e wa ⟨Aa, qa, ka, hka, hla, rfl, hra, hNa, hSa⟩)
          | (go_at_call 15; refine (HCL2.out _ (by repeat (first | with_reducible exact hNc | with_reducible exact hNb | with_reducible exact hNa | with_reducible exact Ch.refl _ _ | with_reducible refine Ch.drew ?_ | with_reducible refine Ch.drewN ?_ _))).mono ?_; rintro e wb ⟨Ab, qb, kb, hkb, hlb, rfl, hrb, hNb, hSb⟩)
          | (go_at_call 13; obtain rfl := keys_eq hkb hka; refine (HSA.out kb Aa Ab qa qb _ (by repeat (first | with_reducible exact hNc | with_reducible exact hNb | with_reducible exact hNa | with_reducible exact Ch.refl _ _ | with_reducible refine Ch.drew ?_ | with_reducible refine Ch.drewN ?_ _)) hla (by first | exact hra | exact hra.new_ hSb | exact hra.new_ (Ch.drew hSb)) (by first | exact hrb | exact hrb.new_ hSa | exact hrb.new_ (Ch.drew hSa))).mono ?_; rintro e wc ⟨rfl, hNc⟩))
      all_goals
        have HB9 := Lib.hid (HBW.out _ hNc)
        have HRD9 := Lib.hid (HRD.out.below HB9.out)
        clear hNc hNa hNb hSa hSb hra hrb hka hkb hla hlb cl cf HAL HCL2 HSA HLA HFL HHS HBW
        go_wp2_with fail
        go_loopw [81] (fun i w' => ∃ j : Nat, j ≤ n2 ∧ i = .int .i64 j ∧ (∀ x ∈ cs.take j, x.2.length ≤ 20 ∧ x.1.length ≤ 100) ∧ Below w.heap.size w w') (fun i _ => n2 - (intOf i).toNat)
        case atStart => exact ⟨0, by omega, rfl, by simp, by first | exact HB9.out | exact HB9.out.drew⟩
        case round =>
          obtain ⟨j, hj, rfl, hsm, hC⟩ := hrel
          by_cases hlt : j < n2
          · obtain ⟨y, hy⟩ := some_of_lt (L := cs) (i := j) (by have := HCL.out; omega)
            obtain ⟨k, l⟩ := y
            obtain ⟨hkl, hll, _⟩ := HKV.out _ (mem_of_some hy)
            have hkl : k.length ≤ maxLen := hkl
            have hll : l.length ≤ maxLen := hll
            obtain ⟨g, off, rfl, z0, A', c', z1, hrv⟩ := (HRD.out.below hC).at_ hy
            obtain ⟨kb, hkb, hkd⟩ := enc_form k
            rw [hkb] at z0
            have hks : kb.size = k.length := by rw [← hkd]; exact (size_list kb).symm
            have HSM := Lib.hid hsm
            have HY := Lib.hid hy
            have HBN := Lib.hid (Ch.below hC ((Ch.refl (fun _ => False) wr).alloc (.cells #[.string kb, .slice A' l.length c'] 58)) (fun _ h => h.elim) hC.size)
            have HKS := Lib.hid hks
            have hkm : (kb.size : Int) ≤ 9223372036854775807 := by rw [hks]; unfold maxLen at hkl; omega
            have hlm : (l.length : Int) ≤ 9223372036854775807 := by unfold maxLen at hll; omega
            clear hsm hC hy hkb hkd hkl hll hrv hks
            generalize hln : l.length = ln at *
            have HLN := Lib.hid hln
            clear hln
            by_cases h1 : 20 < ln
            · have d1 : decide (20 < (ln : Int)) = true := by simp; omega
              have d1' : decide (20 < ln) = true := by simp; omega
              clear hkm
              go_wp2_with fail
              go_ret
              exact ⟨rfl, HBN.out⟩
            · have d1 : decide (20 < (ln : Int)) = false := by simp; omega
              have d1' : decide (20 < ln) = false := by simp; omega
              by_cases h2 : 100 < kb.size
              · have d2 : decide (100 < (kb.size : Int)) = true := by simp; omega
                have d2' : decide (100 < kb.size) = true := by simp; omega
                go_wp2_with fail
                go_ret
                exact ⟨rfl, HBN.out⟩
              · have d2 : decide (100 < (kb.size : Int)) = false := by simp; omega
                have d2' : decide (100 < kb.size) = false := by simp; omega
                go_wp2_with fail
                refine ⟨⟨j + 1, by omega, by go_num, fun x hx => ?_, HBN.out⟩, by simp [intOf]; omega⟩
                rw [List.take_add_one, HY.out] at hx
                rcases List.mem_append.1 hx with hx | hx
                · exact HSM.out x hx
                · simp at hx
                  subst hx
                  have h3 := HLN.out
                  have h4 := HKS.out
                  exact ⟨by show l.length ≤ 20; omega, by show k.length ≤ 100; omega⟩
          · obtain rfl : j = n2 := by omega
            rw [← HCL.out, List.take_length] at hsm
            have HFR := Lib.hid (ks_from hC cs A2 c2 fl (HRD.out.below hC) (N := 20) (by omega) (by have := HCL.out; omega) (fun x hx => ⟨(HKV.out x hx).1, (hsm x hx).1, (HKV.out x hx).2.2⟩))
            have HSM := Lib.hid hsm
            have HC := Lib.hid hC
            rw [HCL.out] at HFR
            clear hsm hC hlt hj
            go_wp2_with fail
            refine HFR.out.mono ?_
            rintro e w9 ⟨hN9, h⟩
            have HW9 := Lib.hid (Ch.below HC.out hN9 (fun _ h => h.elim) HC.out.size)
            clear hN9 HFR
            rcases h with ⟨hok, x, rfl, hX⟩ | ⟨hok, rfl⟩
            · dsimp only
              obtain ⟨q0, q1, q2⟩ := okF_facts hok
              obtain ⟨t1, t2⟩ := fromS_trim q2
              have HTR := Lib.hid (ks_trim hX (by omega) fl (by unfold trimE; rw [if_neg (by omega), if_neg (by show ¬ fl < fl; omega)]))
              rw [t1] at HTR
              have HT2 := Lib.hid t2
              have HQ2 := Lib.hid q2
              clear hX hok q0 q1 q2 t1 t2
              go_wp2_with fail
              refine HTR.out.mono ?_
              rintro e w10 ⟨ks', _, rfl, hK, _⟩
              rw [HT2.out]
              dsimp only
              have HAL := Lib.hid (ks_all hK (by omega))
              have HKB := Lib.hid hK
              clear hK HTR
              go_wp2_with fail
              refine HAL.out.mono ?_
              rintro e w11 ⟨A, c, kz, hkz, _, _, rfl, hra, hN11⟩
              obtain rfl := keys_eq hkz (fromS_keys HQ2.out)
              rw [fromS_cells HQ2.out] at hra
              rw [List.length_map, HCL.out]
              dsimp only
              have hK11 := HKB.out.new_ hN11
              have HB11 := Lib.hid hK11.below
              have HSM := Lib.hid (same_any cs A A2 j c c2 w11 hra (HRD.out.below HB11.out) HCL.out (by omega) (fun x hx => by have := (HSM.out x hx).1; omega))
              clear hkz hra hN11 hK11 HKB HAL
              go_wp2_with fail
              refine HSM.out.mono ?_
              rintro e w12 ⟨rfl, hN12⟩
              dsimp only
              have HE := Lib.hid (Ch.below HB11.out hN12 (fun _ h => h.elim) HB11.out.size)
              clear hN12 HSM
              go_wp2_with fail
              go_ret
              exact ⟨rfl, HE.out⟩
            · dsimp only
              clear hok
              go_wp2_with fail
              go_ret
              exact ⟨rfl, HW9.out⟩
end Go.Proofs.Ytfcdplfnhjbdnaa
