/- CellsStays: the law's walk. -/
import Derived.Test.YtfcdplfnhjbdnaaFe
import Derived.Deep.DeepCutAuto
namespace Go.Proofs.Ytfcdplfnhjbdnaa
open Go.RowKit Go.Maps
set_option linter.unusedVariables false

set_option maxRecDepth 100000 in
set_option maxHeartbeats 8000000 in
theorem stays_walk (A1 A2 : Option Addr) (n1 c1 n2 c2 : Nat) (key : ByteArray) (w : World) (hA1 : Acts w A1 n1) (hA2 : Acts w A2 n2) (hk : key.size ≤ maxLen) :
    Calls Try.prog 4 #[.slice A1 n1 c1, .slice A2 n2 c2, .string key] w fun e w' => e = .returned (.bool true) ∧ Below w.heap.size w w' := by
  have hfx := Lib.hid (fixed_any w)
  have hmax1 : (n1 : Int) ≤ 9223372036854775807 := by have := hA1.1; unfold maxLen at this; omega
  have hmax2 : (n2 : Int) ≤ 9223372036854775807 := by have := hA2.1; unfold maxLen at this; omega
  have hkk : (key.size : Int) ≤ 9223372036854775807 := by unfold maxLen at hk; omega
  have HA1 := Lib.hid hA1
  have HA2 := Lib.hid hA2
  have HKM := Lib.hid hk
  clear hA1 hA2 hk
  go_enter Try.func4, Try.ntmps4
  go_wp2_with fail
  refine hfx.out.mono ?_
  rintro e w1 ⟨rfl, hb⟩
  dsimp only
  have HB := Lib.hid hb
  have HF1 := Lib.hid (few_any A1 n1 c1 w1 (HA1.out.below hb))
  clear hb hfx
  go_wp2_with fail
  refine HF1.out.mono ?_
  rintro e w2 ⟨fb1, rfl, h60, hN2⟩
  dsimp only
  have HB2 := Lib.hid (Ch.below HB.out hN2 (fun _ h => h.elim) HB.out.size)
  have H60 := Lib.hid h60
  clear h60 hN2 HF1 HB
  cases fb1
  · go_wp2_with fail
    go_ret
    exact ⟨rfl, HB2.out⟩
  have h60 := H60.out rfl
  have HF2 := Lib.hid (few_any A2 n2 c2 w2 (HA2.out.below HB2.out))
  clear H60
  go_wp2_with fail
  refine HF2.out.mono ?_
  rintro e w3 ⟨fb2, rfl, h602, hN3⟩
  dsimp only
  have HB3 := Lib.hid (Ch.below HB2.out hN3 (fun _ h => h.elim) HB2.out.size)
  have H60 := Lib.hid h602
  clear h602 hN3 HF2 HB2
  cases fb2
  · go_wp2_with fail
    go_ret
    exact ⟨rfl, HB3.out⟩
  have h602 := H60.out rfl
  clear H60
  by_cases hk100 : 100 < key.size
  · have d : decide (100 < (key.size : Int)) = true := by simp; omega
    go_wp2_with fail
    go_ret
    exact ⟨rfl, HB3.out⟩
  have dk : decide (100 < (key.size : Int)) = false := by simp; omega
  have dk' : decide (100 < key.size) = false := by simp; omega
  have hk100' : (key.size : Int) ≤ 100 := by omega
  have HNW := Lib.hid (ks_new w w3 HB3.out)
  go_wp2_with fail
  refine HNW.out.mono ?_
  rintro e w4 ⟨rfl, hK4, hN4⟩
  dsimp only
  have HK4 := Lib.hid hK4
  clear hK4 hN4 HNW
  generalize w3.heap.size + 1 = cb at *
  go_wp2_with fail
  go_loopw [37] (fun i w' => ∃ (m : Nat) (s : CS), m ≤ n1 ∧ i = .int .i64 m ∧ s.floor = 0 ∧ KS w m cb s w') (fun i _ => n1 - (intOf i).toNat)
  case atStart => exact ⟨0, emptyS, by omega, rfl, rfl, HK4.out⟩
  case round =>
    obtain ⟨m, s, hm, rfl, hfl, hS⟩ := hrel
    by_cases hlt : m < n1
    · obtain ⟨b0, off, rfl, hb0, hc⟩ := HA1.out.2 (by omega)
      obtain ⟨K, V, H, T, M, hK, hV, hM, hact⟩ := hc m hlt
      obtain ⟨x0, x1, x2, x3, x4⟩ := hact.below hS.below hb0
      have HP := Lib.hid (ks_put (hS.new_ ((Ch.refl _ wr).alloc (.cells #[.string K, .string V, .bool H, .bool T, .int .i64 M] 32))) (by omega) K V H M)
      have HFL := Lib.hid hfl
      clear hc hact hS hM hK hV hfl
      go_wp2_with fail
      refine HP.out.mono ?_
      rintro e w5 ⟨rfl, hK5, _⟩
      dsimp only
      have HK5 := Lib.hid hK5
      clear hK5 HP x0 x1 x2 x3 x4
      go_wp2_with fail
      exact ⟨⟨m + 1, putS s K V H M, by omega, by go_num, by rw [put_floor]; exact HFL.out, HK5.out⟩, by simp [intOf]; omega⟩
    · obtain rfl : m = n1 := by omega
      have HL := Lib.hid (ks_last hS)
      have HG := Lib.hid (ks_get hS (by omega) HKM.out)
      have HFL := Lib.hid hfl
      have HS := Lib.hid hS
      clear hlt hm hS HK4 hfl
      go_wp2_with fail
      refine HL.out.mono ?_
      rintro e w5 ⟨rfl, rfl⟩
      dsimp only
      go_wp2_with fail
      refine HG.out.mono ?_
      rintro e w6 ⟨rfl, hK6, _⟩
      dsimp only
      have HK6 := Lib.hid hK6
      clear hK6 HL HG
      go_wp2_with fail
      go_loopw [10, 11, 12, 62] (fun at' was had i w' => ∃ (j : Nat) (s : CS), j ≤ n2 ∧ i = .int .i64 j ∧ at' = .int .i64 s.last ∧ was = .string (valOf (s.f key.data.toList) maxClock).1 ∧ had = .bool (valOf (s.f key.data.toList) maxClock).2 ∧ s.floor = 0 ∧ KS w (m + j) cb s w') (fun _ _ _ i _ => n2 - (intOf i).toNat)
      case atStart => exact ⟨0, s, by omega, rfl, rfl, rfl, rfl, HFL.out, HK6.out⟩
      case round =>
        clear HK6 HFL HS
        obtain ⟨j, t, hj, rfl, rfl, rfl, rfl, hfl, hS⟩ := hrel
        by_cases hlt : j < n2
        · obtain ⟨b0, off, rfl, hb0, hc⟩ := HA2.out.2 (by omega)
          obtain ⟨K, V, H, T, M, hK, hV, hM, hact⟩ := hc j hlt
          obtain ⟨x0, x1, x2, x3, x4⟩ := hact.below hS.below hb0
          have BX := Lib.hid (Blk.new wr 32 #[.string K, .string V, .bool H, .bool T, .int .i64 M])
          have hS' := hS.new_ ((Ch.refl _ wr).alloc (.cells #[.string K, .string V, .bool H, .bool T, .int .i64 M] 32))
          have HP := Lib.hid (ks_put hS' (by omega) K V H M)
          have HG := Lib.hid hS.good
          have HFL := Lib.hid hfl
          clear hc hact hS hM hK hV hfl hS'
          go_upto_region 16 with (fail)
          clear x0 x1 x2 x3 x4
          generalize wr.alloc (.cells #[.string K, .string V, .bool H, .bool T, .int .i64 M] 32) = wb at *
          generalize wr.heap.size = g at *
          have e0 : wb.cell? ⟨g, 0, none⟩ = some (.string K) := by rw [BX.out.cell]; rfl
          have e1 : wb.cell? ⟨g, 1, none⟩ = some (.string V) := by rw [BX.out.cell]; rfl
          have e2 : wb.cell? ⟨g, 2, none⟩ = some (.bool H) := by rw [BX.out.cell]; rfl
          have e4 : wb.cell? ⟨g, 4, none⟩ = some (.int .i64 M) := by rw [BX.out.cell]; rfl
          obtain ⟨L, hL⟩ : ∃ L, t.last = L := ⟨_, rfl⟩
          have HL := Lib.hid hL
          rw [hL]
          clear hL
          obtain ⟨was, had, hwh⟩ : ∃ was had, valOf (t.f key.data.toList) maxClock = (was, had) := ⟨_, _, rfl⟩
          have HWH := Lib.hid hwh
          rw [hwh]
          clear hwh
          dsimp only
          by_cases hML : M ≤ L
          · have d1 : decide (M ≤ L) = true := by simpa using hML
            by_cases hE : putE t K V M = 0
            · obtain rfl : M = L := by have := put_ge hE; have := HL.out; omega
              have hlast := put_last (H := H) hE
              have HE := Lib.hid hE
              rw [hE] at HP
              clear hE
              go_wp2_with fail
              refine HP.out.mono ?_
              rintro e w5 ⟨rfl, hK5, hp5⟩
              dsimp only
              have hb5 := hp5 _ _ _ (by decide) (by decide) BX.out
              have f0 : w5.cell? ⟨g, 0, none⟩ = some (.string K) := by rw [hb5.cell]; rfl
              have f1 : w5.cell? ⟨g, 1, none⟩ = some (.string V) := by rw [hb5.cell]; rfl
              have f2 : w5.cell? ⟨g, 2, none⟩ = some (.bool H) := by rw [hb5.cell]; rfl
              have f4 : w5.cell? ⟨g, 4, none⟩ = some (.int .i64 M) := by rw [hb5.cell]; rfl
              have HL2 := Lib.hid (ks_last hK5)
              have HLN := Lib.hid (fun k => ks_last (hK5.new_ ((Ch.refl (fun _ => False) w5).drewN k)))
              have HKN := Lib.hid (fun k => hK5.new_ ((Ch.refl (fun _ => False) w5).drewN k))
              have HK5 := Lib.hid hK5
              clear hK5 hp5 hb5 HP e0 e1 e2 e4 BX
              rw [hlast] at HL2 HLN
              have HLA := Lib.hid hlast
              have d2 : decide (M < M) = false := by simp
              clear hlast
              by_cases hkey : K = key
              · subst hkey
                have HV := Lib.hid (stay_key (H := H) HG.out HE.out (put_max HE.out))
                cases H
                · go_wp2_with fail
                  go_quiet (fail)
                  go_wp2_with (first | (go_at_call 11; refine (HLN.out _).mono ?_; rintro e w7 ⟨rfl, rfl⟩))
                  exact ⟨⟨j + 1, putS t K V false M, by omega, by go_num, by rw [HLA.out], by rw [HV.out]; rfl, by rw [HV.out], by rw [put_floor]; exact HFL.out, HKN.out _⟩, by simp [intOf]; omega⟩
                · go_wp2_with fail
                  go_quiet (fail)
                  go_wp2_with (first | (go_at_call 11; refine (HLN.out _).mono ?_; rintro e w7 ⟨rfl, rfl⟩))
                  exact ⟨⟨j + 1, putS t K V true M, by omega, by go_num, by rw [HLA.out], by rw [HV.out]; rfl, by rw [HV.out], by rw [put_floor]; exact HFL.out, HKN.out _⟩, by simp [intOf]; omega⟩
              · have hkey' : ¬ key.data.toList = K.data.toList := fun e => hkey (by cases K; cases key; simp at e; rw [e])
                have HV := Lib.hid (show valOf ((putS t K V H M).f key.data.toList) maxClock = (was, had) from by rw [put_is HE.out, if_neg hkey']; exact HWH.out)
                have dk2 : (K.toList == key.toList) = false := by rw [ByteArray.toList_eq, ByteArray.toList_eq, beq_eq_false_iff_ne]; exact fun e => hkey' e.symm
                clear hkey'
                go_wp2_with (first | (go_at_call 11; refine HL2.out.mono ?_; rintro e w7 ⟨rfl, rfl⟩))
                exact ⟨⟨j + 1, putS t K V H M, by omega, by go_num, by rw [HLA.out], by rw [HV.out], by rw [HV.out], by rw [put_floor]; exact HFL.out, HK5.out⟩, by simp [intOf]; omega⟩
            · have dE : (putE t K V M == 0) = false := by simpa using hE
              rw [put_no hE] at HP
              obtain ⟨EE, hEE⟩ : ∃ EE, putE t K V M = EE := ⟨_, rfl⟩
              rw [hEE] at HP dE
              have HLA := HL
              clear hE hEE
              go_wp2_with fail
              refine HP.out.mono ?_
              rintro e w5 ⟨rfl, hK5, hp5⟩
              dsimp only
              have hb5 := hp5 _ _ _ (by decide) (by decide) BX.out
              have f0 : w5.cell? ⟨g, 0, none⟩ = some (.string K) := by rw [hb5.cell]; rfl
              have f1 : w5.cell? ⟨g, 1, none⟩ = some (.string V) := by rw [hb5.cell]; rfl
              have f2 : w5.cell? ⟨g, 2, none⟩ = some (.bool H) := by rw [hb5.cell]; rfl
              have f4 : w5.cell? ⟨g, 4, none⟩ = some (.int .i64 M) := by rw [hb5.cell]; rfl
              have HL2 := Lib.hid (ks_last hK5)
              have HLN := Lib.hid (fun k => ks_last (hK5.new_ ((Ch.refl (fun _ => False) w5).drewN k)))
              have HKN := Lib.hid (fun k => hK5.new_ ((Ch.refl (fun _ => False) w5).drewN k))
              have HK5 := Lib.hid hK5
              clear hK5 hp5 hb5 HP e0 e1 e2 e4 BX
              rw [HL.out] at HL2
              have d2 : decide (L < L) = false := by simp
              by_cases d3 : M < L
              · have d3' : decide (M < L) = true := by simpa using d3
                go_wp2_with (first | (go_at_call 11; refine HL2.out.mono ?_; rintro e w7 ⟨rfl, rfl⟩))
                exact ⟨⟨j + 1, t, by omega, by go_num, by rw [HL.out], by rw [HWH.out], by rw [HWH.out], HFL.out, HK5.out.mono (by omega)⟩, by simp [intOf]; omega⟩
              · have d3' : decide (M < L) = false := by simpa using d3
                go_wp2_with (first | (go_at_call 11; refine HL2.out.mono ?_; rintro e w7 ⟨rfl, rfl⟩))
                exact ⟨⟨j + 1, t, by omega, by go_num, by rw [HL.out], by rw [HWH.out], by rw [HWH.out], HFL.out, HK5.out.mono (by omega)⟩, by simp [intOf]; omega⟩
          · have d1 : decide (M ≤ L) = false := by simpa using hML
            have HSA := Lib.hid (stay_at (s := t) (M := M) (K := K) (V := V) (H := H) HG.out (by rw [HL.out]; omega) key.data.toList)
            have hl0 := HG.out.l0
            have hl1 := HG.out.l1
            rw [HL.out] at hl0 hl1
            go_wp2_with fail
            refine HP.out.mono ?_
            rintro e w5 ⟨rfl, hK5, hp5⟩
            dsimp only
            have hb5 := hp5 _ _ _ (by decide) (by decide) BX.out
            have f0 : w5.cell? ⟨g, 0, none⟩ = some (.string K) := by rw [hb5.cell]; rfl
            have f1 : w5.cell? ⟨g, 1, none⟩ = some (.string V) := by rw [hb5.cell]; rfl
            have f2 : w5.cell? ⟨g, 2, none⟩ = some (.bool H) := by rw [hb5.cell]; rfl
            have f4 : w5.cell? ⟨g, 4, none⟩ = some (.int .i64 M) := by rw [hb5.cell]; rfl
            have HL2 := Lib.hid (ks_last hK5)
            have HLN := Lib.hid (fun k => ks_last (hK5.new_ ((Ch.refl (fun _ => False) w5).drewN k)))
            have HKN := Lib.hid (fun k => hK5.new_ ((Ch.refl (fun _ => False) w5).drewN k))
            have HK5 := Lib.hid hK5
            clear hK5 hp5 hb5 HP e0 e1 e2 e4 BX
            have HAT := Lib.hid (ks_at HK5.out (by omega) HKM.out L)
            have hat : atE (putS t K V H M) L = 0 := by
              unfold atE
              rw [put_floor, HFL.out, if_neg (by omega), if_neg (by omega)]
            have hav : atV (putS t K V H M) key.data.toList L = (was, had) := by
              unfold atV
              rw [if_pos hat]
              have := HSA.out
              rw [HL.out, HWH.out] at this
              exact this
            rw [hat, hav] at HAT
            clear hat hav HSA
            go_wp2_with fail
            refine HAT.out.mono ?_
            rintro e w6 ⟨rfl, hK6, _⟩
            dsimp only
            have HL6 := Lib.hid (ks_last hK6)
            have HG6 := Lib.hid (ks_get hK6 (by omega) HKM.out)
            have HK6 := Lib.hid hK6
            clear hK6 HAT
            by_cases hE : putE t K V M = 0
            · have hlast := put_last (H := H) hE
              rw [hlast] at HL6
              have HLA := Lib.hid hlast
              have d5 : decide (L < M) = true := by simp; omega
              clear hlast hE
              obtain ⟨vo, hvo⟩ : ∃ vo, valOf ((putS t K V H M).f key.data.toList) maxClock = vo := ⟨_, rfl⟩
              rw [hvo] at HG6
              have HVO := Lib.hid hvo
              clear hvo
              go_wp2_with (first | (go_at_call 11; refine HL6.out.mono ?_; rintro e w7 ⟨rfl, rfl⟩) | (go_at_call 18; refine HG6.out.mono ?_; rintro e w8 ⟨rfl, hK8, _⟩; have HK8 := Lib.hid hK8; clear hK8))
              exact ⟨⟨j + 1, putS t K V H M, by omega, by go_num, by rw [HLA.out], by rw [HVO.out], by rw [HVO.out], by rw [put_floor]; exact HFL.out, HK8.out⟩, by simp [intOf]; omega⟩
            · rw [put_no hE, HL.out] at HL6
              have d5 : decide (L < L) = false := by simp
              have HKT := Lib.hid (show KS w (m + j + 1) cb t w6 from by have := HK6.out; rw [put_no hE] at this; exact this)
              clear hE
              go_wp2_with (first | (go_at_call 11; refine HL6.out.mono ?_; rintro e w7 ⟨rfl, rfl⟩))
              exact ⟨⟨j + 1, t, by omega, by go_num, by rw [HL.out], by rw [HWH.out], by rw [HWH.out], HFL.out, HKT.out⟩, by simp [intOf]; omega⟩
        · obtain rfl : j = n2 := by omega
          have HB9 := Lib.hid hS.below
          clear hlt hj hS hfl
          go_wp2_with fail
          go_ret
          exact ⟨rfl, HB9.out⟩
end Go.Proofs.Ytfcdplfnhjbdnaa
