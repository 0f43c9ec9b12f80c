/- CellsTrim: the law's walk. -/
import Derived.Test.YtfcdplfnhjbdnaaTs
import Derived.Deep.DeepCutAuto
namespace Go.Proofs.Ytfcdplfnhjbdnaa
open Go.RowKit Go.Maps
set_option linter.unusedVariables false

/-- A slice of moments. -/
def Asks (w : World) (A : Option Addr) (n : Nat) : Prop :=
  n ≤ maxLen ∧ (0 < n → ∃ b off, A = some ⟨b, off, none⟩ ∧ b < w.heap.size ∧ ∀ i, i < n → ∃ x : Int, (Lit.int .i64 x).wf = true ∧ w.cell? ⟨b, off + i, none⟩ = some (.int .i64 x))
set_option maxRecDepth 100000 in
set_option maxHeartbeats 8000000 in
theorem trim_walk (A1 : Option Addr) (n1 c1 : Nat) (fl : Int) (A2 : Option Addr) (n2 c2 : Nat) (key : ByteArray) (w : World) (hA1 : Acts w A1 n1) (hA2 : Asks w A2 n2) (hk : key.size ≤ maxLen) :
    Calls Try.prog 5 #[.slice A1 n1 c1, .int .i64 fl, .slice A2 n2 c2, .string key] w fun e w' => e = .returned (.bool true) ∧ Below w.heap.size w w' := by
  have hfx := Lib.hid (fixed_any w)
  have hmax1 : (n1 : Int) ≤ 9223372036854775807 := by have := hA1.1; unfold maxLen at this; omega
  have hmax2 : (n2 : Int) ≤ 9223372036854775807 := by have := hA2.1; unfold maxLen at this; omega
  have hkk : (key.size : Int) ≤ 9223372036854775807 := by unfold maxLen at hk; omega
  have HA1 := Lib.hid hA1
  have HA2 := Lib.hid hA2
  have HKM := Lib.hid hk
  clear hA1 hA2 hk
  go_enter Try.func5, Try.ntmps5
  go_wp2_with fail
  refine hfx.out.mono ?_
  rintro e w1 ⟨rfl, hb⟩
  dsimp only
  have HB := Lib.hid hb
  have HF1 := Lib.hid (few_any A1 n1 c1 w1 (HA1.out.below hb))
  clear hb hfx
  go_wp2_with fail
  refine HF1.out.mono ?_
  rintro e w3 ⟨fb1, rfl, h60, hN2⟩
  dsimp only
  have HB3 := Lib.hid (Ch.below HB.out hN2 (fun _ h => h.elim) HB.out.size)
  have H60 := Lib.hid h60
  clear h60 hN2 HF1 HB
  cases fb1
  · go_wp2_with fail
    go_ret
    exact ⟨rfl, HB3.out⟩
  have h60 := H60.out rfl
  clear H60
  by_cases h62 : 60 < n2
  · have d : decide (60 < (n2 : Int)) = true := by simp; omega
    go_wp2_with fail
    go_ret
    exact ⟨rfl, HB3.out⟩
  have d6 : decide (60 < (n2 : Int)) = false := by simp; omega
  have d6' : decide (60 < n2) = false := by simp; omega
  have h62' : n2 ≤ 60 := by omega
  by_cases hk100 : 100 < key.size
  · have d : decide (100 < (key.size : Int)) = true := by simp; omega
    go_wp2_with fail
    go_ret
    exact ⟨rfl, HB3.out⟩
  have dk : decide (100 < (key.size : Int)) = false := by simp; omega
  have dk' : decide (100 < key.size) = false := by simp; omega
  have hk100' : (key.size : Int) ≤ 100 := by omega
  have HNW := Lib.hid (ks_new w w3 HB3.out)
  go_wp2_with fail
  refine HNW.out.mono ?_
  rintro e w4 ⟨rfl, hK4, hN4⟩
  dsimp only
  have HNW2 := Lib.hid (ts_new hK4)
  clear hK4 hN4 HNW
  generalize w3.heap.size + 1 = ca at *
  go_wp2_with fail
  refine HNW2.out.mono ?_
  rintro e w5 ⟨rfl, hT5, hN5⟩
  dsimp only
  have HT5 := Lib.hid hT5
  clear hT5 hN5 HNW2
  generalize w4.heap.size + 1 = cb at *
  go_wp2_with fail
  go_loopw [44] (fun i w' => ∃ (m : Nat) (s : CS), m ≤ n1 ∧ i = .int .i64 m ∧ s.floor = 0 ∧ Void s ∧ TS w (2 * m) ca cb s s w') (fun i _ => n1 - (intOf i).toNat)
  case atStart => exact ⟨0, emptyS, by omega, rfl, rfl, void_empty, HT5.out⟩
  case round =>
    obtain ⟨m, s, hm, rfl, hfl, hvo, hT⟩ := hrel
    by_cases hlt : m < n1
    · obtain ⟨b0, off, rfl, hb0, hc⟩ := HA1.out.2 (by omega)
      obtain ⟨K, V, H, T, M, hK, hV, hM, hact⟩ := hc m hlt
      obtain ⟨x0, x1, x2, x3, x4⟩ := hact.below hT.below hb0
      have BX := Lib.hid (Blk.new wr 32 #[.string K, .string V, .bool H, .bool T, .int .i64 M])
      have HP := Lib.hid (ts_put (hT.new_ ((Ch.refl _ wr).alloc (.cells #[.string K, .string V, .bool H, .bool T, .int .i64 M] 32))) (by omega) K V H M)
      have HFL := Lib.hid hfl
      have HVO := Lib.hid hvo
      clear hc hact hT hM hK hV hfl hvo
      go_wp2_with fail
      refine HP.out.mono ?_
      rintro e w6 ⟨rfl, hT6, hp6⟩
      dsimp only
      have hb6 := hp6 _ _ _ (by decide) (by decide) BX.out
      have f0 : w6.cell? ⟨wr.heap.size, 0, none⟩ = some (.string K) := by rw [hb6.cell]; rfl
      have f1 : w6.cell? ⟨wr.heap.size, 1, none⟩ = some (.string V) := by rw [hb6.cell]; rfl
      have f2 : w6.cell? ⟨wr.heap.size, 2, none⟩ = some (.bool H) := by rw [hb6.cell]; rfl
      have f4 : w6.cell? ⟨wr.heap.size, 4, none⟩ = some (.int .i64 M) := by rw [hb6.cell]; rfl
      have HP2 := Lib.hid (ts_put hT6.swap (by omega) K V H M)
      clear hT6 hp6 hb6 HP x0 x1 x2 x3 x4 BX
      go_wp2_with fail
      refine HP2.out.mono ?_
      rintro e w7 ⟨rfl, hT7, _⟩
      dsimp only
      have HT7 := Lib.hid hT7.swap
      clear hT7 HP2 f0 f1 f2 f4
      go_wp2_with fail
      exact ⟨⟨m + 1, putS s K V H M, by omega, by go_num, by rw [put_floor]; exact HFL.out, void_put HVO.out K V H M, HT7.out⟩, by simp [intOf]; omega⟩
    · obtain rfl : m = n1 := by omega
      have HT := Lib.hid hT
      have HVO := Lib.hid hvo
      have HFL := Lib.hid hfl
      clear hlt hm hT HT5 hvo hfl
      by_cases hbad : fl < 0 ∨ maxClock < fl
      · have he : trimE s fl = 1 := by unfold trimE; rw [if_pos hbad]
        have hTB := ks_trim_bad HT.out.snd fl (by rw [he]; decide)
        rw [he] at hTB
        have HTB := Lib.hid hTB
        clear hTB he
        unfold maxClock at hbad
        by_cases h0 : fl < 0
        · have d0 : decide (fl < 0) = true := by simpa using h0
          go_wp2_with fail
          refine HTB.out.mono ?_
          rintro e w7 ⟨rfl, rfl⟩
          dsimp only
          go_wp2_with fail
          go_ret
          exact ⟨rfl, HT.out.below⟩
        · have d0 : decide (fl < 0) = false := by simpa using h0
          have d1 : decide (1099511627776 < fl) = true := by simp; omega
          go_wp2_with fail
          refine HTB.out.mono ?_
          rintro e w7 ⟨rfl, rfl⟩
          dsimp only
          go_wp2_with fail
          go_ret
          exact ⟨rfl, HT.out.below⟩
      · have he : trimE s fl = 0 := by unfold trimE; rw [if_neg hbad, HFL.out, if_neg (by omega)]
        have he2 : trimE (trimS s fl) fl = 0 := by unfold trimE; rw [if_neg hbad]; exact if_neg (Int.lt_irrefl fl)
        have HTR := Lib.hid (ts_trim HT.out.swap (by omega) fl he)
        have HE2 := Lib.hid he2
        have hfb : 0 ≤ fl ∧ fl ≤ 1099511627776 := by unfold maxClock at hbad; omega
        have d0 : decide (fl < 0) = false := by simp; omega
        have d1 : decide (1099511627776 < fl) = false := by simp; omega
        have HG := Lib.hid HT.out.gs
        clear he he2 hbad HT
        go_wp2_with fail
        refine HTR.out.mono ?_
        rintro e w7 ⟨ks, hks, rfl, hT7, _⟩
        dsimp only
        have HTR2 := Lib.hid (ts_trim hT7 (by omega) fl HE2.out)
        obtain ⟨NT, hNT⟩ : ∃ NT, trimN s fl ks = NT := ⟨_, rfl⟩
        rw [hNT]
        clear hNT hks hT7 HTR
        go_wp2_with fail
        refine HTR2.out.mono ?_
        rintro e w8 ⟨ks2, hks2, rfl, hT8, _⟩
        dsimp only
        rw [show ((trimN (trimS s fl) fl ks2 : Nat) : Int) = 0 by rw [trimN_again HG.out]; rfl]
        have htt : trimS (trimS s fl) fl = trimS s fl := by
          unfold trimS
          rw [CS.mk.injEq]
          exact ⟨funext fun k => by show ((s.f k).drop _).drop (goneN ((s.f k).drop _) fl) = _; rw [gone_again (HG.out.rise k)]; simp, rfl, rfl⟩
        rw [htt] at hT8
        have HT8 := Lib.hid hT8.swap
        have HLA := Lib.hid (ks_last hT8.snd)
        have HLB := Lib.hid (show Calls Try.prog 11 #[.pointer (some ⟨cb, 0, none⟩)] w8 fun e w' => e = .returned (.int .i64 s.last) ∧ w8 = w' from ks_last (s := trimS s fl) hT8.fst)
        have hNT0 : decide ((NT : Int) < 0) = false := by simp
        obtain ⟨LL, hLL⟩ : ∃ LL, s.last = LL := ⟨_, rfl⟩
        rw [hLL] at HLA HLB
        have hll : (LL != LL) = false := by simp
        clear hks2 hT8 htt HTR2 hLL
        go_wp2_with fail
        refine HLA.out.mono ?_
        rintro e w9 ⟨rfl, rfl⟩
        dsimp only
        go_wp2_with fail
        refine HLB.out.mono ?_
        rintro e w9 ⟨rfl, rfl⟩
        dsimp only
        clear HLA HLB
        go_wp2_with fail
        go_loopw [116] (fun i w' => ∃ j : Nat, j ≤ n2 ∧ i = .int .i64 j ∧ TS w (2 * m) ca cb s (trimS s fl) w') (fun i _ => n2 - (intOf i).toNat)
        case atStart => exact ⟨0, by omega, rfl, HT8.out⟩
        case round =>
          clear HT8
          obtain ⟨j, hj, rfl, hT⟩ := hrel
          by_cases hlt : j < n2
          · obtain ⟨b0, off, rfl, hb0, hc⟩ := HA2.out.2 (by omega)
            obtain ⟨x, hx, x0⟩ := hc j hlt
            have y0 := (hT.below.cell hb0).trans x0
            have HT := Lib.hid hT
            clear hc x0 hx hT
            by_cases h1 : x < fl
            · have e1 : decide (x < fl) = true := by simpa using h1
              go_wp2_with fail
              exact ⟨⟨j + 1, by omega, by go_num, HT.out⟩, by simp [intOf]; omega⟩
            · have e1 : decide (x < fl) = false := by simpa using h1
              by_cases h2 : 1099511627776 < x
              · have e2 : decide (1099511627776 < x) = true := by simpa using h2
                go_wp2_with fail
                exact ⟨⟨j + 1, by omega, by go_num, HT.out⟩, by simp [intOf]; omega⟩
              · have e2 : decide (1099511627776 < x) = false := by simpa using h2
                have a1 : atE s x = 0 := by unfold atE maxClock; rw [HFL.out, if_neg (by omega), if_neg (by omega)]
                have a2 : atE (trimS s fl) x = 0 := by unfold atE maxClock; rw [if_neg (by omega)]; exact if_neg h1
                have a3 : atV (trimS s fl) key.data.toList x = atV s key.data.toList x := by
                  unfold atV
                  rw [if_pos a1, if_pos a2]
                  exact val_drop (HG.out.rise _) (HVO.out _) (by omega)
                have hAT := ks_at HT.out.fst (by omega) HKM.out x
                rw [a1] at hAT
                have HAT := Lib.hid hAT
                have HA3 := Lib.hid a3
                have HA22 := Lib.hid a2
                clear a1 a2 a3 hAT
                obtain ⟨vo, hvo⟩ : ∃ vo, atV s key.data.toList x = vo := ⟨_, rfl⟩
                have HV2 := Lib.hid hvo
                rw [hvo] at HAT
                clear hvo
                go_wp2_with fail
                refine HAT.out.mono ?_
                rintro e wa ⟨rfl, _, hNa⟩
                dsimp only
                have HTa := Lib.hid (HT.out.new_ hNa)
                have hAT2 := ks_at HTa.out.snd (by omega) HKM.out x
                rw [HA22.out, HA3.out, HV2.out] at hAT2
                have HAT2 := Lib.hid hAT2
                clear hAT2 hNa HAT HT
                go_wp2_with fail
                refine HAT2.out.mono ?_
                rintro e wb ⟨rfl, _, hNb⟩
                dsimp only
                have HTb := Lib.hid (HTa.out.new_ hNb)
                have HK1 := Lib.hid (ks_keys HTb.out.fst (by omega) x)
                clear hNb HAT2 HTa
                go_wp2_with fail
                refine HK1.out.mono ?_
                rintro e wc ⟨Ak, ck, k1, hk1, rfl, _, _, hNc⟩
                dsimp only
                have HTc := Lib.hid (HTb.out.new_ hNc)
                have HK2 := Lib.hid (ks_keys HTc.out.snd (by omega) x)
                have HK1s := Lib.hid hk1
                clear hk1 hNc HK1 HTb
                obtain ⟨KN, hKN⟩ : ∃ KN, keysAt s x k1 = KN := ⟨_, rfl⟩
                rw [hKN]
                have HKN := Lib.hid hKN
                clear hKN
                go_wp2_with fail
                refine HK2.out.mono ?_
                rintro e wd ⟨Ak2, ck2, k2, hk2, rfl, _, _, hNd⟩
                have hks := keys_same HG.out HVO.out (show fl ≤ x by omega) (by rw [HFL.out]; omega) HK1s.out hk2
                rw [← hks, HKN.out]
                dsimp only
                have HTd := Lib.hid (HTc.out.new_ hNd)
                generalize KN.length = kl at *
                have hkl : ((kl : Int) != (kl : Int)) = false := by simp
                clear hks hk2 hNd HK2 HTc
                go_wp2_with fail
                exact ⟨⟨j + 1, by omega, by go_num, HTd.out⟩, by simp [intOf]; omega⟩
          · obtain rfl : j = n2 := by omega
            have HB9 := Lib.hid hT.below
            clear hlt hj hT
            go_wp2_with fail
            go_ret
            exact ⟨rfl, HB9.out⟩
end Go.Proofs.Ytfcdplfnhjbdnaa
