/- BankPlans: the law's walk. -/
import Derived.Test.YtbggadhaaphmcaaDoorBv
namespace Go.Proofs.YtbggadhaaphmcaaDoor
open Go.Lib Go.RowKit
set_option linter.unusedVariables false

set_option maxRecDepth 100000 in
set_option maxHeartbeats 8000000 in
theorem plans_arg (n f t s : Int) (w : World) (hE : Env w) (h : (isB n && amB s) = false) :
    Calls Tryd.prog 6 #[.int .i64 n, .int .i64 f, .int .i64 t, .int .i64 s] w fun e w' => e = .returned (.bool true) ∧ Below w.heap.size w w' := by
  have HFX := Lib.hid (fixedB_any hE)
  have HO := Lib.hid (fun w' => Open_bad n s h w')
  have HM := Lib.hid (fun w' => Move_any n f t s w')
  have HS := Lib.hid (fun w' => Share_bad n f s (by rw [may_arg h]; decide) w')
  have HR := Lib.hid (fun w' => may_ref n f s w')
  rw [may_arg h] at HR HS
  rw [(move_arg (f := f) (t := t) h).1, (move_arg (f := f) (t := t) h).2] at HM
  clear hE
  rcases Bool.eq_false_or_eq_true (isB n) with hB | hB
  · have hb : 1 ≤ n ∧ n ≤ 16 := by unfold isB at hB; simpa using hB
    obtain ⟨N, rfl⟩ : ∃ N : Nat, n = N := ⟨n.toNat, by omega⟩
    have HA := Lib.hid (fun w' => Audit_any N (by omega) (by omega) w')
    have d1 : decide (1 ≤ (N : Int)) = true := by simp; omega
    have d1' : decide (1 ≤ N) = true := by simp; omega
    have d2 : decide ((N : Int) ≤ 16) = true := by simp; omega
    have d2' : decide (N ≤ 16) = true := by simp; omega
    clear h hB hb
    go_enter Tryd.func6, Tryd.ntmps6
    go_wp2_with fail
    refine HFX.out.mono ?_
    rintro e w1 ⟨rfl, hb⟩
    dsimp only
    have HB1 := Lib.hid hb
    clear hb
    go_wp2_with fail
    refine (HO.out _).mono ?_
    rintro e w2 ⟨rfl, hN⟩
    dsimp only
    have HC2 := Lib.hid (show NewW w1 w2 from hN)
    clear hN
    go_wp2_with fail
    refine (HM.out _).mono ?_
    rintro e w3 ⟨A3, c3, rfl, _, hN⟩
    dsimp only [List.length_nil]
    have HC3 := Lib.hid (HC2.out.trans' hN)
    clear hN
    go_wp2_with fail
    refine (HS.out _).mono ?_
    rintro e w4 ⟨rfl, rfl⟩
    dsimp only
    go_wp2_with fail
    refine (HA.out _).mono ?_
    rintro e w5 ⟨A5, c5, rfl, _, hN⟩
    dsimp only
    have HC5 := Lib.hid (HC3.out.trans' hN)
    clear hN
    go_wp2_with fail
    refine (HR.out _).mono ?_
    rintro e w6 ⟨rfl, rfl⟩
    dsimp only
    go_wp2_with fail
    go_ret
    exact ⟨rfl, Ch.below HB1.out HC5.out (fun _ h => h.elim) HB1.out.size⟩
  · have HA := Lib.hid (fun w' => Audit_bad n hB w')
    have hnb : n < 1 ∨ 16 < n := by
      unfold isB at hB
      simp at hB
      omega
    clear h hB
    rcases hnb with h1 | h1
    all_goals
      try (have d1 : decide (1 ≤ n) = false := by simp; omega)
      try (have d1 : decide (1 ≤ n) = true := by simp; omega)
      try (have d2 : decide (n ≤ 16) = false := by simp; omega)
      clear h1
      go_enter Tryd.func6, Tryd.ntmps6
      go_wp2_with fail
      refine HFX.out.mono ?_
      rintro e w1 ⟨rfl, hb⟩
      dsimp only
      have HB1 := Lib.hid hb
      clear hb
      go_wp2_with fail
      refine (HO.out _).mono ?_
      rintro e w2 ⟨rfl, hN⟩
      dsimp only
      have HC2 := Lib.hid (show NewW w1 w2 from hN)
      clear hN
      go_wp2_with fail
      refine (HM.out _).mono ?_
      rintro e w3 ⟨A3, c3, rfl, _, hN⟩
      dsimp only [List.length_nil]
      have HC3 := Lib.hid (HC2.out.trans' hN)
      clear hN
      go_wp2_with fail
      refine (HS.out _).mono ?_
      rintro e w4 ⟨rfl, rfl⟩
      dsimp only
      go_wp2_with fail
      refine (HA.out _).mono ?_
      rintro e w5 ⟨rfl, hN⟩
      dsimp only
      have HC5 := Lib.hid (HC3.out.trans' hN)
      clear hN
      go_wp2_with fail
      refine (HR.out _).mono ?_
      rintro e w6 ⟨rfl, rfl⟩
      dsimp only
      go_wp2_with fail
      go_ret
      exact ⟨rfl, Ch.below HB1.out HC5.out (fun _ h => h.elim) HB1.out.size⟩
set_option maxRecDepth 100000 in
set_option maxHeartbeats 16000000 in
theorem plans_go (N : Nat) (f t s : Int) (w : World) (hE : Env w) (h1 : 1 ≤ N) (h2 : N ≤ 16) (hs : -1048576 ≤ s ∧ s ≤ 1048576) :
    Calls Tryd.prog 6 #[.int .i64 N, .int .i64 f, .int .i64 t, .int .i64 s] w fun e w' => e = .returned (.bool true) ∧ Below w.heap.size w w' := by
  have HFX := Lib.hid (fixedB_any hE)
  have HE := Lib.hid hE
  have HO := Lib.hid (fun w' (he : Env w') => Open_any N s h1 h2 (by unfold amB; simp; omega) he)
  have HM := Lib.hid (fun w' => Move_any N f t s w')
  have HS := Lib.hid (fun w' => Share_all N f s w')
  have HA := Lib.hid (fun w' => Audit_any N h1 h2 w')
  have HR := Lib.hid (fun w' => may_ref N f s w')
  have HTX := Lib.hid (fun w' => Text_ref s (by omega) (by omega) w')
  have hnI : (N : Int) ≤ 16 := by omega
  have hmay : mayE N f s = 0 ∨ mayE N f s = 6 := by
    unfold mayE isB amB
    rw [if_pos (by simp; omega)]
    split
    · exact .inr rfl
    · exact .inl rfl
  obtain ⟨i1, hi1, hy0, hy1, hy2⟩ := info_parts op_info
  obtain ⟨V, hV⟩ : ∃ V, mayE N f s = V := ⟨_, rfl⟩
  have HV := Lib.hid hV
  rw [hV] at HR HS hmay
  obtain ⟨T, hT⟩ : ∃ T, txt s = T := ⟨_, rfl⟩
  rw [hT] at HTX
  simp only [hT] at HO
  obtain ⟨ME, hME⟩ : ∃ ME, moveE N f t s = ME := ⟨_, rfl⟩
  have HME := Lib.hid hME
  rw [hME] at HM
  have v1 : decide (V = 1) = false := by rcases hmay with e | e <;> rw [e] <;> decide
  have v1' : (V == 1) = false := by rcases hmay with e | e <;> rw [e] <;> decide
  have HMAY := Lib.hid hmay
  clear hE hV hT hME hmay
  go_enter Tryd.func6, Tryd.ntmps6
  go_wp2_with fail
  refine HFX.out.mono ?_
  rintro e w1 ⟨rfl, hb⟩
  dsimp only
  have HB1 := Lib.hid hb
  have HE1 := Lib.hid (HE.out.below hb)
  clear hb HFX
  go_wp2_with fail
  refine (HO.out _ HE1.out).mono ?_
  rintro e w2 ⟨A2, c2, rfl, hO, hN⟩
  dsimp only
  have HO2 := Lib.hid hO
  have HC2 := Lib.hid (show NewW w1 w2 from hN)
  clear hO hN HO
  go_wp2_with fail
  refine (HM.out _).mono ?_
  rintro e w3 ⟨A3, c3, rfl, hO, hN⟩
  dsimp only
  have HO3 := Lib.hid (HO2.out.new_ hN)
  have HM3 := Lib.hid hO
  have HC3 := Lib.hid (HC2.out.trans' hN)
  clear hO hN HM HO2 HC2
  go_wp2_with fail
  refine (HS.out _).mono ?_
  rintro e w4 ⟨A4, c4, rfl, hO, hN⟩
  dsimp only
  have HO4 := Lib.hid (HO3.out.new_ hN)
  have HM4 := Lib.hid (HM3.out.new_ hN)
  have HS4 := Lib.hid hO
  have HC4 := Lib.hid (HC3.out.trans' hN)
  clear hO hN HS HM3 HO3 HC3
  go_wp2_with fail
  refine (HA.out _).mono ?_
  rintro e w5 ⟨A5, c5, rfl, hO, hN⟩
  dsimp only
  have HO5 := Lib.hid (HO4.out.new_ hN)
  have HM5 := Lib.hid (HM4.out.new_ hN)
  have HS5 := Lib.hid (HS4.out.new_ hN)
  have HA5 := Lib.hid hO
  have HC5 := Lib.hid (HC4.out.trans' hN)
  clear hO hN HA HM4 HO4 HS4 HC4
  go_wp2_with fail
  refine (HR.out _).mono ?_
  rintro e w6 ⟨rfl, rfl⟩
  dsimp only
  go_wp2_with fail
  go_loopw [18, 19, 89] (fun ov gv i wr => ∃ k : Nat, k ≤ N ∧ i = .int .i64 k ∧ wr.ownsRow w5.heap.size 41 4 ov k (flatO (openL k T)) ∧ wr.ownsRow w5.heap.size 41 4 gv k (flatO (auditL k)) ∧ Apart ov gv ∧ NewW w5 wr) (fun _ _ i _ => N - (intOf i).toNat)
  case atStart => exact ⟨0, by omega, rfl, own_nil, own_nil, apart_nil _, Ch.refl _ _⟩
  case round =>
    obtain ⟨k, hk, rfl, ho, hg, hap, hC⟩ := hrel
    obtain ⟨A7, q7, rfl⟩ := own_form ho
    obtain ⟨A8, q8, rfl⟩ := own_form hg
    have HOO := Lib.hid ho
    have HGG := Lib.hid hg
    have HAP := Lib.hid hap
    have HC := Lib.hid hC
    clear ho hg hap hC
    by_cases hlt : k < N
    · have hk16 : k < 16 := by omega
      have HK := Lib.hid (fun w' => Key_ref k (by omega) (by omega) w')
      have HS1 := Lib.hid (openL_snoc k T)
      have HS2 := Lib.hid (auditL_snoc k)
      generalize keyT (k : Int) = KT at *
      generalize hr1 : openL k T = r1 at *
      generalize hr2 : auditL k = r2 at *
      clear hr1 hr2
      go_wp2_with fail
      refine (HK.out _).mono ?_
      rintro e w6 ⟨rfl, hN⟩
      dsimp only
      have HN6 := Lib.hid (show NewW wr w6 from hN)
      clear hN
      go_wp2_with fail
      refine (HTX.out _).mono ?_
      rintro e w7 ⟨rfl, hN⟩
      dsimp only
      have HN7 := Lib.hid (HN6.out.trans' hN)
      have HO7 := Lib.hid (own_ch HOO.out HN7.out (fun _ _ h => h))
      have HG7 := Lib.hid (own_ch HGG.out HN7.out (fun _ _ h => h))
      have HC7 := Lib.hid (HC.out.trans' HN7.out)
      have hB7 := HC7.out.size
      clear hN HN6 HN7 HOO HGG HC
      go_wp2_with (first
        | (at_builtin
           refine wpList_append_any _ rfl (.tmp 92) (.tmp 98) _ rfl w5.heap.size 41 i1 _ 4 48 Tryd.underlying31 hi1 hy0 hy1 hy2 rfl (by omega) _ k (flatO r1) rfl
             (own_ch HO7.out ((Ch.refl (fun _ => False) _).alloc _) (fun _ _ h => h)) (w7.heap.size + 1) (some ⟨w7.heap.size, 0, none⟩) 1 1 [.int .i64 2, .string KT, .string T, .int .i64 0] rfl (reads_new w7 41 #[.int .i64 2, .string KT, .string T, .int .i64 0] 1 4 rfl) (by simp [Value.oneCell']) (by simp only [maxLen]; omega) (by omega) (by simp; omega) ?_
           intro v8 w8 hown8 hg8 hat8
           have HO8 := Lib.hid hown8
           have HAP8 := Lib.hid (apart_app HAP.out (own_ch HG7.out ((Ch.refl (fun _ => False) _).alloc _) (fun _ _ h => h)) hat8)
           have HG8 := Lib.hid (own_apart (own_ch HG7.out ((Ch.refl (fun _ => False) _).alloc _) (fun _ _ h => h)) HAP.out hg8)
           have HC8 := Lib.hid ((HC7.out.alloc _).grown hg8 (fun g hg => .inr (own_lt HO7.out hg).1))
           clear hown8 hg8 hat8 hB7 HO7 HG7 HC7 HAP))
      refine (HK.out _).mono ?_
      rintro e w9 ⟨rfl, hN⟩
      dsimp only
      have HO9 := Lib.hid (own_ch HO8.out hN (fun _ _ h => h))
      have HG9 := Lib.hid (own_ch HG8.out hN (fun _ _ h => h))
      have HC9 := Lib.hid (HC8.out.trans' hN)
      have hB9 := HC9.out.size
      clear hN HK HO8 HG8 HC8
      go_wp2_with (first
        | (at_builtin
           refine wpList_append_any _ rfl (.tmp 100) (.tmp 104) _ rfl w5.heap.size 41 i1 _ 4 48 Tryd.underlying31 hi1 hy0 hy1 hy2 rfl (by omega) _ k (flatO r2) rfl
             (own_ch HG9.out ((Ch.refl (fun _ => False) _).alloc _) (fun _ _ h => h)) (w9.heap.size + 1) (some ⟨w9.heap.size, 0, none⟩) 1 1 [.int .i64 1, .string KT, .string ⟨#[]⟩, .int .i64 0] rfl (reads_new w9 41 #[.int .i64 1, .string KT, .string ⟨#[]⟩, .int .i64 0] 1 4 rfl) (by simp [Value.oneCell']) (by simp only [maxLen]; omega) (by omega) (by simp; omega) ?_
           intro va wa howna hga hata
           have HGa := Lib.hid howna
           have HAPa := Lib.hid (apart_app HAP8.out.symm (own_ch HO9.out ((Ch.refl (fun _ => False) _).alloc _) (fun _ _ h => h)) hata).symm
           have HOa := Lib.hid (own_apart (own_ch HO9.out ((Ch.refl (fun _ => False) _).alloc _) (fun _ _ h => h)) HAP8.out.symm hga)
           have HCa := Lib.hid ((HC9.out.alloc _).grown hga (fun g hg => .inr (own_lt HG9.out hg).1))
           clear howna hga hata hB9 HO9 HG9 HC9 HAP8))
      refine ⟨⟨k + 1, by omega, by go_num, ?_, ?_, HAPa.out, HCa.out⟩, by simp [intOf]; omega⟩
      · rw [HS1.out, flatO_snoc]
        exact HOa.out
      · rw [HS2.out, flatO_snoc]
        exact HGa.out
    · obtain rfl : k = N := by omega
      have HCW := Lib.hid (HC5.out.trans' HC.out)
      have HSO := Lib.hid (fun c d => sames_true (c := c) (d := d) (HO5.out.new_ HC.out) (show Ops wr A7 k (openL k T) from ⟨openL_len k T, Rd.own HOO.out⟩) (by omega))
      have HSA := Lib.hid (fun w' c d (hc : NewW wr w') => sames_true (c := c) (d := d) (HA5.out.new_ (HC.out.trans' hc)) (show Ops w' A8 k (auditL k) from Ops.new_ ⟨auditL_len k, Rd.own HGG.out⟩ hc) (by omega))
      have HM6 := Lib.hid (HM5.out.new_ HC.out)
      have HS6 := Lib.hid (HS5.out.new_ HC.out)
      have h1I : (1 : Int) ≤ (k : Int) := by omega
      generalize openL k T = r1 at *
      generalize auditL k = r2 at *
      clear hlt hk HAP HOO HGG HC HO5 HA5 HM5 HS5 HTX
      go_wp2_with fail
      refine (HSO.out _ _).mono ?_
      rintro e w7 ⟨rfl, hN⟩
      dsimp only
      have HN7 := Lib.hid (show NewW wr w7 from hN)
      clear hN HSO
      go_wp2_with fail
      refine (HSA.out _ _ _ HN7.out).mono ?_
      rintro e w8 ⟨rfl, hN⟩
      dsimp only
      have HN8 := Lib.hid (HN7.out.trans' hN)
      have HM8 := Lib.hid (HM6.out.new_ HN8.out)
      have HS8 := Lib.hid (HS6.out.new_ HN8.out)
      have HC8 := Lib.hid (HCW.out.trans' HN8.out)
      have HBE := Lib.hid (fun w' (hc : NewW w8 w') => (show Below w.heap.size w w' from Ch.below HB1.out (HC8.out.trans' hc) (fun _ h => h.elim) HB1.out.size))
      clear hN HSA HN7 HN8 HM6 HS6 HCW HC8
      rcases HMAY.out with hv | hv
      · subst hv
        have hm := may_zero HV.out
        obtain ⟨F, rfl⟩ : ∃ F : Nat, f = F := ⟨f.toNat, by omega⟩
        have hFk : F < k := by omega
        have HSE := Lib.hid (show shareL k (F : Int) s = addsL (giftsOf (shareI k F s)) from if_pos HV.out)
        rw [HSE.out] at HS8
        have hsl : (addsL (giftsOf (shareI k F s))).length = k := by rw [addsL_len, gifts_len, shareI_len _ _ (by omega)]
        have HSL := Lib.hid hsl
        rw [hsl] at HS8
        rw [HSE.out, hsl]
        have HPR := Lib.hid (Parts_ref k F s h1 h2 hFk hs w8)
        have hSLen : (shareI k F s).length = k := shareI_len _ _ (by omega)
        have HLN := Lib.hid hSLen
        clear hsl hSLen
        go_wp2_with fail
        refine HPR.out.mono ?_
        rintro e w9 ⟨gp, rfl, hp, hN⟩
        dsimp only
        have HP9 := Lib.hid hp
        have HC9 := Lib.hid (show NewW w8 w9 from hN)
        have HM9 := Lib.hid (HM8.out.new_ hN)
        have HS9 := Lib.hid (HS8.out.new_ hN)
        clear hp hN HPR HM8 HS8
        generalize hSH : shareI k F s = SL at *
        have HSH := Lib.hid hSH
        clear hSH
        go_wp2_with fail
        go_loopw [20, 148] (fun ov i wr => ∃ j : Nat, j ≤ k ∧ i = .int .i64 j ∧ wr.ownsRow w9.heap.size 41 4 ov j (flatO (addsL (giftsOf (SL.take j)))) ∧ NewW w9 wr) (fun _ i _ => k - (intOf i).toNat)
        case atStart => exact ⟨0, by omega, rfl, own_nil, Ch.refl _ _⟩
        case round =>
          obtain ⟨j, hj, rfl, ho, hC⟩ := hrel
          obtain ⟨A7, q7, rfl⟩ := own_form ho
          have HOO := Lib.hid ho
          have HC := Lib.hid hC
          clear ho hC
          by_cases hlt : j < k
          · have hj16 : j < 16 := by omega
            have HK := Lib.hid (fun w' => Key_ref j (by omega) (by omega) w')
            obtain ⟨x, hx⟩ := some_of_lt (show j < SL.length by rw [HLN.out]; exact hlt)
            have y0 := own_cell (own_ch HP9.out HC.out (fun _ _ h => h)) (rowI_get hx)
            have HS1 := Lib.hid (show addsL (giftsOf (SL.take (j + 1))) = addsL (giftsOf (SL.take j)) ++ [addO j x] from gifts_take hx)
            unfold addO at HS1
            generalize keyT (j : Int) = KT at *
            generalize hr1 : addsL (giftsOf (SL.take j)) = r1 at *
            clear hr1 hx
            go_wp2_with fail
            refine (HK.out _).mono ?_
            rintro e w6 ⟨rfl, hN⟩
            dsimp only
            have HO7 := Lib.hid (own_ch HOO.out hN (fun _ _ h => h))
            have HC7 := Lib.hid (HC.out.trans' hN)
            have hB7 := HC7.out.size
            clear hN HOO HC y0
            go_wp2_with (first
              | (at_builtin
                 refine wpList_append_any _ rfl (.tmp 153) (.tmp 158) _ rfl w9.heap.size 41 i1 _ 4 48 Tryd.underlying31 hi1 hy0 hy1 hy2 rfl (by omega) _ j (flatO r1) rfl
                   (own_ch HO7.out ((Ch.refl (fun _ => False) _).alloc _) (fun _ _ h => h)) (w6.heap.size + 1) (some ⟨w6.heap.size, 0, none⟩) 1 1 [.int .i64 5, .string KT, .string ⟨#[]⟩, .int .i64 x] rfl (reads_new w6 41 #[.int .i64 5, .string KT, .string ⟨#[]⟩, .int .i64 x] 1 4 rfl) (by simp [Value.oneCell']) (by simp only [maxLen]; omega) (by omega) (by simp; omega) ?_
                 intro v8 wb hown8 hg8 hat8
                 have HO8 := Lib.hid hown8
                 have HC8 := Lib.hid ((HC7.out.alloc _).grown hg8 (fun g hg => .inr (own_lt HO7.out hg).1))
                 clear hown8 hg8 hat8 hB7 HO7 HC7))
            refine ⟨⟨j + 1, by omega, by go_num, ?_, HC8.out⟩, by simp [intOf]; omega⟩
            rw [HS1.out, flatO_snoc]
            exact HO8.out
          · obtain rfl : j = k := by omega
            have HTK := Lib.hid (show SL.take j = SL by rw [← HLN.out, List.take_length])
            rw [HTK.out] at HOO
            have HSS := Lib.hid (fun c d => sames_true (c := c) (d := d) (n := j) (show Ops wr A4 j (addsL (giftsOf SL)) from HS9.out.new_ HC.out) (show Ops wr A7 j (addsL (giftsOf SL)) from ⟨HSL.out, Rd.own HOO.out⟩) (by omega))
            have HMw := Lib.hid (HM9.out.new_ HC.out)
            have HCw := Lib.hid (HC9.out.trans' HC.out)
            clear hlt hj HOO HC HM9 HC9 HP9 HTK
            go_wp2_with fail
            refine (HSS.out _ _).mono ?_
            rintro e wd ⟨rfl, hN⟩
            dsimp only
            have HMd := Lib.hid (HMw.out.new_ hN)
            have HCd := Lib.hid (HCw.out.trans' hN)
            clear hN HSS HMw HCw HS9
            by_cases ht0 : 0 ≤ t ∧ t < j
            · obtain ⟨TT, rfl⟩ : ∃ TT : Nat, t = TT := ⟨t.toNat, by omega⟩
              have hTk : TT < j := by omega
              have hTI : (TT : Int) < (j : Int) := by omega
              have hFI : (F : Int) < (j : Int) := by omega
              have dT0 : decide ((TT : Int) < 0) = false := by simp
              have dT1 : decide ((j : Int) ≤ (TT : Int)) = false := by simp; omega
              have dT1' : decide (j ≤ TT) = false := by simp; omega
              have hok : moveE j F TT s = 0 := by
                unfold moveE
                rw [if_pos HV.out]
                unfold mayE isB amB
                rw [if_pos (by simp; omega), if_neg (by omega)]
              obtain rfl : ME = 0 := by rw [← HME.out, hok]
              have hng : IntKind.i64.wrap (-s) = -s := IntWalk.i64_in _ ⟨by omega, by omega⟩
              by_cases hFT : F = TT
              · subst hFT
                have hML : moveL j F F s = [addO F 0] := by unfold moveL; rw [if_pos hok, if_pos rfl]
                rw [hML] at HMd ⊢
                have HKP := Lib.hid (fun w' (hc : Ch (fun _ => False) wd w') => m_one (HMd.out.new_ hc))
                obtain ⟨bm, om, rfl, z0, z1, z2, z3⟩ := m_one HMd.out
                have HKP := Lib.hid (fun w' (hc : Ch (fun _ => False) wd w') => m_one' (HKP.out w' hc))
                clear hok hML ht0
                go_upto_region 33 with (fail)
                go_region_held3 (fun w' => w'.cell? ⟨bm, om, none⟩ = some (.int .i64 5) ∧ w'.cell? ⟨bm, om + 1, none⟩ = some (.string (keyT F)) ∧ w'.cell? ⟨bm, om + 2, none⟩ = some (.string ⟨#[]⟩) ∧ w'.cell? ⟨bm, om + 3, none⟩ = some (.int .i64 0))
                  (exact HKP.out _ (show Ch (fun _ => False) wd _ from (by repeat (first | with_reducible exact hQa | with_reducible exact Ch.refl _ _ | with_reducible refine Ch.drew ?_ | with_reducible refine Ch.drewN ?_ _ | with_reducible refine Ch.alloc ?_ _))))
                  (first | (go_at_call 35; refine (Key_ref _ (by omega) (by omega) _).mono ?_; rintro e wa ⟨rfl, hNa⟩; have hQa : Ch (fun _ => False) wd wa := Ch.trans' (show Ch (fun _ => False) wd _ from (by repeat (first | with_reducible exact hQa | with_reducible exact Ch.refl _ _ | with_reducible refine Ch.drew ?_ | with_reducible refine Ch.drewN ?_ _ | with_reducible refine Ch.alloc ?_ _))) hNa))
                all_goals
                  have HBF := Lib.hid (HBE.out _ (HCd.out.trans' hQa))
                  go_wp2_with fail
                  go_ret
                  exact ⟨rfl, HBF.out⟩
              · have hML : moveL j F TT s = [addO F (-s), addO TT s] := by unfold moveL; rw [if_pos hok, if_neg (by omega)]
                have dFT : decide ((F : Int) = (TT : Int)) = false := by simp; omega
                have dFT' : ((F : Int) == (TT : Int)) = false := by simp; omega
                have dFT'' : decide (F = TT) = false := by simpa using hFT
                rw [hML] at HMd ⊢
                have HKP := Lib.hid (fun w' (hc : Ch (fun _ => False) wd w') => m_two (HMd.out.new_ hc))
                obtain ⟨bm, om, rfl, z0, z1, z2, z3, z4, z5, z6, z7⟩ := m_two HMd.out
                have HKP := Lib.hid (fun w' (hc : Ch (fun _ => False) wd w') => m_two' (HKP.out w' hc))
                clear hok hML ht0 hFT
                go_upto_region 34 with (fail)
                go_region_held3 (fun w' => w'.cell? ⟨bm, om, none⟩ = some (.int .i64 5) ∧ w'.cell? ⟨bm, om + 1, none⟩ = some (.string (keyT F)) ∧ w'.cell? ⟨bm, om + 2, none⟩ = some (.string ⟨#[]⟩) ∧ w'.cell? ⟨bm, om + 3, none⟩ = some (.int .i64 (-s)) ∧ w'.cell? ⟨bm, om + 4, none⟩ = some (.int .i64 5) ∧ w'.cell? ⟨bm, om + 4 + 1, none⟩ = some (.string (keyT TT)) ∧ w'.cell? ⟨bm, om + 4 + 2, none⟩ = some (.string ⟨#[]⟩) ∧ w'.cell? ⟨bm, om + 4 + 3, none⟩ = some (.int .i64 s))
                  (exact HKP.out _ (show Ch (fun _ => False) wd _ from (by repeat (first | with_reducible exact hQa | with_reducible exact Ch.refl _ _ | with_reducible refine Ch.drew ?_ | with_reducible refine Ch.drewN ?_ _ | with_reducible refine Ch.alloc ?_ _))))
                  (first | (go_at_call 35; refine (Key_ref _ (by omega) (by omega) _).mono ?_; rintro e wa ⟨rfl, hNa⟩; have hQa : Ch (fun _ => False) wd wa := Ch.trans' (show Ch (fun _ => False) wd _ from (by repeat (first | with_reducible exact hQa | with_reducible exact Ch.refl _ _ | with_reducible refine Ch.drew ?_ | with_reducible refine Ch.drewN ?_ _ | with_reducible refine Ch.alloc ?_ _))) hNa))
                all_goals
                  have HBF := Lib.hid (HBE.out _ (HCd.out.trans' hQa))
                  go_wp2_with fail
                  go_ret
                  exact ⟨rfl, HBF.out⟩
            · have hbad : moveE j F t s = 6 := by
                unfold moveE
                rw [if_pos HV.out]
                unfold mayE isB amB
                rw [if_pos (by simp; omega), if_pos (by omega)]
              obtain rfl : ME = 6 := by rw [← HME.out, hbad]
              have hML := move_len_bad (n := j) (f := F) (t := t) (s := s) (by rw [hbad]; decide)
              rw [hML]
              have HBF := Lib.hid (HBE.out _ HCd.out)
              by_cases ht1 : t < 0
              · have d1 : decide (t < 0) = true := by simpa using ht1
                clear ht0 ht1 hbad hML
                go_wp2_with fail
                go_ret
                exact ⟨rfl, HBF.out⟩
              · have d1 : decide (t < 0) = false := by simpa using ht1
                have d2 : decide ((j : Int) ≤ t) = true := by simp; omega
                clear ht0 ht1 hbad hML
                go_wp2_with fail
                go_ret
                exact ⟨rfl, HBF.out⟩
      · subst hv
        obtain rfl : ME = 6 := by rw [← HME.out]; unfold moveE; rw [if_neg (by rw [HV.out]; decide), HV.out]
        have hML := move_len_bad (n := k) (f := f) (t := t) (s := s) (by rw [HME.out]; decide)
        have hSL : shareL k f s = [] := if_neg (by rw [HV.out]; decide)
        rw [hML, hSL]
        have HBF := Lib.hid (HBE.out _ (Ch.refl _ _))
        clear hML hSL
        go_wp2_with fail
        go_ret
        exact ⟨rfl, HBF.out⟩
end Go.Proofs.YtbggadhaaphmcaaDoor
