/- bank: Number at a text of whatever length (Nu's proof once more, with the wider bound). -/
import Derived.Test.YtbggadhaaphmcaaDoorNu
namespace Go.Proofs.YtbggadhaaphmcaaDoor
open Go.Lib Go.RowKit Go.Sort
set_option linter.unusedVariables false

theorem atoi_ok_w (s : ByteArray) (hs : s.size ≤ 281474976710656) (v : Int) (h : Lib.atoiAll s.data.toList = .ok v) (w : World) :
    Calls Tryd.prog 60 #[.string s] w fun e w' => e = .returned (.tuple #[.int .i64 v, .nilIface]) ∧ NewW w w' :=
  (Any.strconv_Atoi_ok Tryd.laysC172 s (by omega) v h w).mono fun e w' ⟨he, hw⟩ => ⟨he, by
    rcases hw with rfl | ⟨t, rfl⟩
    · exact Ch.refl _ _
    · exact bytes_new _ _⟩
theorem atoi_bad_w (s : ByteArray) (hs : s.size ≤ 281474976710656) (h : ∀ v, Lib.atoiAll s.data.toList ≠ .ok v) {w : World} (hE : Env w) :
    Calls Tryd.prog 60 #[.string s] w fun e w' => (∃ v N, e = .returned (.tuple #[.int .i64 v, .iface 141 (.pointer (some ⟨N, 0, none⟩))])) ∧ NewW w w' := by
  rcases hA : Lib.atoiAll s.data.toList with v | _ | _
  · exact absurd hA (h v)
  · obtain ⟨tp, p, e⟩ := hE.bad
    exact (Any.strconv_Atoi_syntax_var Tryd.laysC172 s (by omega) hA tp p w e).mono fun e w' ⟨N, he, _, _, hb⟩ => ⟨⟨_, N, he⟩, new_of_below hb⟩
  · obtain ⟨tp, p, e⟩ := hE.far
    exact (Any.strconv_Atoi_range_var Tryd.laysC172 s (by omega) hA tp p w e).mono fun e w' ⟨N, he, _, _, hb⟩ => ⟨⟨_, N, he⟩, new_of_below hb⟩
theorem Number_any_w (s : ByteArray) (hs : s.size ≤ 281474976710656) {w : World} (hE : Env w) :
    Calls Tryd.prog 25 #[.string s] w fun e w' => e = .returned (.int .i64 (numR s)) ∧ NewW w w' := by
  rcases Classical.em (∃ v, Lib.atoiAll s.data.toList = .ok v) with ⟨v, hv⟩ | hno
  · have HA := Lib.hid (atoi_ok_w s hs v hv w)
    have hb := Lib.atoiAll_bounds hv
    have HT := Lib.hid (fun w' (hc : NewW w w') => Text_any v hb.1 hb.2 (hE.new_ hc))
    have HC := Lib.hid (fun w' => clamp_any v w')
    obtain ⟨R, hR⟩ : ∃ R, numR s = R := ⟨_, rfl⟩
    rw [hR]
    have hn := numOf_eq (num_ok hv)
    have HR := Lib.hid (hR.symm.trans hn)
    obtain ⟨T, hT⟩ : ∃ T, txt v = T := ⟨_, rfl⟩
    have hte := txt_eq v s
    rw [hT] at HT hte
    obtain ⟨C, hC⟩ : ∃ C, clampI v = C := ⟨_, rfl⟩
    rw [hC] at HC
    have HCC := Lib.hid hC
    have HTE := Lib.hid hte
    clear hE hv hn hR hT hte hC hb
    by_cases h1 : T.toList = s.toList
    · have b1 : (T.toList != s.toList) = false := by simpa using h1
      have b0 : (T.toList == s.toList) = true := by simpa using h1
      have b1' : decide (T.toList = s.toList) = true := by simpa using h1
      by_cases h2 : C = v
      · have b2 : (C != v) = false := by simpa using h2
        have hr : R = v := by
          have hc : -1125899906842624 ≤ v ∧ v ≤ 1125899906842624 := by
            have := HCC.out
            unfold clampI at this
            omega
          rw [HR.out, if_pos ⟨HTE.out.1 h1, hc⟩]
        subst hr
        clear h1 h2
        go_enter Tryd.func25, Tryd.ntmps25
        go_wp2_with fail
        refine HA.out.mono ?_
        rintro e w2 ⟨rfl, hN⟩
        dsimp only
        have HN := Lib.hid hN
        clear hN
        go_wp2_with fail
        refine (HT.out _ HN.out).mono ?_
        rintro e w3 ⟨rfl, hN⟩
        dsimp only
        have HN2 := Lib.hid (HN.out.trans' hN)
        clear hN
        go_wp2_with fail
        refine (HC.out _).mono ?_
        rintro e w4 ⟨rfl, rfl⟩
        dsimp only
        go_wp2_with fail
        go_ret
        exact ⟨rfl, HN2.out⟩
      · have b2 : (C != v) = true := by simpa using h2
        have hr : R = 0 := by
          rw [HR.out, if_neg]
          rintro ⟨_, h3, h4⟩
          refine h2 ?_
          rw [← HCC.out]
          unfold clampI
          omega
        subst hr
        clear h1 h2
        go_enter Tryd.func25, Tryd.ntmps25
        go_wp2_with fail
        refine HA.out.mono ?_
        rintro e w2 ⟨rfl, hN⟩
        dsimp only
        have HN := Lib.hid hN
        clear hN
        go_wp2_with fail
        refine (HT.out _ HN.out).mono ?_
        rintro e w3 ⟨rfl, hN⟩
        dsimp only
        have HN2 := Lib.hid (HN.out.trans' hN)
        clear hN
        go_wp2_with fail
        refine (HC.out _).mono ?_
        rintro e w4 ⟨rfl, rfl⟩
        dsimp only
        go_wp2_with fail
        go_ret
        exact ⟨rfl, HN2.out⟩
    · have b1 : (T.toList != s.toList) = true := by simpa using h1
      have b0 : (T.toList == s.toList) = false := by simpa using h1
      have b1' : decide (T.toList = s.toList) = false := by simpa using h1
      have hr : R = 0 := by
        rw [HR.out, if_neg]
        rintro ⟨h3, _⟩
        exact h1 (HTE.out.2 h3)
      subst hr
      clear h1
      go_enter Tryd.func25, Tryd.ntmps25
      go_wp2_with fail
      refine HA.out.mono ?_
      rintro e w2 ⟨rfl, hN⟩
      dsimp only
      have HN := Lib.hid hN
      clear hN
      go_wp2_with fail
      refine (HT.out _ HN.out).mono ?_
      rintro e w3 ⟨rfl, hN⟩
      dsimp only
      have HN2 := Lib.hid (HN.out.trans' hN)
      clear hN
      go_wp2_with fail
      go_ret
      exact ⟨rfl, HN2.out⟩
  · have HA := Lib.hid (atoi_bad_w s hs (fun v hv => hno ⟨v, hv⟩) hE)
    have hr : numR s = 0 := numOf_eq (num_bad fun v hv => hno ⟨v, hv⟩)
    rw [hr]
    clear hr hno hE
    go_enter Tryd.func25, Tryd.ntmps25
    go_wp2_with fail
    refine HA.out.mono ?_
    rintro e w2 ⟨⟨v, N, rfl⟩, hN⟩
    dsimp only
    have HN := Lib.hid hN
    clear hN
    go_wp2_with fail
    go_ret
    exact ⟨rfl, HN.out⟩
end Go.Proofs.YtbggadhaaphmcaaDoor
