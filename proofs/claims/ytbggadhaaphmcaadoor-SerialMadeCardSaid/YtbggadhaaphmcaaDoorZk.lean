/- SerialChecks: the law's walk (fixed's contract is a premise, paid at the join). -/
import Derived.Test.YtbggadhaaphmcaaDoorZh
namespace Go.Proofs.YtbggadhaaphmcaaDoor
open Go.Lib Go.RowKit
set_option linter.unusedVariables false

theorem few_res {l : Hist} {M : Int} (h : fewD l M = true) : (l.length : Int) ≤ M ∧ (∀ d ∈ l, d.res.length ≤ 1000) ∧ ∀ d ∈ l, d.plan.length ≤ 20 := by
  unfold fewD at h
  rw [Bool.and_eq_true] at h
  refine ⟨of_decide_eq_true h.2, fun d hd => ?_, fun d hd => ?_⟩
  · have := List.all_eq_true.1 h.1 d hd
    unfold okD at this
    simp only [Bool.and_eq_true, Bool.not_eq_true', decide_eq_false_iff_not] at this
    omega
  · have := List.all_eq_true.1 h.1 d hd
    unfold okD at this
    simp only [Bool.and_eq_true, Bool.not_eq_true', decide_eq_false_iff_not] at this
    omega
set_option maxRecDepth 100000 in
set_option maxHeartbeats 8000000 in
theorem checks_walk0 (A A2 : Option Addr) (n n2 c c2 : Nat) (l : Hist) (o : List Int) (w : World) (hE : Env w) (hD : Deeds w A n l) (hO : Nums w A2 n2 o) (hc2 : n2 ≤ c2) (hcm : c2 ≤ maxLen)
    (hfx : Calls Tryd.prog 41 #[] w fun e w' => e = .returned (.bool true) ∧ Below w.heap.size w w') :
    Calls Tryd.prog 10 #[.slice A n c, .slice A2 n2 c2] w fun e w' => e = .returned (.bool true) ∧ Below w.heap.size w w' := by
  have HFX := Lib.hid hfx
  have HE := Lib.hid hE
  have HD := Lib.hid hD
  have HO := Lib.hid hO
  have HLN := Lib.hid hD.1
  have hcI : (c2 : Int) ≤ 9223372036854775807 := by unfold maxLen at hcm; omega
  have hn2I : (n2 : Int) ≤ 9223372036854775807 := by omega
  have HCM := Lib.hid hcm
  clear hE hD hO hfx hcm
  go_enter Tryd.func10, Tryd.ntmps10
  go_wp2_with fail
  refine HFX.out.mono ?_
  rintro e w1 ⟨rfl, hb⟩
  dsimp only
  have HB1 := Lib.hid hb
  have HE1 := Lib.hid (HE.out.below hb)
  have HD1 := Lib.hid (HD.out.below hb)
  have HO1 := Lib.hid (HO.out.below hb)
  have HBX := Lib.hid (fun w' (hc : NewW w1 w') => (show Below w.heap.size w w' from Ch.below HB1.out hc (fun _ h => h.elim) HB1.out.size))
  have HFW := Lib.hid (fewD_any (c := c) 12 HD1.out)
  clear hb HFX
  go_wp2_with fail
  rcases Bool.eq_false_or_eq_true (fewD l 12) with hf | hf
  · rw [hf] at HFW
    obtain ⟨hl12, hres, hpl⟩ := few_res hf
    have HRES := Lib.hid hres
    have hn12 : n ≤ 12 := by rw [HLN.out] at hl12; omega
    clear hf hl12 hres hpl
    refine HFW.out.mono ?_
    rintro e w2 ⟨rfl, hN⟩
    dsimp only
    have HN2 := Lib.hid (show NewW w1 w2 from hN)
    clear hN HFW
    by_cases h20 : 20 < n2
    · have d : decide (20 < (n2 : Int)) = true := by simp; omega
      have d' : decide (20 < n2) = true := by simpa using h20
      have HBF := Lib.hid (HBX.out _ HN2.out)
      clear h20
      go_wp2_with fail
      go_ret
      exact ⟨rfl, HBF.out⟩
    have d : decide (20 < (n2 : Int)) = false := by simp; omega
    have d' : decide (20 < n2) = false := by simpa using h20
    have HCK := Lib.hid (Check_any (c := c) (c2 := c2) (HD1.out.new_ HN2.out) HRES.out (HO1.out.new_ HN2.out) (by omega) (HE1.out.new_ HN2.out))
    have HRR := Lib.hid (fun w' (hc : NewW w1 w') => RightD_ref (c := c) (HD1.out.new_ hc))
    have HRA := Lib.hid (fun w' (hc : NewW w1 w') => RightD_any (c := c) (HD1.out.new_ hc))
    have HEX := Lib.hid (fun w' (hc : NewW w1 w') => Explains_ref (c := c) (c2 := c2) (HD1.out.new_ hc) HRES.out (by omega) (HO1.out.new_ hc) (by omega) hc2 (by have := HCM.out; unfold maxLen at this; omega))
    by_cases h0 : rightD l = 0
    · have HEQ := Lib.hid (show checkO l o = explB l o from by unfold checkO; rw [h0, check_expl (right_hist h0).2.1]; rfl)
      rw [h0] at HCK HRR HRA
      rw [HEQ.out] at HCK
      generalize explB l o = X at *
      have eX : (X == X) = true := by simp
      clear h0 h20
      go_wp2_with fail
      refine HCK.out.mono ?_
      rintro e w3 ⟨rfl, hN⟩
      dsimp only
      have HN3 := Lib.hid (HN2.out.trans' hN)
      clear hN HCK
      go_wp2_with fail
      refine (HRR.out _ HN3.out).mono ?_
      rintro e w4 ⟨rfl, hN⟩
      dsimp only
      have HN4 := Lib.hid (HN3.out.trans' hN)
      clear hN HRR
      go_wp2_with fail
      refine (HEX.out _ HN4.out).mono ?_
      rintro e w5 ⟨rfl, hN⟩
      dsimp only
      have HN5 := Lib.hid (HN4.out.trans' hN)
      clear hN HEX
      go_wp2_with fail
      refine (HRA.out _ HN5.out).mono ?_
      rintro e w6 ⟨rfl, hN⟩
      dsimp only
      have HBF := Lib.hid (HBX.out _ (HN5.out.trans' hN))
      clear hN HRA
      go_wp2_with fail
      go_ret
      exact ⟨rfl, HBF.out⟩
    · have HEQ := Lib.hid (show checkO l o = false from by unfold checkO; rw [show decide (rightD l = 0) = false by simpa using h0]; rfl)
      rw [HEQ.out] at HCK
      obtain ⟨V, hV⟩ : ∃ V, rightD l = V := ⟨_, rfl⟩
      rw [hV] at HCK HRR HRA h0
      have d1 : (V != 0) = true := by simpa using h0
      have d2 : decide (V = 0) = false := by simpa using h0
      have d3 : (V == 0) = false := by simpa using h0
      have d4 : (V == V) = true := by simp
      clear h0 hV h20
      go_wp2_with fail
      refine HCK.out.mono ?_
      rintro e w3 ⟨rfl, hN⟩
      dsimp only
      have HN3 := Lib.hid (HN2.out.trans' hN)
      clear hN HCK
      go_wp2_with fail
      refine (HRR.out _ HN3.out).mono ?_
      rintro e w4 ⟨rfl, hN⟩
      dsimp only
      have HN4 := Lib.hid (HN3.out.trans' hN)
      clear hN HRR
      go_wp2_with fail
      refine (HRA.out _ HN4.out).mono ?_
      rintro e w6 ⟨rfl, hN⟩
      dsimp only
      have HBF := Lib.hid (HBX.out _ (HN4.out.trans' hN))
      clear hN HRA
      go_wp2_with fail
      go_ret
      exact ⟨rfl, HBF.out⟩
  · rw [hf] at HFW
    clear hf
    refine HFW.out.mono ?_
    rintro e w2 ⟨rfl, hN⟩
    dsimp only
    have HBF := Lib.hid (HBX.out _ hN)
    clear hN HFW
    go_wp2_with fail
    go_ret
    exact ⟨rfl, HBF.out⟩
end Go.Proofs.YtbggadhaaphmcaaDoor
