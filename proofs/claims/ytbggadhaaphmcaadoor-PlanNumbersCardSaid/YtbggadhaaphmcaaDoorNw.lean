/- PlanNumbers: the law's walk. -/
import Derived.Test.YtbggadhaaphmcaaDoorFx
namespace Go.Proofs.YtbggadhaaphmcaaDoor
open Go.RowKit
set_option linter.unusedVariables false

set_option maxRecDepth 100000 in
set_option maxHeartbeats 8000000 in
theorem numbers_walk (n : Int) (h0 : -9223372036854775808 ≤ n) (h1 : n ≤ 9223372036854775807) (s : ByteArray) (hs : s.size ≤ maxLen) (w : World) (hE : Env w) :
    Calls Tryd.prog 4 #[.int .i64 n, .string s] w fun e w' => e = .returned (.bool true) ∧ Below w.heap.size w w' := by
  have hsI : (s.size : Int) ≤ 9223372036854775807 := by unfold maxLen at hs; omega
  have HFX := Lib.hid (fixed_any hE)
  have HE := Lib.hid hE
  have HTX := Lib.hid (fun w' (hb : Env w') => Text_any n h0 h1 hb)
  have HL := Lib.hid (show (txt n).size ≤ 1000 by rw [← size_len, txt_data]; have := itoa_len20 h0 h1; omega)
  clear hE hs h0 h1
  go_enter Tryd.func4, Tryd.ntmps4
  go_wp2_with fail
  refine HFX.out.mono ?_
  rintro e w1 ⟨rfl, hb⟩
  dsimp only
  have HB1 := Lib.hid hb
  have HE1 := Lib.hid (HE.out.below hb)
  clear hb HFX
  by_cases hk : 100 < s.size
  · have d : decide (100 < (s.size : Int)) = true := by simp; omega
    have d' : decide (100 < s.size) = true := by simpa using hk
    clear hk
    go_wp2_with fail
    go_ret
    exact ⟨rfl, HB1.out⟩
  have d : decide (100 < (s.size : Int)) = false := by simp; omega
  have d' : decide (100 < s.size) = false := by simpa using hk
  have HNA := Lib.hid (Number_any s (by omega) HE1.out)
  have HNR := Lib.hid (fun w' => Number_ref s (by omega) w')
  obtain ⟨R, hR⟩ : ∃ R, numR s = R := ⟨_, rfl⟩
  rw [hR] at HNA HNR
  have hrr : (R != R) = false := by simp
  clear hk hR
  go_wp2_with fail
  refine HNA.out.mono ?_
  rintro e w2 ⟨rfl, hN⟩
  dsimp only
  have HN2 := Lib.hid hN
  clear hN HNA
  go_wp2_with fail
  refine (HNR.out _).mono ?_
  rintro e w3 ⟨rfl, hN⟩
  dsimp only
  have HN3 := Lib.hid (HN2.out.trans' hN)
  clear hN HNR HN2
  have HBX := Lib.hid (fun w' (hc : NewW w1 w') => (show Below w.heap.size w w' from Ch.below HB1.out hc (fun _ h => h.elim) HB1.out.size))
  by_cases hbig : n < -1125899906842624 ∨ 1125899906842624 < n
  · have HZ := Lib.hid (show numR (txt n) = 0 by unfold numR; rw [txt_data]; exact numOf_big hbig)
    have HNT := Lib.hid (fun w' (he : Env w') => Number_any (txt n) HL.out he)
    rw [HZ.out] at HNT
    generalize txt n = T at *
    rcases hbig with hb | hb
    all_goals
      first
        | have m1 : decide (n < -1125899906842624) = true := by simpa using hb
        | (have m1 : decide (n < -1125899906842624) = false := by simp; omega
           have m2 : decide (1125899906842624 < n) = true := by simpa using hb)
      clear hb
      go_wp2_with fail
      refine (HTX.out _ (HE1.out.new_ HN3.out)).mono ?_
      rintro e w4 ⟨rfl, hN⟩
      dsimp only
      have HN4 := Lib.hid (HN3.out.trans' hN)
      clear hN HTX
      go_wp2_with fail
      refine (HNT.out _ (HE1.out.new_ HN4.out)).mono ?_
      rintro e w5 ⟨rfl, hN⟩
      dsimp only
      have HN5 := Lib.hid (HN4.out.trans' hN)
      clear hN
      go_wp2_with fail
      go_ret
      exact ⟨rfl, HBX.out _ HN5.out⟩
  · have m1 : decide (n < -1125899906842624) = false := by simp; omega
    have m2 : decide (1125899906842624 < n) = false := by simp; omega
    have HTR := Lib.hid (fun w' => Text_ref n (by omega) (by omega) w')
    have HZ := Lib.hid (num_txt (n := n) (by omega) (by omega))
    have HNT := Lib.hid (fun w' (he : Env w') => Number_any (txt n) HL.out he)
    rw [HZ.out] at HNT
    generalize txt n = T at *
    have e1 : (T.toList == T.toList) = true := by simp
    have e2 : (n == n) = true := by simp
    clear hbig
    go_wp2_with fail
    refine (HTX.out _ (HE1.out.new_ HN3.out)).mono ?_
    rintro e w4 ⟨rfl, hN⟩
    dsimp only
    have HN4 := Lib.hid (HN3.out.trans' hN)
    clear hN
    go_wp2_with fail
    refine (HTR.out _).mono ?_
    rintro e w5 ⟨rfl, hN⟩
    dsimp only
    have HN5 := Lib.hid (HN4.out.trans' hN)
    clear hN
    go_wp2_with fail
    refine (HTX.out _ (HE1.out.new_ HN5.out)).mono ?_
    rintro e w6 ⟨rfl, hN⟩
    dsimp only
    have HN6 := Lib.hid (HN5.out.trans' hN)
    clear hN
    go_wp2_with fail
    refine (HNT.out _ (HE1.out.new_ HN6.out)).mono ?_
    rintro e w7 ⟨rfl, hN⟩
    dsimp only
    have HN7 := Lib.hid (HN6.out.trans' hN)
    clear hN
    go_wp2_with fail
    go_ret
    exact ⟨rfl, HBX.out _ HN7.out⟩
end Go.Proofs.YtbggadhaaphmcaaDoor
