/- Which plans may be: the document's function. -/
import Derived.Test.YtbggadhaaphmcaaDoorRi
namespace Go.Proofs.YtbggadhaaphmcaaDoor
open Go.Lib Go.RowKit
set_option linter.unusedVariables false

set_option maxHeartbeats 4000000 in
theorem Right_ref {w : World} {A : Option Addr} {n c : Nat} {l : List OpD} (h : Ops w A n l) :
    Calls Tryd.prog 17 #[.slice A n c] w fun e w' => e = .returned (.int .i64 (rightE l)) ∧ NewW w w' := by
  have hn := h.1
  have H := Lib.hid h
  obtain ⟨R, hR⟩ : ∃ R, rightE l = R := ⟨_, rfl⟩
  have HR := Lib.hid hR
  rw [hR]
  have HL := Lib.hid hn
  clear h hR hn
  by_cases h16 : 16 < n
  · have d : decide (16 < (n : Int)) = true := by simp; omega
    have d' : decide (16 < n) = true := by simpa using h16
    have hr : R = 4 := by rw [← HR.out]; unfold rightE; rw [if_pos (by rw [HL.out]; exact h16)]
    subst hr
    clear h16
    go_enter Tryd.func17, Tryd.ntmps17
    go_wp2_with fail
    go_ret
    exact ⟨rfl, Ch.refl _ _⟩
  have d : decide (16 < (n : Int)) = false := by simp; omega
  have d' : decide (16 < n) = false := by simpa using h16
  have hn16 : (n : Int) ≤ 16 := by omega
  have HR2 := Lib.hid (show R = if l.all okB then 0 else 1 by rw [← HR.out]; unfold rightE; rw [if_neg (by rw [HL.out]; omega)])
  clear h16
  go_enter Tryd.func17, Tryd.ntmps17
  go_wp2_with fail
  go_loopw [10] (fun i wr => ∃ k : Nat, k ≤ n ∧ i = .int .i64 k ∧ (l.take k).all okB = true ∧ NewW w wr) (fun i _ => n - (intOf i).toNat)
  case atStart => exact ⟨0, by omega, rfl, by simp, Ch.refl _ _⟩
  case round =>
    obtain ⟨k, hk, rfl, hall, hC⟩ := hrel
    have HC := Lib.hid hC
    have HA := Lib.hid hall
    clear hall hC
    by_cases hlt : k < n
    · obtain ⟨o, ho⟩ := some_of_lt (show k < l.length by rw [HL.out]; exact hlt)
      obtain ⟨b, off, rfl, x0, x1, x2, x3⟩ := (H.out.new_ HC.out).at_ ho
      have HS := Lib.hid (all_step ho)
      have HN := Lib.hid (fun hb => all_not ho hb)
      obtain ⟨K, key, val, N⟩ := o
      dsimp only at x0 x1 x2 x3
      have HCB := Lib.hid (HC.out.alloc (.cells #[.int .i64 K, .string key, .string val, .int .i64 N] 41))
      clear ho
      obtain ⟨B, hB⟩ : ∃ B, okB ⟨K, key, val, N⟩ = B := ⟨_, rfl⟩
      have HB := Lib.hid hB
      rw [hB] at HS HN
      clear hB
      by_cases h6 : K = 6
      · have hb : B = true := by rw [← HB.out]; subst h6; rfl
        have HS2 := Lib.hid (HS.out.trans (by rw [HA.out, hb]; rfl : _ = true))
        subst h6
        clear hb 
        go_wp2_with fail
        exact ⟨⟨k + 1, by omega, by go_num, HS2.out, HCB.out⟩, by simp [intOf]; omega⟩
      have e6 : (K == 6) = false := by simpa using h6
      by_cases h1 : K < 1
      · have hr : R = 1 := by rw [HR2.out, HN.out (by rw [← HB.out]; unfold okB; have a6 : (K == 6) = false := e6; have a1 : (K == 1) = false := (by simp; omega); have a3 : (K == 3) = false := (by simp; omega); have a4 : (K == 4) = false := (by simp; omega); have a2 : (K == 2) = false := (by simp; omega); have a5 : (K == 5) = false := (by simp; omega); dsimp only; rw [a6, a1, a3, a4, a2, a5]; rfl)]; rfl
        subst hr
        have t1 : decide (K < 1) = true := by simpa using h1
        clear h1
        go_wp2_with fail
        go_ret
        exact ⟨rfl, HCB.out⟩
      have f1 : decide (K < 1) = false := by simpa using h1
      by_cases h7 : 6 < K
      · have hr : R = 1 := by rw [HR2.out, HN.out (by rw [← HB.out]; unfold okB; have a6 : (K == 6) = false := e6; have a1 : (K == 1) = false := (by simp; omega); have a3 : (K == 3) = false := (by simp; omega); have a4 : (K == 4) = false := (by simp; omega); have a2 : (K == 2) = false := (by simp; omega); have a5 : (K == 5) = false := (by simp; omega); dsimp only; rw [a6, a1, a3, a4, a2, a5]; rfl)]; rfl
        subst hr
        have t1 : decide (6 < K) = true := by simpa using h7
        clear h7
        go_wp2_with fail
        go_ret
        exact ⟨rfl, HCB.out⟩
      have f7 : decide (6 < K) = false := by simpa using h7
      by_cases hs : key.size = 0
      · have hr : R = 1 := by rw [HR2.out, HN.out (by rw [← HB.out]; unfold okB; dsimp only; rw [e6, hs]; simp)]; rfl
        subst hr
        obtain rfl := size_zero hs
        clear hs
        go_wp2_with fail
        go_ret
        exact ⟨rfl, HCB.out⟩
      have fs : ((key.size : Int) == 0) = false := by simp only [beq_eq_false_iff_ne]; omega
      have fs2 : (key.size == 0) = false := by simp only [beq_eq_false_iff_ne]; omega
      by_cases hl : 16 < key.size
      · have hr : R = 1 := by rw [HR2.out, HN.out (by rw [← HB.out]; unfold okB; dsimp only; rw [e6, decide_eq_false (show ¬ key.size ≤ 16 by omega)]; simp)]; rfl
        subst hr
        have t1 : decide (16 < (key.size : Int)) = true := by simp; omega
        have t2 : decide (16 < key.size) = true := by simpa using hl
        clear hl
        go_wp2_with fail
        go_ret
        exact ⟨rfl, HCB.out⟩
      have fl : decide (16 < (key.size : Int)) = false := by simp; omega
      have fl2 : decide (16 < key.size) = false := by simpa using hl
      have gk : (decide (0 < key.size) && decide (key.size ≤ 16)) = true := by rw [decide_eq_true (show 0 < key.size by omega), decide_eq_true (show key.size ≤ 16 by omega)]; rfl
      have GK := Lib.hid gk
      clear gk hs hl h7 h1
      by_cases h2 : K = 2
      · subst h2
        by_cases hv : 32 < val.size
        · have hr : R = 1 := by rw [HR2.out, HN.out (by rw [← HB.out]; unfold okB; dsimp only; rw [decide_eq_false (show ¬ val.size ≤ 32 by omega)]; rfl)]; rfl
          subst hr
          have t1 : decide (32 < (val.size : Int)) = true := by simp; omega
          have t2 : decide (32 < val.size) = true := by simpa using hv
          clear hv
          go_wp2_with fail
          go_ret
          exact ⟨rfl, HCB.out⟩
        · have hb : B = true := by rw [← HB.out]; unfold okB; dsimp only; rw [decide_eq_true (show val.size ≤ 32 by omega), GK.out]; rfl
          have HS2 := Lib.hid (HS.out.trans (by rw [HA.out, hb]; rfl : _ = true))
          have t1 : decide (32 < (val.size : Int)) = false := by simp; omega
          have t2 : decide (32 < val.size) = false := by simpa using hv
          clear hb hv
          go_wp2_with fail
          exact ⟨⟨k + 1, by omega, by go_num, HS2.out, HCB.out⟩, by simp [intOf]; omega⟩
      have e2 : (K == 2) = false := by simpa using h2
      by_cases h5 : K = 5
      · subst h5
        by_cases hv : N < -1125899906842624
        · have hr : R = 1 := by rw [HR2.out, HN.out (by rw [← HB.out]; unfold okB; dsimp only; rw [decide_eq_false (show ¬ -1125899906842624 ≤ N by omega)]; rfl)]; rfl
          subst hr
          have t1 : decide (N < -1125899906842624) = true := by simpa using hv
          clear hv
          go_wp2_with fail
          go_ret
          exact ⟨rfl, HCB.out⟩
        have t1 : decide (N < -1125899906842624) = false := by simpa using hv
        by_cases hu : 1125899906842624 < N
        · have hr : R = 1 := by rw [HR2.out, HN.out (by rw [← HB.out]; unfold okB; dsimp only; rw [decide_eq_false (show ¬ N ≤ 1125899906842624 by omega), Bool.and_false]; rfl)]; rfl
          subst hr
          have t2 : decide (1125899906842624 < N) = true := by simpa using hu
          clear hu
          go_wp2_with fail
          go_ret
          exact ⟨rfl, HCB.out⟩
        · have hb : B = true := by rw [← HB.out]; unfold okB; dsimp only; rw [decide_eq_true (show -1125899906842624 ≤ N by omega), decide_eq_true (show N ≤ 1125899906842624 by omega), GK.out]; rfl
          have HS2 := Lib.hid (HS.out.trans (by rw [HA.out, hb]; rfl : _ = true))
          have t2 : decide (1125899906842624 < N) = false := by simpa using hu
          clear hb hv hu
          go_wp2_with fail
          exact ⟨⟨k + 1, by omega, by go_num, HS2.out, HCB.out⟩, by simp [intOf]; omega⟩
      have e5 : (K == 5) = false := by simpa using h5
      have hb : B = true := by rw [← HB.out]; unfold okB; dsimp only; rw [GK.out, e6, e2, e5]; have : K = 1 ∨ K = 3 ∨ K = 4 := (by simp at f1 f7; omega); rcases this with rfl | rfl | rfl <;> rfl
      have HS2 := Lib.hid (HS.out.trans (by rw [HA.out, hb]; rfl : _ = true))
      clear hb h2 h5 h6
      go_wp2_with fail
      exact ⟨⟨k + 1, by omega, by go_num, HS2.out, HCB.out⟩, by simp [intOf]; omega⟩
    · obtain rfl : k = n := by omega
      have hr : R = 0 := by
        rw [HR2.out]
        have := HA.out
        rw [List.take_of_length_le (by rw [HL.out]; omega)] at this
        rw [this]; rfl
      subst hr
      clear hlt hk
      go_wp2_with fail
      go_ret
      exact ⟨rfl, HC.out⟩
end Go.Proofs.YtbggadhaaphmcaaDoor
