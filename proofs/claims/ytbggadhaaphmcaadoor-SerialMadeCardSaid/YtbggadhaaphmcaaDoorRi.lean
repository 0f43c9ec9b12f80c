/- Which plans may be: the program's function and the document's. -/
import Derived.Test.YtbggadhaaphmcaaDoorTx
namespace Go.Proofs.YtbggadhaaphmcaaDoor
open Go.Lib Go.RowKit
set_option linter.unusedVariables false

theorem all_step {l : List OpD} {k : Nat} {o : OpD} (h : l[k]? = some o) : (l.take (k + 1)).all okB = ((l.take k).all okB && okB o) := by
  have hk := lt_of_some h
  rw [List.take_succ_eq_append_getElem hk]
  rw [List.getElem?_eq_getElem hk] at h
  injection h with h
  simp [h]
theorem all_not {l : List OpD} {k : Nat} {o : OpD} (h : l[k]? = some o) (hb : okB o = false) : l.all okB = false := by
  rw [List.all_eq_false]
  exact ⟨o, mem_of_some h, by rw [hb]; simp⟩
set_option maxHeartbeats 1000000 in
theorem Right_any {w : World} {A : Option Addr} {n c : Nat} {l : List OpD} (h : Ops w A n l) :
    Calls Tryd.prog 16 #[.slice A n c] w fun e w' => e = .returned (.int .i64 (rightE l)) ∧ NewW w w' := by
  have hn := h.1
  have H := Lib.hid h
  obtain ⟨R, hR⟩ : ∃ R, rightE l = R := ⟨_, rfl⟩
  have HR := Lib.hid hR
  rw [hR]
  have HL := Lib.hid hn
  clear h hR hn
  by_cases h16 : 16 < n
  · have d : decide (16 < (n : Int)) = true := by simp; omega
    have d' : decide (16 < n) = true := by simpa using h16
    have hr : R = 4 := by rw [← HR.out]; unfold rightE; rw [if_pos (by rw [HL.out]; exact h16)]
    subst hr
    clear h16
    go_enter Tryd.func16, Tryd.ntmps16
    go_wp2_with fail
    go_ret
    exact ⟨rfl, Ch.refl _ _⟩
  have d : decide (16 < (n : Int)) = false := by simp; omega
  have d' : decide (16 < n) = false := by simpa using h16
  have hn16 : (n : Int) ≤ 16 := by omega
  have HR2 := Lib.hid (show R = if l.all okB then 0 else 1 by rw [← HR.out]; unfold rightE; rw [if_neg (by rw [HL.out]; omega)])
  clear h16
  go_enter Tryd.func16, Tryd.ntmps16
  go_wp2_with fail
  go_loopw [10] (fun i wr => ∃ k : Nat, k ≤ n ∧ i = .int .i64 k ∧ (l.take k).all okB = true ∧ NewW w wr) (fun i _ => n - (intOf i).toNat)
  case atStart => exact ⟨0, by omega, rfl, by simp, Ch.refl _ _⟩
  case round =>
    obtain ⟨k, hk, rfl, hall, hC⟩ := hrel
    have HC := Lib.hid hC
    have HA := Lib.hid hall
    clear hall hC
    by_cases hlt : k < n
    · obtain ⟨o, ho⟩ := some_of_lt (show k < l.length by rw [HL.out]; exact hlt)
      obtain ⟨b, off, rfl, x0, x1, x2, x3⟩ := (H.out.new_ HC.out).at_ ho
      have HS := Lib.hid (all_step ho)
      have HN := Lib.hid (fun hb => all_not ho hb)
      have HX := Lib.hid (fun w => right_any o w)
      obtain ⟨K, key, val, N⟩ := o
      dsimp only at x0 x1 x2 x3
      have HCB := Lib.hid (HC.out.alloc (.cells #[.int .i64 K, .string key, .string val, .int .i64 N] 41))
      clear ho
      obtain ⟨B, hB⟩ : ∃ B, okB ⟨K, key, val, N⟩ = B := ⟨_, rfl⟩
      have HB := Lib.hid hB
      rw [hB] at HX HS HN
      clear hB
      go_wp2_with fail
      refine (HX.out _).mono ?_
      rintro e w2 ⟨rfl, hN2⟩
      dsimp only
      have HN2 := Lib.hid (HCB.out.trans' hN2)
      clear hN2 HX HCB x0 x1 x2 x3
      cases B
      · have hr : R = 1 := by rw [HR2.out, HN.out rfl]; rfl
        subst hr
        go_wp2_with fail
        go_ret
        exact ⟨rfl, HN2.out⟩
      · go_wp2_with fail
        exact ⟨⟨k + 1, by omega, by go_num, by rw [HS.out, HA.out]; rfl, HN2.out⟩, by simp [intOf]; omega⟩
    · obtain rfl : k = n := by omega
      have hr : R = 0 := by
        rw [HR2.out]
        have := HA.out
        rw [List.take_of_length_le (by rw [HL.out]; omega)] at this
        rw [this]; rfl
      subst hr
      clear hlt hk
      go_wp2_with fail
      go_ret
      exact ⟨rfl, HC.out⟩
end Go.Proofs.YtbggadhaaphmcaaDoor
