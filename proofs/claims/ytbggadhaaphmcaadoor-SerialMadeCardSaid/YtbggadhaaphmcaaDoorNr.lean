/- The document's Number of a text. -/
import Derived.Test.YtbggadhaaphmcaaDoorTe
import Derived.Deep.DeepCutAuto
namespace Go.Proofs.YtbggadhaaphmcaaDoor
open Go.RowKit Go.Sort
set_option linter.unusedVariables false

theorem tail_data (s : ByteArray) : (s.extract 1 s.size).data.toList = s.data.toList.drop 1 := by
  simp [ByteArray.data_extract, List.extract]
  rw [List.take_of_length_le]
  have := size_len s
  simp at this ⊢
theorem numR_eq {s : ByteArray} {v : Int} (h : NumIs s.data.toList v) : numR s = v := numOf_eq h
theorem take_digit (t : ByteArray) (k : Nat) (h : k < t.size) : t.data.toList.take (k + 1) = t.data.toList.take k ++ [t[k]] := by
  rw [List.take_succ_eq_append_getElem (by simpa using h)]; rfl
theorem mem_digit (t : ByteArray) (k : Nat) (h : k < t.size) : t[k] ∈ t.data.toList := by
  have : t.data.toList[k]'(by simpa using h) = t[k] := rfl
  rw [← this]
  exact List.getElem_mem _
theorem unsign_minus {s : ByteArray} {c : UInt8} {r : List UInt8} (h : s.data.toList = c :: r) (hc : c.toNat = 45) : unsign s.data.toList = r := by
  rw [h]; unfold unsign; dsimp only; rw [if_pos hc]
theorem unsign_plain {s : ByteArray} {c : UInt8} {r : List UInt8} (h : s.data.toList = c :: r) (hc : ¬ c.toNat = 45) : unsign s.data.toList = s.data.toList := by
  rw [h]; unfold unsign; dsimp only; rw [if_neg hc]
/-- What holds of the digits up to k. -/
structure Dg (t : ByteArray) (k : Nat) (N : Int) : Prop where
  val : N = valD 0 (t.data.toList.take k)
  dig : ∀ c ∈ t.data.toList.take k, isD c
theorem Dg.bound {t : ByteArray} {k : Nat} {N : Int} (h : Dg t k N) (hk : k ≤ 16) : 0 ≤ N ∧ N ≤ 9999999999999999 ∧ (k < 16 → N ≤ 999999999999999) := by
  have h1 := valD_bound (t.data.toList.take k) 0 0 h.dig (by decide)
  rw [Nat.zero_add] at h1
  have hl : (t.data.toList.take k).length ≤ k := List.length_take_le _ _
  have h2 : (10 : Nat) ^ (t.data.toList.take k).length ≤ 10 ^ 16 := Nat.pow_le_pow_right (by decide) (by omega)
  have e16 : (10 : Nat) ^ 16 = 10000000000000000 := by decide
  have e15 : (10 : Nat) ^ 15 = 1000000000000000 := by decide
  have hv := h.val
  refine ⟨by omega, by omega, fun hk' => ?_⟩
  have h3 : (10 : Nat) ^ (t.data.toList.take k).length ≤ 10 ^ 15 := Nat.pow_le_pow_right (by decide) (by omega)
  omega
theorem Dg.next {t : ByteArray} {k : Nat} {N : Int} (h : Dg t k N) (hk : k < t.size) (hd : isD t[k]) : Dg t (k + 1) (N * 10 + ((t[k].toNat : Int) - 48)) := by
  refine ⟨?_, fun c hc => ?_⟩
  · rw [take_digit t k hk, valD_snoc, h.val]
    unfold isD at hd
    omega
  · rw [take_digit t k hk, List.mem_append, List.mem_singleton] at hc
    rcases hc with hc | hc
    · exact h.dig c hc
    · rw [hc]; exact hd
theorem Dg.zero (t : ByteArray) : Dg t 0 0 := ⟨rfl, by simp⟩
theorem spell_of {s t : ByteArray} {N : Int} (ht : t.data.toList = unsign s.data.toList) (h : Dg t t.size N) : spell s.data.toList = if t.size < s.size then -N else N := by
  have hv := h.val
  rw [List.take_of_length_le (by rw [size_len]; omega), ht] at hv
  unfold spell
  rw [← ht, size_len, size_len, ht, ← hv]
set_option maxRecDepth 100000 in
set_option maxHeartbeats 4000000 in
theorem Number_ref (s : ByteArray) (hs : s.size ≤ 1000) (w : World) :
    Calls Tryd.prog 26 #[.string s] w fun e w' => e = .returned (.int .i64 (numR s)) ∧ NewW w w' := by
  obtain ⟨R, hR⟩ : ∃ R, numR s = R := ⟨_, rfl⟩
  rw [hR]
  have HR := Lib.hid hR
  clear hR
  have hsI : (s.size : Int) ≤ 1000 := by omega
  rcases Nat.eq_zero_or_pos s.size with h0 | h0
  · obtain rfl := size_zero h0
    have hr : R = 0 := by rw [← HR.out]; exact numR_eq (num_ref_short (.inl rfl))
    subst hr
    clear h0 hs hsI
    go_enter Tryd.func26, Tryd.ntmps26
    go_wp2_with fail
    go_ret
    exact ⟨rfl, Ch.refl _ _⟩
  obtain ⟨c, r, hcr⟩ : ∃ c r, s.data.toList = c :: r := by
    rcases hl : s.data.toList with _ | ⟨c, r⟩
    · have := size_len s
      rw [hl] at this
      simp at this
      omega
    · exact ⟨c, r, rfl⟩
  have hs0 : s[0] = c := by
    have h1 : s.data.toList[0]? = some c := by rw [hcr]; rfl
    have h2 : s.data.toList[0]? = some s[0] := List.getElem?_eq_getElem (by simpa using h0)
    rw [h1] at h2
    injection h2 with h2
    exact h2.symm
  have hp : decide (0 < (s.size : Int)) = true := by simp; omega
  have hp' : decide (0 < s.size) = true := by simpa using h0
  have HS0 := Lib.hid hs0
  have HCR := Lib.hid hcr
  clear hs0 hcr
  by_cases hc : c.toNat = 45
  · have hu := unsign_minus HCR.out hc
    have t0 : (((s[0]'h0).toNat : Int) == 45) = true := by rw [HS0.out]; simp; omega
    have HT := Lib.hid (show (s.extract 1 s.size).data.toList = unsign s.data.toList by rw [hu, tail_data, HCR.out]; rfl)
    have hsz : (s.extract 1 s.size).size = s.size - 1 := by rw [← size_len, HT.out, hu, ← size_len s, HCR.out]; simp
    have hts : (s.extract 1 s.size).size < s.size := by omega
    clear hu hc hsz
    go_enter Tryd.func26, Tryd.ntmps26
    go_upto_region 4 with (fail)
    generalize s.extract 1 s.size = t at *
    rcases Nat.eq_zero_or_pos t.size with hz | hz
    · have hr : R = 0 := by rw [← HR.out]; refine numR_eq (num_ref_short (.inl ?_)); rw [← HT.out]; exact List.eq_nil_of_length_eq_zero (by rw [size_len]; exact hz)
      obtain rfl := size_zero hz
      subst hr
      clear hz
      go_wp2_with fail
      go_ret
      exact ⟨rfl, Ch.refl _ _⟩
    have z1 : ((t.size : Int) == 0) = false := by simp only [beq_eq_false_iff_ne]; omega
    have z2 : (t.size == 0) = false := by simp only [beq_eq_false_iff_ne]; omega
    by_cases hl : 16 < t.size
    · have hr : R = 0 := by rw [← HR.out]; refine numR_eq (num_ref_short (.inr ?_)); rw [← HT.out, size_len]; exact hl
      have l1 : decide (16 < (t.size : Int)) = true := by simp; omega
      have l2 : decide (16 < t.size) = true := by simpa using hl
      subst hr
      clear hl
      go_wp2_with fail
      go_ret
      exact ⟨rfl, Ch.refl _ _⟩
    have l1 : decide (16 < (t.size : Int)) = false := by simp; omega
    have l2 : decide (16 < t.size) = false := by simpa using hl
    have l3 : (t.size : Int) ≤ 16 := by omega
    clear hl
    go_wp2_with fail
    go_loop [4, 5] (fun nv iv => ∃ (k : Nat) (N : Int), k ≤ t.size ∧ iv = .int .i64 k ∧ nv = .int .i64 N ∧ Dg t k N) (fun _ iv => t.size - (intOf iv).toNat)
    case atStart => exact ⟨0, 0, by omega, rfl, rfl, Dg.zero _⟩
    case round =>
      obtain ⟨k, N, hk, rfl, rfl, hD⟩ := hrel
      obtain ⟨b0, b1, b2⟩ := hD.bound (by omega)
      have HD := Lib.hid hD
      clear hD
      by_cases hlt : k < t.size
      · have hN := b2 (by omega)
        have HX := Lib.hid (HD.out.next hlt)
        have HM := Lib.hid (mem_digit t k hlt)
        have c255 : (t[k].toNat : Int) ≤ 255 := by have := t[k].toNat_lt; omega
        clear b2
        by_cases hd : isD t[k]
        · have HY := Lib.hid (HX.out hd)
          unfold isD at hd
          have d1 : decide ((t[k].toNat : Int) < 48) = false := by simp; omega
          have d2 : decide (57 < (t[k].toNat : Int)) = false := by simp; omega
          have d3 : 48 ≤ (t[k].toNat : Int) := by omega
          have d4 : (t[k].toNat : Int) ≤ 57 := by omega
          clear hd HX
          go_wp2_with fail
          go_round
          case rel => exact ⟨k + 1, _, by omega, by go_num, rfl, HY.out⟩
          case measure => simp [intOf]; omega
        · have hr : R = 0 := by rw [← HR.out]; exact numR_eq (num_ref_bad (c := t[k]) (by rw [← HT.out]; exact HM.out) hd)
          subst hr
          by_cases h48 : (t[k].toNat : Int) < 48
          · have d1 : decide ((t[k].toNat : Int) < 48) = true := by simpa using h48
            clear hd h48 HX
            go_wp2_with fail
            go_ret
            exact ⟨rfl, Ch.refl _ _⟩
          · have d1 : decide ((t[k].toNat : Int) < 48) = false := by simpa using h48
            have d2 : decide (57 < (t[k].toNat : Int)) = true := by unfold isD at hd; simp; omega
            clear hd h48 HX
            go_wp2_with fail
            go_ret
            exact ⟨rfl, Ch.refl _ _⟩
      · obtain rfl : k = t.size := by omega
        have hsp := spell_of HT.out HD.out
        have HV := Lib.hid (numR_eq (num_ref s.data.toList))
        rw [if_pos hts] at hsp
        have tl1 : decide ((t.size : Int) < (s.size : Int)) = true := by simp; omega
        have tl2 : decide (t.size < s.size) = true := by simpa using hts
        have HSP := Lib.hid hsp
        clear hlt hsp b2 hk
        have v0 : -9999999999999999 ≤ -N := by omega
        have v1 : -N ≤ 0 := by omega
        go_upto_region 15 with (fail)
        generalize -N = V at *
        clear b0 b1 HD
        by_cases m1 : V < -1125899906842624
        · have hr : R = 0 := by rw [← HR.out, HV.out, HSP.out, if_neg (by omega)]
          have e1 : decide (V < -1125899906842624) = true := by simpa using m1
          subst hr
          clear m1
          go_wp2_with fail
          go_ret
          exact ⟨rfl, Ch.refl _ _⟩
        have e1 : decide (V < -1125899906842624) = false := by simpa using m1
        by_cases m2 : 1125899906842624 < V
        · have hr : R = 0 := by rw [← HR.out, HV.out, HSP.out, if_neg (by omega)]
          have e2 : decide (1125899906842624 < V) = true := by simpa using m2
          subst hr
          clear m1 m2
          go_wp2_with fail
          go_ret
          exact ⟨rfl, Ch.refl _ _⟩
        have e2 : decide (1125899906842624 < V) = false := by simpa using m2
        have HTX := Lib.hid (fun w => Text_ref V (by omega) (by omega) w)
        have HTE := Lib.hid (txt_eq V s)
        have HRG := Lib.hid (show -1125899906842624 ≤ V ∧ V ≤ 1125899906842624 from ⟨by omega, by omega⟩)
        generalize txt V = X at *
        clear m1 m2
        by_cases q : X.toList = s.toList
        · have q0 : (X.toList == s.toList) = true := by simpa using q
          have q1 : (X.toList != s.toList) = false := by simpa using q
          have hr : R = V := by rw [← HR.out, HV.out, HSP.out, if_pos ⟨HRG.out.1, HRG.out.2, HTE.out.1 q⟩]
          subst hr
          clear q
          go_wp2_with fail
          refine (HTX.out _).mono ?_
          rintro e w2 ⟨rfl, hN⟩
          dsimp only
          have HN := Lib.hid hN
          clear hN
          go_wp2_with fail
          go_ret
          exact ⟨rfl, HN.out⟩
        · have q0 : (X.toList == s.toList) = false := by simpa using q
          have q1 : (X.toList != s.toList) = true := by simpa using q
          have hr : R = 0 := by rw [← HR.out, HV.out, HSP.out, if_neg (fun h => q (HTE.out.2 h.2.2))]
          subst hr
          clear q
          go_wp2_with fail
          refine (HTX.out _).mono ?_
          rintro e w2 ⟨rfl, hN⟩
          dsimp only
          have HN := Lib.hid hN
          clear hN
          go_wp2_with fail
          go_ret
          exact ⟨rfl, HN.out⟩
  · have hu := unsign_plain HCR.out hc
    have t0 : (((s[0]'h0).toNat : Int) == 45) = false := by rw [HS0.out]; simp; omega
    have HT := Lib.hid (show s.data.toList = unsign s.data.toList from hu.symm)
    clear hu hc
    go_enter Tryd.func26, Tryd.ntmps26
    rcases Nat.eq_zero_or_pos s.size with hz | hz
    · omega
    have z1 : ((s.size : Int) == 0) = false := by simp only [beq_eq_false_iff_ne]; omega
    have z2 : (s.size == 0) = false := by simp only [beq_eq_false_iff_ne]; omega
    by_cases hl : 16 < s.size
    · have hr : R = 0 := by rw [← HR.out]; refine numR_eq (num_ref_short (.inr ?_)); rw [← HT.out, size_len]; exact hl
      have l1 : decide (16 < (s.size : Int)) = true := by simp; omega
      have l2 : decide (16 < s.size) = true := by simpa using hl
      subst hr
      clear hl
      go_wp2_with fail
      go_ret
      exact ⟨rfl, Ch.refl _ _⟩
    have l1 : decide (16 < (s.size : Int)) = false := by simp; omega
    have l2 : decide (16 < s.size) = false := by simpa using hl
    have l3 : (s.size : Int) ≤ 16 := by omega
    clear hl
    go_wp2_with fail
    go_loop [4, 5] (fun nv iv => ∃ (k : Nat) (N : Int), k ≤ s.size ∧ iv = .int .i64 k ∧ nv = .int .i64 N ∧ Dg s k N) (fun _ iv => s.size - (intOf iv).toNat)
    case atStart => exact ⟨0, 0, by omega, rfl, rfl, Dg.zero _⟩
    case round =>
      obtain ⟨k, N, hk, rfl, rfl, hD⟩ := hrel
      obtain ⟨b0, b1, b2⟩ := hD.bound (by omega)
      have HD := Lib.hid hD
      clear hD
      by_cases hlt : k < s.size
      · have hN := b2 (by omega)
        have HX := Lib.hid (HD.out.next hlt)
        have HM := Lib.hid (mem_digit s k hlt)
        have c255 : (s[k].toNat : Int) ≤ 255 := by have := s[k].toNat_lt; omega
        clear b2
        by_cases hd : isD s[k]
        · have HY := Lib.hid (HX.out hd)
          unfold isD at hd
          have d1 : decide ((s[k].toNat : Int) < 48) = false := by simp; omega
          have d2 : decide (57 < (s[k].toNat : Int)) = false := by simp; omega
          have d3 : 48 ≤ (s[k].toNat : Int) := by omega
          have d4 : (s[k].toNat : Int) ≤ 57 := by omega
          clear hd HX
          go_wp2_with fail
          go_round
          case rel => exact ⟨k + 1, _, by omega, by go_num, rfl, HY.out⟩
          case measure => simp [intOf]; omega
        · have hr : R = 0 := by rw [← HR.out]; exact numR_eq (num_ref_bad (c := s[k]) (by rw [← HT.out]; exact HM.out) hd)
          subst hr
          by_cases h48 : (s[k].toNat : Int) < 48
          · have d1 : decide ((s[k].toNat : Int) < 48) = true := by simpa using h48
            clear hd h48 HX
            go_wp2_with fail
            go_ret
            exact ⟨rfl, Ch.refl _ _⟩
          · have d1 : decide ((s[k].toNat : Int) < 48) = false := by simpa using h48
            have d2 : decide (57 < (s[k].toNat : Int)) = true := by unfold isD at hd; simp; omega
            clear hd h48 HX
            go_wp2_with fail
            go_ret
            exact ⟨rfl, Ch.refl _ _⟩
      · obtain rfl : k = s.size := by omega
        have hsp := spell_of HT.out HD.out
        have HV := Lib.hid (numR_eq (num_ref s.data.toList))
        rw [if_neg (by omega)] at hsp
        have HSP := Lib.hid hsp
        clear hlt hsp b2 hk
        have v0 : (0 : Int) ≤ N := b0
        have v1 : N ≤ 9999999999999999 := b1
        by_cases m1 : N < -1125899906842624
        · have hr : R = 0 := by rw [← HR.out, HV.out, HSP.out, if_neg (by omega)]
          have e1 : decide (N < -1125899906842624) = true := by simpa using m1
          subst hr
          clear m1
          go_wp2_with fail
          go_ret
          exact ⟨rfl, Ch.refl _ _⟩
        have e1 : decide (N < -1125899906842624) = false := by simpa using m1
        by_cases m2 : 1125899906842624 < N
        · have hr : R = 0 := by rw [← HR.out, HV.out, HSP.out, if_neg (by omega)]
          have e2 : decide (1125899906842624 < N) = true := by simpa using m2
          subst hr
          clear m1 m2
          go_wp2_with fail
          go_ret
          exact ⟨rfl, Ch.refl _ _⟩
        have e2 : decide (1125899906842624 < N) = false := by simpa using m2
        have HTX := Lib.hid (fun w => Text_ref N (by omega) (by omega) w)
        have HTE := Lib.hid (txt_eq N s)
        have HRG := Lib.hid (show -1125899906842624 ≤ N ∧ N ≤ 1125899906842624 from ⟨by omega, by omega⟩)
        generalize txt N = X at *
        clear m1 m2
        by_cases q : X.toList = s.toList
        · have q0 : (X.toList == s.toList) = true := by simpa using q
          have q1 : (X.toList != s.toList) = false := by simpa using q
          have hr : R = N := by rw [← HR.out, HV.out, HSP.out, if_pos ⟨HRG.out.1, HRG.out.2, HTE.out.1 q⟩]
          subst hr
          clear q
          go_wp2_with fail
          refine (HTX.out _).mono ?_
          rintro e w2 ⟨rfl, hN⟩
          dsimp only
          have HN := Lib.hid hN
          clear hN
          go_wp2_with fail
          go_ret
          exact ⟨rfl, HN.out⟩
        · have q0 : (X.toList == s.toList) = false := by simpa using q
          have q1 : (X.toList != s.toList) = true := by simpa using q
          have hr : R = 0 := by rw [← HR.out, HV.out, HSP.out, if_neg (fun h => q (HTE.out.2 h.2.2))]
          subst hr
          clear q
          go_wp2_with fail
          refine (HTX.out _).mono ?_
          rintro e w2 ⟨rfl, hN⟩
          dsimp only
          have HN := Lib.hid hN
          clear hN
          go_wp2_with fail
          go_ret
          exact ⟨rfl, HN.out⟩
end Go.Proofs.YtbggadhaaphmcaaDoor
