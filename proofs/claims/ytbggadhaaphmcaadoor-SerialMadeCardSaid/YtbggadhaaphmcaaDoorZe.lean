/- serial: whether a history is little. -/
import Derived.Test.YtbggadhaaphmcaaDoorZd
namespace Go.Proofs.YtbggadhaaphmcaaDoor
open Go.Lib Go.RowKit
set_option linter.unusedVariables false

def okR (p : Pr) : Bool := !decide (100 < p.1.size)
def okD (d : DeedD) : Bool := (!decide (20 < d.plan.length) && !decide (20 < d.res.length)) && (d.plan.all okO && d.res.all okR)
def fewD (l : Hist) (m : Int) : Bool := l.all okD && decide ((l.length : Int) ≤ m)
set_option maxRecDepth 100000 in
set_option maxHeartbeats 4000000 in
theorem fewD_any {w : World} {A : Option Addr} {n c : Nat} {l : Hist} (M : Int) (h : Deeds w A n l) :
    Calls Tryd.prog 42 #[.slice A n c, .int .i64 M] w fun e w' => e = .returned (.bool (fewD l M)) ∧ NewW w w' := by
  have HL := Lib.hid h.1
  have hnm := h.2.1
  have hnI : (n : Int) ≤ 9223372036854775807 := by unfold maxLen at hnm; omega
  have H := Lib.hid h
  obtain ⟨R, hR⟩ : ∃ R, fewD l M = R := ⟨_, rfl⟩
  have HR := Lib.hid hR
  rw [hR]
  clear h hR hnm
  have HBAD := Lib.hid (fun (k : Nat) (d : DeedD) (hk : l[k]? = some d) (hb : okD d = false) => (show R = false by
    rw [← HR.out]; unfold fewD; rw [allN (f := okD) hk hb]; rfl))
  go_enter Tryd.func42, Tryd.ntmps42
  go_wp2_with fail
  go_loopw [13] (fun i wr => ∃ k : Nat, k ≤ n ∧ i = .int .i64 k ∧ (l.take k).all okD = true ∧ NewW w wr) (fun i _ => n - (intOf i).toNat)
  case atStart => exact ⟨0, by omega, rfl, by simp, Ch.refl _ _⟩
  case round =>
    obtain ⟨k, hk, rfl, hall, hC⟩ := hrel
    have HC := Lib.hid hC
    have HA := Lib.hid hall
    clear hall hC
    by_cases hlt : k < n
    · obtain ⟨dd, hp⟩ := some_of_lt (show k < l.length by rw [HL.out]; exact hlt)
      obtain ⟨b, off, rfl, hat⟩ := (H.out.new_ HC.out).at_ hp
      have x0 := hat.c0
      have x1 := hat.c1
      obtain ⟨A2, c2, x2, hO⟩ := hat.c2
      obtain ⟨A3, c3, x3, hP⟩ := hat.c3
      have x4 := hat.c4
      have lp := hat.lp
      have lr := hat.lr
      have HS := Lib.hid (allS (f := okD) hp)
      have HB := Lib.hid (fun hb => HBAD.out k dd hp hb)
      clear hat hp
      obtain ⟨fr, to, plan, res, op⟩ := dd
      dsimp only at x0 x1 x2 x3 x4 hO hP lp lr
      have HO := Lib.hid hO
      have HP := Lib.hid hP
      have HOK := Lib.hid (show okD ⟨fr, to, plan, res, op⟩ = ((!decide (20 < plan.length) && !decide (20 < res.length)) && (plan.all okO && res.all okR)) from rfl)
      generalize hLP : plan.length = LP at *
      generalize hLR : res.length = LR at *
      have HLP := Lib.hid hLP
      have HLR := Lib.hid hLR
      have hpI : (LP : Int) ≤ 9223372036854775807 := by unfold maxLen at lp; omega
      have hrI : (LR : Int) ≤ 9223372036854775807 := by unfold maxLen at lr; omega
      have HK1 := Lib.hid (Blk.new wr 89 #[.int .i64 fr, .int .i64 to, .slice A2 LP c2, .slice A3 LR c3, .bool op])
      have HN1 := Lib.hid ((Ch.refl (fun _ => False) wr).alloc (.cells #[.int .i64 fr, .int .i64 to, .slice A2 LP c2, .slice A3 LR c3, .bool op] 89))
      have HCB := Lib.hid (HC.out.trans' HN1.out)
      clear hLP hLR lp lr hO hP
      by_cases q1 : 20 < LP
      · have dq : decide (20 < (LP : Int)) = true := by simp; omega
        have dq' : decide (20 < LP) = true := by simpa using q1
        obtain rfl : R = false := HB.out (by rw [HOK.out, dq']; rfl)
        clear q1
        go_wp2_with fail
        go_ret
        exact ⟨rfl, HCB.out⟩
      have dq : decide (20 < (LP : Int)) = false := by simp; omega
      have dq' : decide (20 < LP) = false := by simpa using q1
      by_cases q2 : 20 < LR
      · have dr : decide (20 < (LR : Int)) = true := by simp; omega
        have dr' : decide (20 < LR) = true := by simpa using q2
        obtain rfl : R = false := HB.out (by rw [HOK.out, dr', Bool.not_true, Bool.and_false]; rfl)
        clear q1 q2
        go_wp2_with fail
        go_ret
        exact ⟨rfl, HCB.out⟩
      have dr : decide (20 < (LR : Int)) = false := by simp; omega
      have dr' : decide (20 < LR) = false := by simpa using q2
      have HOK2 := Lib.hid (show okD ⟨fr, to, plan, res, op⟩ = (plan.all okO && res.all okR) by rw [HOK.out, dq', dr']; rfl)
      clear q1 q2
      go_wp2_with fail
      have HO1 := Lib.hid (HO.out.new_ HN1.out)
      have HP1 := Lib.hid (HP.out.new_ HN1.out)
      obtain ⟨lb, hlb⟩ : ∃ lb, wr.heap.size = lb := ⟨_, rfl⟩
      rw [hlb] at HK1
      simp only [hlb]
      generalize wr.alloc (.cells #[.int .i64 fr, .int .i64 to, .slice A2 LP c2, .slice A3 LR c3, .bool op] 89) = w1 at *
      clear hlb x0 x1 x2 x3 x4 HN1 HO HP HC
      go_loopw [30] (fun i w2 => ∃ j : Nat, j ≤ LP ∧ i = .int .i64 j ∧ (plan.take j).all okO = true ∧ NewW w1 w2) (fun i _ => LP - (intOf i).toNat)
      case atStart => exact ⟨0, by omega, rfl, by simp, Ch.refl _ _⟩
      case round =>
        obtain ⟨j, hj, rfl, hall, hC2⟩ := hrel
        have HC2 := Lib.hid hC2
        have HA2 := Lib.hid hall
        clear hall hC2
        by_cases hjm : j < LP
        · obtain ⟨o, ho⟩ := some_of_lt (show j < plan.length by rw [HLP.out]; exact hjm)
          obtain ⟨b2, off2, rfl, y0, y1, y2, y3⟩ := (HO1.out.new_ HC2.out).at_ ho
          have HS2 := Lib.hid (allS (f := okO) ho)
          have HN2 := Lib.hid (fun hb => allN (f := okO) ho hb)
          obtain ⟨K, key, val, N⟩ := o
          dsimp only at y0 y1 y2 y3
          have HCB2 := Lib.hid (HC2.out.alloc (.cells #[.int .i64 K, .string key, .string val, .int .i64 N] 41))
          clear ho
          have HBD := Lib.hid (fun (h : okO ⟨K, key, val, N⟩ = false) => HB.out (by rw [HOK2.out, HN2.out h]; rfl))
          have HOO := Lib.hid (show okO ⟨K, key, val, N⟩ = (!decide (100 < key.size) && !decide (100 < val.size)) from rfl)
          by_cases h1 : 100 < key.size
          · have d1 : decide (100 < (key.size : Int)) = true := by simp; omega
            have d1' : decide (100 < key.size) = true := by simpa using h1
            obtain rfl := HBD.out (by rw [HOO.out, d1']; rfl)
            clear h1
            go_wp2_with fail
            go_ret
            exact ⟨rfl, HCB.out.trans' HCB2.out⟩
          have d1 : decide (100 < (key.size : Int)) = false := by simp; omega
          have d1' : decide (100 < key.size) = false := by simpa using h1
          by_cases h2 : 100 < val.size
          · have d2 : decide (100 < (val.size : Int)) = true := by simp; omega
            have d2' : decide (100 < val.size) = true := by simpa using h2
            obtain rfl := HBD.out (by rw [HOO.out, d1', d2']; rfl)
            clear h1 h2
            go_wp2_with fail
            go_ret
            exact ⟨rfl, HCB.out.trans' HCB2.out⟩
          have d2 : decide (100 < (val.size : Int)) = false := by simp; omega
          have d2' : decide (100 < val.size) = false := by simpa using h2
          have HY := Lib.hid (show okO ⟨K, key, val, N⟩ = true by rw [HOO.out, d1', d2']; rfl)
          clear h1 h2
          go_wp2_with fail
          exact ⟨⟨j + 1, by omega, by go_num, by rw [HS2.out, HA2.out, HY.out]; rfl, HCB2.out⟩, by simp [intOf]; omega⟩
        · obtain rfl : j = LP := by omega
          have HPP := Lib.hid (show plan.all okO = true by
            have := HA2.out
            rwa [List.take_of_length_le (by rw [HLP.out]; omega)] at this)
          have HOK3 := Lib.hid (show okD ⟨fr, to, plan, res, op⟩ = res.all okR by rw [HOK2.out, HPP.out]; rfl)
          have z3 := (HK1.out.ch HC2.out (fun h => h)).cell 3
          have HP2 := Lib.hid (HP1.out.new_ HC2.out)
          have HCB := Lib.hid (HCB.out.trans' HC2.out)
          clear hjm HA2 hj
          go_wp2_with fail
          obtain ⟨wo, rfl⟩ : ∃ wo : World, wo = wr := ⟨_, rfl⟩
          go_loopw [48] (fun i w3 => ∃ r : Nat, r ≤ LR ∧ i = .int .i64 r ∧ (res.take r).all okR = true ∧ NewW wo w3) (fun i _ => LR - (intOf i).toNat)
          case atStart => exact ⟨0, by omega, rfl, by simp, Ch.refl _ _⟩
          case round =>
            obtain ⟨r, hr, rfl, hall, hC3⟩ := hrel
            have HC3 := Lib.hid hC3
            have HA3 := Lib.hid hall
            clear hall hC3
            by_cases hrm : r < LR
            · obtain ⟨o, ho⟩ := some_of_lt (show r < res.length by rw [HLR.out]; exact hrm)
              obtain ⟨b2, off2, rfl, y0, y1⟩ := (HP2.out.new_ HC3.out).at_ ho
              have HS3 := Lib.hid (allS (f := okR) ho)
              have HN3 := Lib.hid (fun hb => allN (f := okR) ho hb)
              obtain ⟨val, hs⟩ := o
              dsimp only at y0 y1
              have HCB3 := Lib.hid (HC3.out.alloc (.cells #[.string val, .bool hs] 45))
              clear ho
              have HBD := Lib.hid (fun (h : okR (val, hs) = false) => HB.out (by rw [HOK3.out, HN3.out h]))
              have HOO := Lib.hid (show okR (val, hs) = (!decide (100 < val.size)) from rfl)
              by_cases h1 : 100 < val.size
              · have d1 : decide (100 < (val.size : Int)) = true := by simp; omega
                have d1' : decide (100 < val.size) = true := by simpa using h1
                obtain rfl := HBD.out (by rw [HOO.out, d1']; rfl)
                clear h1
                go_wp2_with fail
                go_ret
                exact ⟨rfl, HCB.out.trans' HCB3.out⟩
              have d1 : decide (100 < (val.size : Int)) = false := by simp; omega
              have d1' : decide (100 < val.size) = false := by simpa using h1
              have HY := Lib.hid (show okR (val, hs) = true by rw [HOO.out, d1']; rfl)
              clear h1
              go_wp2_with fail
              exact ⟨⟨r + 1, by omega, by go_num, by rw [HS3.out, HA3.out, HY.out]; rfl, HCB3.out⟩, by simp [intOf]; omega⟩
            · obtain rfl : r = LR := by omega
              have HRR := Lib.hid (show okD ⟨fr, to, plan, res, op⟩ = true by
                have := HA3.out
                rw [List.take_of_length_le (by rw [HLR.out]; omega)] at this
                rw [HOK3.out, this])
              have HCC := Lib.hid (HCB.out.trans' HC3.out)
              clear hrm hr
              go_wp2_with fail
              exact ⟨⟨k + 1, by omega, by go_num, by rw [HS.out, HA.out, HRR.out]; rfl, HCC.out⟩, by simp [intOf]; omega⟩
    · obtain rfl : k = n := by omega
      obtain rfl : R = decide ((k : Int) ≤ M) := by
        rw [← HR.out]
        unfold fewD
        have := HA.out
        rw [List.take_of_length_le (by rw [HL.out]; omega)] at this
        rw [this, HL.out]; rfl
      clear hlt hk
      go_wp2_with fail
      go_ret
      exact ⟨rfl, HC.out⟩
end Go.Proofs.YtbggadhaaphmcaaDoor
