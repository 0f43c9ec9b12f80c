/- SerialReplays: the walk. -/
import Derived.Test.YtbggadhaaphmcaaDoorZj
import Derived.Test.YtbggadhaaphmcaaDoorKc
namespace Go.Proofs.YtbggadhaaphmcaaDoor
open Go.Lib Go.RowKit
set_option linter.unusedVariables false
theorem deed_new {w : World} {A : Option Addr} {m c : Nat} {p : List OpD} (h : Ops w A m p) (hm : m ≤ maxLen) :
    Deeds (w.alloc (.cells #[.int .i64 0, .int .i64 0, .slice A m c, .slice none 0 0, .bool false] 89)) (some ⟨w.heap.size, 0, none⟩) 1 [⟨0, 0, p, [], false⟩] := by
  have hb := Blk.new w 89 #[.int .i64 0, .int .i64 0, .slice A m c, .slice none 0 0, .bool false]
  have hc := nw_ w (.cells #[.int .i64 0, .int .i64 0, .slice A m c, .slice none 0 0, .bool false] 89)
  have l1 : 0 ≤ maxLen := Nat.zero_le _
  obtain rfl := h.1
  refine ⟨rfl, by decide, fun _ => ⟨w.heap.size, 0, rfl, by simp, fun i d hi => ?_⟩⟩
  rcases i with _ | i
  · simp only [List.getElem?_cons_zero, Option.some.injEq] at hi
    subst hi
    exact ⟨hb.cell 0, hb.cell 1, ⟨A, c, hb.cell 2, h.new_ hc⟩, ⟨none, 0, hb.cell 3, rfl, Rd.nil_ _ _⟩, hb.cell 4, hm, l1⟩
  · simp at hi
set_option maxRecDepth 100000 in
set_option maxHeartbeats 8000000 in
theorem replays_walk (A : Option Addr) (n c : Nat) (ps : List (List OpD)) (w : World) (hE : Env w) (hP : Plans w A n ps) :
    Calls Tryd.prog 12 #[.slice A n c] w fun e w' => e = .returned (.bool true) ∧ Below w.heap.size w w' := by
  have HFX := Lib.hid (fixedS_any hE)
  have HE := Lib.hid hE
  have H := Lib.hid hP
  have HL := Lib.hid hP.1
  have hnm := hP.2.1
  have hnI : (n : Int) ≤ 9223372036854775807 := by unfold maxLen at hnm; omega
  clear hE hP hnm
  go_enter Tryd.func12, Tryd.ntmps12
  go_wp2_with fail
  refine HFX.out.mono ?_
  rintro e w1 ⟨rfl, hb⟩
  dsimp only
  have HB1 := Lib.hid hb
  have HE1 := Lib.hid (HE.out.below hb)
  have H1 := Lib.hid (H.out.below hb)
  have HBX := Lib.hid (fun w' (hc : NewW w1 w') => (show Below w.heap.size w w' from Ch.below HB1.out hc (fun _ h => h.elim) HB1.out.size))
  clear hb HFX
  by_cases h12 : 12 < n
  · have d : decide (12 < (n : Int)) = true := by simp; omega
    have d' : decide (12 < n) = true := by simpa using h12
    clear h12
    go_wp2_with fail
    go_ret
    exact ⟨rfl, HB1.out⟩
  have d : decide (12 < (n : Int)) = false := by simp; omega
  have d' : decide (12 < n) = false := by simpa using h12
  have hn12 : (n : Int) ≤ 12 := by omega
  clear h12
  go_wp2_with fail
  go_loopw [19] (fun i wr => ∃ k : Nat, k ≤ n ∧ i = .int .i64 k ∧ NewW w1 wr) (fun i _ => n - (intOf i).toNat)
  case atStart => exact ⟨0, by omega, rfl, Ch.refl _ _⟩
  case round =>
    obtain ⟨k, hk, rfl, hC⟩ := hrel
    have HC := Lib.hid hC
    clear hC
    by_cases hlt : k < n
    · obtain ⟨p, hp⟩ := some_of_lt (show k < ps.length by rw [HL.out]; exact hlt)
      obtain ⟨b, off, rfl, ⟨A2, c2, x0, hO⟩, hpl⟩ := (H1.out.new_ HC.out).at_ hp
      obtain ⟨m, hm⟩ : ∃ m, p.length = m := ⟨_, rfl⟩
      rw [hm] at x0 hO hpl
      have HFW := Lib.hid (fewD_any (c := 1) 1 (deed_new (c := c2) hO hpl))
      have HCB := Lib.hid (HC.out.alloc (.cells #[.int .i64 0, .int .i64 0, .slice A2 m c2, .slice none 0 0, .bool false] 89))
      clear hp hO hpl hm
      rcases Bool.eq_false_or_eq_true (fewD [⟨0, 0, p, [], false⟩] 1) with hf | hf
      · rw [hf] at HFW
        clear hf
        go_wp2_with fail
        refine HFW.out.mono ?_
        rintro e w3 ⟨rfl, hN⟩
        dsimp only
        have HC3 := Lib.hid (HCB.out.trans' hN)
        clear hN
        go_wp2_with fail
        exact ⟨⟨k + 1, by omega, by go_num, HC3.out⟩, by simp [intOf]; omega⟩
      · rw [hf] at HFW
        clear hf
        go_wp2_with fail
        refine HFW.out.mono ?_
        rintro e w3 ⟨rfl, hN⟩
        dsimp only
        have HBF := Lib.hid (HBX.out _ (HCB.out.trans' hN))
        clear hN
        go_wp2_with fail
        go_ret
        exact ⟨rfl, HBF.out⟩
    · obtain rfl : n = k := by omega
      have HC2 := Lib.hid HC.out
      have HRP := Lib.hid (Replay_any (c := c) (H1.out.new_ HC.out) (by omega) (HE1.out.new_ HC.out))
      clear hlt hk HC
      go_wp2_with fail
      refine HRP.out.mono ?_
      rintro e wP ⟨A1, A2, c1, c2, vals, M, rfl, ho, hr, hs, hw, hm, hN⟩
      dsimp only
      have HV := Lib.hid (show Rd wP A1 vals from Rd.own ho)
      have HVL := Lib.hid hr.len
      have HR := Lib.hid (fun (k : Nat) (p : List OpD) (hk : k < n) (hp : ps[k]? = some p) => hr.at_ k p hk hp)
      have HW := Lib.hid hw
      have HS := Lib.hid hs
      have HM := Lib.hid hm
      have HCP := Lib.hid (HC2.out.trans' hN)
      have HKF := Lib.hid (kf_new wP wP (Below.refl _ _))
      have hml : M.length ≤ 200 := by omega
      clear ho hr hw hs hm hN HRP
      obtain ⟨LM, hLM⟩ : ∃ LM, M.length = LM := ⟨_, rfl⟩
      rw [hLM] at HW
      have HLM := Lib.hid hLM
      simp only [hLM]
      clear hLM
      obtain ⟨rb, hrb⟩ : ∃ rb, wP.heap.size = rb := ⟨_, rfl⟩
      rw [hrb] at HKF
      have HRB := Lib.hid hrb
      go_wp2_with fail
      try simp only [hrb]
      clear hrb
      go_loopw [43] (fun i wr => ∃ k : Nat, k ≤ n ∧ i = .int .i64 k ∧ ∃ L, KF wP rb L wr ∧ SortedW L (fAt ps k) ∧ L.length ≤ 16 * k) (fun i _ => n - (intOf i).toNat)
      case atStart => exact ⟨0, by omega, rfl, [], HKF.out, sorted_nil, by simp⟩
      case round =>
        obtain ⟨k, hk, rfl, L, hK, hSL, hLL⟩ := hrel
        have HK := Lib.hid hK
        have HSL := Lib.hid hSL
        have HLL := Lib.hid hLL
        clear hK hSL hLL
        by_cases hlt : k < n
        · obtain ⟨p, hp⟩ := some_of_lt (show k < ps.length by rw [HL.out]; exact hlt)
          obtain ⟨b, off, rfl, ⟨A4, c4, x0, hO⟩, hpl⟩ := ((H1.out.new_ HCP.out).below HK.out.below).at_ hp
          obtain ⟨A3, c3, hv, hrow⟩ := HR.out k p hlt hp
          obtain ⟨b3, off3, rfl, hb3, hc3⟩ := HV.out (ne_of_get hv)
          have HY := Lib.hid (hc3 k _ hv)
          have HPR := Lib.hid (Prs.of_res ⟨rfl, Rd.own hrow⟩)
          have HRU := Lib.hid (Run_ref (c := c4) HK.out HSL.out HLL.out (by omega) (fAt_sm ps k) hO)
          have HF := Lib.hid (fAt_succ hp)
          have hle := runO_le (fAt ps k) p
          have HB3 := Lib.hid hb3
          generalize p.length = LP at *
          clear hp hO hpl hv hrow hc3 hb3
          go_wp2_with fail
          refine HRU.out.mono ?_
          rintro e w5 ⟨⟨A5, c5, rfl, hr5⟩, ⟨L5, hk5, hs5, hl5⟩, hc5⟩
          dsimp only
          have HK5 := Lib.hid hk5
          have HS5 := Lib.hid hs5
          have HL5 := Lib.hid hl5
          have y0 := (hk5.below.cell (p := ⟨b3, off3 + k, none⟩) HB3.out).trans HY.out
          have HSM := Lib.hid (SameResults_any (c := c3) (d := c5) (HPR.out.below hk5.below) (Prs.of_res ⟨rfl, Rd.own hr5⟩) (by omega) (by omega))
          rw [show decide (List.map prR (runO (fAt ps k) p) = List.map prR (runO (fAt ps k) p)) = true by simp] at HSM
          generalize (runO (fAt ps k) p).length = LO at *
          clear hk5 hs5 hl5 hc5 hr5 HRU
          go_wp2_with fail
          refine HSM.out.mono ?_
          rintro e w6 ⟨rfl, hN⟩
          dsimp only
          have HK6 := Lib.hid (HK5.out.new_ hN)
          clear hN HSM y0
          go_wp2_with fail
          exact ⟨⟨k + 1, by omega, by go_num, L5, HK6.out, by rw [HF.out]; exact HS5.out, by have := HL5.out; omega⟩, by simp [intOf]; omega⟩
        · obtain rfl : n = k := by omega
          obtain rfl := sorted_unique HS.out HSL.out
          obtain ⟨v, hfm⟩ := HK.out.fm
          obtain ⟨A5, q5, rfl⟩ := own_form hfm.row
          have x0 := hfm.c0
          have HSW := Lib.hid (SameWrites_any (c := c2) (d := q5) (HW.out.below HK.out.below) (wrs_own hfm.row rfl) (by have := HLM.out; omega) (by have := HLM.out; omega))
          rw [show decide (M = M) = true by simp] at HSW
          rw [HLM.out] at x0 HSW
          have HBK := Lib.hid HK.out.below
          clear hfm hlt hk
          go_wp2_with fail
          refine HSW.out.mono ?_
          rintro e w6 ⟨rfl, hN⟩
          dsimp only
          have HBF := Lib.hid (show Below w.heap.size w w6 from by
            have h1 := HBX.out _ HCP.out
            have h2 := HBK.out
            exact Ch.below h1 ((Ch.of_below (S := fun _ => False) h2 (fun k hk _ => hk)).trans' hN) (fun _ h => h.elim) h1.size)
          clear hN
          go_wp2_with fail
          go_ret
          exact ⟨rfl, HBF.out⟩
end Go.Proofs.YtbggadhaaphmcaaDoor
