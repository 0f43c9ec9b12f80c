/- serial: all; whether two lists of results are equal. -/
import Derived.Test.YtbggadhaaphmcaaDoorZs
namespace Go.Proofs.YtbggadhaaphmcaaDoor
open Go.Lib Go.RowKit
set_option linter.unusedVariables false

set_option maxRecDepth 100000 in
set_option maxHeartbeats 2000000 in
theorem EqualR_any {w : World} {A B : Option Addr} {n m c d : Nat} {P Q : List Pr} (h1 : Prs w A n P) (h2 : Prs w B m Q) (hn : n ≤ 100000) (hm : m ≤ 100000) :
    Calls Tryd.prog 83 #[.slice A n c, .slice B m d] w fun e w' => e = .returned (.bool (decide (P = Q))) ∧ NewW w w' := by
  have H1 := Lib.hid h1
  have H2 := Lib.hid h2
  have L1 := Lib.hid h1.1
  have L2 := Lib.hid h2.1
  obtain ⟨R, hR⟩ : ∃ R, decide (P = Q) = R := ⟨_, rfl⟩
  rw [hR]
  have HR := Lib.hid hR
  clear h1 h2 hR
  by_cases hnm : n = m
  case neg =>
    have d1 : ((n : Int) != (m : Int)) = true := by simp; omega
    have d2 : (n != m) = true := by simpa using hnm
    have d3 : decide ((n : Int) = (m : Int)) = false := by simp; omega
    have d4 : ((n : Int) == (m : Int)) = false := by simp; omega
    have hr : R = false := by rw [← HR.out, decide_eq_false]; intro e; rw [e, L2.out] at L1; exact hnm L1.out.symm
    subst hr
    clear hnm
    go_enter Tryd.func83, Tryd.ntmps83
    go_wp2_with fail
    go_ret
    exact ⟨rfl, Ch.refl _ _⟩
  case pos =>
    subst hnm
    have hmI : (n : Int) ≤ 100000 := by omega
    clear hm
    go_enter Tryd.func83, Tryd.ntmps83
    go_wp2_with fail
    go_loopw [13] (fun i wr => ∃ k : Nat, k ≤ n ∧ i = .int .i64 k ∧ P.take k = Q.take k ∧ NewW w wr) (fun i _ => n - (intOf i).toNat)
    case atStart => exact ⟨0, by omega, rfl, rfl, Ch.refl _ _⟩
    case round =>
      obtain ⟨k, hk, rfl, heq, hC⟩ := hrel
      have HC := Lib.hid hC
      have HQ := Lib.hid heq
      clear hC heq
      by_cases hlt : k < n
      · obtain ⟨x, hx⟩ := some_of_lt (show k < P.length by rw [L1.out]; exact hlt)
        obtain ⟨y, hy⟩ := some_of_lt (show k < Q.length by rw [L2.out]; exact hlt)
        obtain ⟨b, off, rfl, x0, x1⟩ := (H1.out.new_ HC.out).at_ hx
        obtain ⟨b', off', rfl, y0, y1⟩ := (H2.out.new_ HC.out).at_ hy
        have k0 : (0 : Int) ≤ (k : Int) := by omega
        have k1 : (k : Int) < (n : Int) := by omega
        have HX := Lib.hid hx
        have HY := Lib.hid hy
        clear hx hy
        obtain ⟨v1, h1⟩ := x
        obtain ⟨v2, h2⟩ := y
        dsimp only at x0 x1 y0 y1
        by_cases e0 : v1 = v2
        case neg =>
          have hr : R = false := by rw [← HR.out, decide_eq_false]; exact ne_at HX.out HY.out (fun e => e0 (by injection e))
          have q1 : (v1.toList == v2.toList) = false := by simpa [str_eq] using e0
          have q2 : (v1.toList != v2.toList) = true := by simpa [str_eq] using e0
          subst hr
          clear e0
          go_wp2_with fail
          go_quiet (fail)
          go_wp2_with fail
          go_ret
          exact ⟨rfl, by first | exact HC.out | exact Ch.drewN HC.out _ | exact Ch.drew HC.out⟩
        subst e0
        by_cases e1 : h1 = h2
        case neg =>
          have hr : R = false := by rw [← HR.out, decide_eq_false]; exact ne_at HX.out HY.out (fun e => e1 (by injection e))
          have q1 : (h1 == h2) = false := by simpa using e1
          have q2 : (h1 != h2) = true := by simpa using e1
          subst hr
          clear e1
          go_wp2_with fail
          go_quiet (fail)
          go_wp2_with fail
          go_ret
          exact ⟨rfl, by first | exact HC.out | exact Ch.drewN HC.out _ | exact Ch.drew HC.out⟩
        subst e1
        go_wp2_with fail
        go_quiet (fail)
        go_wp2_with fail
        exact ⟨⟨k + 1, by omega, by go_num, take_eq HQ.out HX.out HY.out, by first | exact HC.out | exact Ch.drewN HC.out _ | exact Ch.drew HC.out⟩, by simp [intOf]; omega⟩
      · obtain rfl : k = n := by omega
        have hr : R = true := by
          rw [← HR.out, decide_eq_true]
          have := HQ.out
          rwa [List.take_of_length_le (by rw [L1.out]; omega), List.take_of_length_le (by rw [L2.out]; omega)] at this
        subst hr
        clear hlt hk
        go_wp2_with fail
        go_ret
        exact ⟨rfl, HC.out⟩
set_option maxRecDepth 100000 in
set_option maxHeartbeats 4000000 in
theorem all_walk {w : World} {sb n c : Nat} {A : Option Addr} {dm : Value} {l : Hist} (h : SrB w sb A n c dm l) {ps : List Nat} (hps : Low n ps) :
    Calls Tryd.prog 72 #[.pointer (some ⟨sb, 0, none⟩), .int .u64 (maskN ps)] w fun e w' => e = .returned (.bool (allB l ps)) ∧ NewW w w' := by
  have HL := Lib.hid h.dd.1
  have hn8 := h.few
  have hnI : (n : Int) ≤ 8 := by omega
  have H := Lib.hid h
  have HLT := Lib.hid (hps.lt hn8)
  have c0 := h.blk.cell 0
  obtain ⟨R, hR⟩ : ∃ R, allB l ps = R := ⟨_, rfl⟩
  have HR := Lib.hid (show (List.range n).all (fun j => decide (j ∈ ps) || (l.get j).op) = R by
    rw [← hR]; unfold allB; rw [HL.out])
  rw [hR]
  obtain ⟨M, hM⟩ : ∃ M, maskN ps = M := ⟨_, rfl⟩
  have HA := Lib.hid (fun j => mask_and HLT.out j)
  have hMb : (M : Int) < 18446744073709551616 := by have := mask_lt HLT.out; omega
  rw [hM] at HA ⊢
  clear h hR hM hps
  go_enter Tryd.func72, Tryd.ntmps72
  go_wp2_with fail
  go_loopw [12] (fun i' wr => ∃ k : Nat, k ≤ n ∧ i' = .int .i64 k ∧ (List.range k).all (fun j => decide (j ∈ ps) || (l.get j).op) = true ∧ NewW w wr) (fun i _ => n - (intOf i).toNat)
  case atStart => exact ⟨0, by omega, rfl, by simp, Ch.refl _ _⟩
  case round =>
    obtain ⟨k, hk, rfl, hall, hC⟩ := hrel
    have HC := Lib.hid hC
    have HALL := Lib.hid hall
    clear hall hC
    by_cases hlt : k < n
    · obtain ⟨dd, hp⟩ := some_of_lt (show k < l.length by rw [HL.out]; exact hlt)
      have HGK := Lib.hid (Hist.get_of hp)
      obtain ⟨b, off, rfl, hat⟩ := (H.out.dd.new_ HC.out).at_ hp
      have x0 := hat.c0
      have x1 := hat.c1
      obtain ⟨A2, c2, x2, hO⟩ := hat.c2
      obtain ⟨A3, c3, x3, hP⟩ := hat.c3
      have x4 := hat.c4
      have hkI : (k : Int) < (n : Int) := by omega
      have hm := HA.out k
      clear hat hp hO hP
      by_cases hin : k ∈ ps
      · rw [if_pos hin] at hm
        have HN := Lib.hid (show (decide (k ∈ ps) || (l.get k).op) = true by simp [hin])
        have HCB := Lib.hid (HC.out.alloc (.cells #[.int .i64 dd.fr, .int .i64 dd.to, .slice A2 dd.plan.length c2, .slice A3 dd.res.length c3, .bool dd.op] 89))
        clear hin
        go_wp2_with fail
        exact ⟨⟨k + 1, by omega, by go_num, all_go HALL.out HN.out, HCB.out⟩, by simp [intOf]; omega⟩
      · rw [if_neg hin] at hm
        by_cases hop : dd.op = true
        · have HN := Lib.hid (show (decide (k ∈ ps) || (l.get k).op) = true by rw [HGK.out]; simp [hop])
          rw [hop] at x4
          have HCB := Lib.hid (HC.out.alloc (.cells #[.int .i64 dd.fr, .int .i64 dd.to, .slice A2 dd.plan.length c2, .slice A3 dd.res.length c3, .bool true] 89))
          clear hin hop
          go_wp2_with fail
          exact ⟨⟨k + 1, by omega, by go_num, all_go HALL.out HN.out, HCB.out⟩, by simp [intOf]; omega⟩
        · have hop : dd.op = false := by simpa using hop
          rw [hop] at x4
          have HCB := Lib.hid (HC.out.alloc (.cells #[.int .i64 dd.fr, .int .i64 dd.to, .slice A2 dd.plan.length c2, .slice A3 dd.res.length c3, .bool false] 89))
          have HN := Lib.hid (show (decide (k ∈ ps) || (l.get k).op) = false by rw [HGK.out]; simp [hop, hin])
          obtain rfl : R = false := by rw [← HR.out, all_no hlt HN.out]
          clear hin hop
          go_wp2_with fail
          go_ret
          exact ⟨rfl, HCB.out⟩
    · obtain rfl : n = k := by omega
      obtain rfl : R = true := by rw [← HR.out, HALL.out]
      clear hlt hk
      go_wp2_with fail
      go_ret
      exact ⟨rfl, HC.out⟩
end Go.Proofs.YtbggadhaaphmcaaDoor
