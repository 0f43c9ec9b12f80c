/- serial: a search's memory; may, all. -/
import Derived.Test.YtbggadhaaphmcaaDoorZe
namespace Go.Proofs.YtbggadhaaphmcaaDoor
open Go.Lib Go.RowKit
set_option linter.unusedVariables false

structure SrB (w : World) (sb : Nat) (A : Option Addr) (n c : Nat) (dm : Value) (l : Hist) : Prop where
  blk : Blk w sb 119 #[.slice A n c, dm]
  dd : Deeds w A n l
  few : n ≤ 8
theorem SrB.new_ {w w' : World} {sb n c : Nat} {A : Option Addr} {dm : Value} {l : Hist} (h : SrB w sb A n c dm l) (hc : NewW w w') : SrB w' sb A n c dm l := ⟨h.blk.ch hc (fun h => h), h.dd.new_ hc, h.few⟩
def Low (n : Nat) (ps : List Nat) : Prop := ∀ i ∈ ps, i < n
theorem Low.lt {n : Nat} {ps : List Nat} (h : Low n ps) (hn : n ≤ 8) : ∀ i ∈ ps, i < 64 := fun i hi => by have := h i hi; omega
theorem all_go {f : Nat → Bool} {k : Nat} (h : (List.range k).all f = true) (hk : f k = true) : (List.range (k + 1)).all f = true := by
  rw [List.range_succ, List.all_append, h]
  simp [hk]
theorem all_no {f : Nat → Bool} {n k : Nat} (h : k < n) (hk : f k = false) : (List.range n).all f = false := by
  rw [List.all_eq_false]
  exact ⟨k, List.mem_range.2 h, by rw [hk]; simp⟩
set_option maxRecDepth 100000 in
set_option maxHeartbeats 4000000 in
theorem may_walk {w : World} {sb n c : Nat} {A : Option Addr} {dm : Value} {l : Hist} (h : SrB w sb A n c dm l) {ps : List Nat} (hps : Low n ps) {i : Nat} (hi : i < n) :
    Calls Tryd.prog 70 #[.pointer (some ⟨sb, 0, none⟩), .int .u64 (maskN ps), .int .i64 i] w fun e w' => e = .returned (.bool (mayB l ps i)) ∧ NewW w w' := by
  have HL := Lib.hid h.dd.1
  have hn8 := h.few
  have hnI : (n : Int) ≤ 8 := by omega
  have hiI : (i : Int) < (n : Int) := by omega
  have H := Lib.hid h
  have HLT := Lib.hid (hps.lt hn8)
  have c0 := h.blk.cell 0
  obtain ⟨di, hdi⟩ := some_of_lt (show i < l.length by rw [HL.out]; exact hi)
  have HDI := Lib.hid hdi
  have HGI := Lib.hid (Hist.get_of hdi)
  obtain ⟨R, hR⟩ : ∃ R, mayB l ps i = R := ⟨_, rfl⟩
  have HR := Lib.hid (show ((List.range n).all (fun j => decide (j ∈ ps) || !lateB (l.get j) di) && !decide (i ∈ ps)) = R by
    rw [← hR]; unfold mayB; rw [HL.out, HGI.out])
  rw [hR]
  obtain ⟨M, hM⟩ : ∃ M, maskN ps = M := ⟨_, rfl⟩
  have HA := Lib.hid (fun j => mask_and HLT.out j)
  have hMb : (M : Int) < 18446744073709551616 := by have := mask_lt HLT.out; omega
  rw [hM] at HA ⊢
  clear h hdi hR hM hps
  go_enter Tryd.func70, Tryd.ntmps70
  go_wp2_with fail
  go_loopw [14] (fun i' wr => ∃ k : Nat, k ≤ n ∧ i' = .int .i64 k ∧ (List.range k).all (fun j => decide (j ∈ ps) || !lateB (l.get j) di) = true ∧ NewW w wr) (fun i _ => n - (intOf i).toNat)
  case atStart => exact ⟨0, by omega, rfl, by simp, Ch.refl _ _⟩
  case round =>
    obtain ⟨k, hk, rfl, hall, hC⟩ := hrel
    have HC := Lib.hid hC
    have HALL := Lib.hid hall
    clear hall hC
    by_cases hlt : k < n
    · obtain ⟨dd, hp⟩ := some_of_lt (show k < l.length by rw [HL.out]; exact hlt)
      have HGK := Lib.hid (Hist.get_of hp)
      obtain ⟨b, off, rfl, hat⟩ := (H.out.dd.new_ HC.out).at_ hp
      have x0 := hat.c0
      have x1 := hat.c1
      obtain ⟨A2, c2, x2, hO⟩ := hat.c2
      obtain ⟨A3, c3, x3, hP⟩ := hat.c3
      have x4 := hat.c4
      obtain ⟨b', off', hb', hat'⟩ := (H.out.dd.new_ HC.out).at_ HDI.out
      injection hb' with hb'
      injection hb' with hb' hoff _
      subst hb' hoff
      have i0 := hat'.c0
      have s0 := (H.out.new_ HC.out).blk.cell 0
      have hkI : (k : Int) < (n : Int) := by omega
      have hsl := (H.out.new_ HC.out).blk.lt
      have hil := block_lt_of_cell i0
      have hm := HA.out k
      clear hat hat' hp hO hP
      by_cases hin : k ∈ ps
      · rw [if_pos hin] at hm
        have HN := Lib.hid (show (decide (k ∈ ps) || !lateB (l.get k) di) = true by simp [hin])
        clear hin
        have HCB := Lib.hid (HC.out.alloc (.cells #[.int .i64 dd.fr, .int .i64 dd.to, .slice A2 dd.plan.length c2, .slice A3 dd.res.length c3, .bool dd.op] 89))
        go_wp2_with fail
        go_quiet (fail)
        go_wp2_with fail
        exact ⟨⟨k + 1, by omega, by go_num, all_go HALL.out HN.out, HCB.out.drewN nq⟩, by simp [intOf]; omega⟩
      · rw [if_neg hin] at hm
        by_cases hop : dd.op = true
        · have HN := Lib.hid (show (decide (k ∈ ps) || !lateB (l.get k) di) = true by rw [HGK.out]; unfold lateB; simp [hop])
          rw [hop] at x4
          have HCB := Lib.hid (HC.out.alloc (.cells #[.int .i64 dd.fr, .int .i64 dd.to, .slice A2 dd.plan.length c2, .slice A3 dd.res.length c3, .bool true] 89))
          clear hin hop
          go_wp2_with fail
          go_quiet (fail)
          go_wp2_with fail
          exact ⟨⟨k + 1, by omega, by go_num, all_go HALL.out HN.out, HCB.out.drewN nq⟩, by simp [intOf]; omega⟩
        · have hop : dd.op = false := by simpa using hop
          rw [hop] at x4
          have HCB := Lib.hid (HC.out.alloc (.cells #[.int .i64 dd.fr, .int .i64 dd.to, .slice A2 dd.plan.length c2, .slice A3 dd.res.length c3, .bool false] 89))
          by_cases hlate : dd.to < di.fr
          · have HN := Lib.hid (show (decide (k ∈ ps) || !lateB (l.get k) di) = false by rw [HGK.out]; unfold lateB; simp [hop, hin, hlate])
            have d : decide (dd.to < di.fr) = true := by simpa using hlate
            obtain rfl : R = false := by rw [← HR.out, all_no hlt HN.out]; rfl
            clear hin hop hlate
            go_wp2_with fail
            go_quiet (fail)
            go_wp2_with fail
            go_ret
            exact ⟨rfl, HCB.out.drewN nq⟩
          · have HN := Lib.hid (show (decide (k ∈ ps) || !lateB (l.get k) di) = true by rw [HGK.out]; unfold lateB; simp [hlate])
            have d : decide (dd.to < di.fr) = false := by simpa using hlate
            clear hin hop hlate
            go_wp2_with fail
            go_quiet (fail)
            go_wp2_with fail
            exact ⟨⟨k + 1, by omega, by go_num, all_go HALL.out HN.out, HCB.out.drewN nq⟩, by simp [intOf]; omega⟩
    · obtain rfl : k = n := by omega
      have hm := HA.out i
      by_cases hin : i ∈ ps
      · rw [if_pos hin] at hm
        obtain rfl : R = false := by rw [← HR.out]; simp [hin]
        clear hin hlt hk
        go_wp2_with fail
        go_ret
        exact ⟨rfl, HC.out⟩
      · rw [if_neg hin] at hm
        obtain rfl : R = true := by rw [← HR.out, HALL.out]; simp [hin]
        clear hin hlt hk
        go_wp2_with fail
        go_ret
        exact ⟨rfl, HC.out⟩
end Go.Proofs.YtbggadhaaphmcaaDoor
