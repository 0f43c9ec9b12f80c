/- Same: two rows of like cells. -/
import Derived.Test.YtfcdplfnhjbdnaaAl
namespace Go.Proofs.Ytfcdplfnhjbdnaa
open Go.RowKit Go.Maps
set_option linter.unusedVariables false

set_option maxRecDepth 100000 in
set_option maxHeartbeats 8000000 in
theorem same_any (cs : List (List UInt8 × List Ver)) (A1 A2 : Option Addr) (n c1 c2 : Nat) (w : World) (h1 : RdC w A1 cs) (h2 : RdC w A2 cs) (hn : cs.length = n) (hb : n ≤ 1000000) (hl : ∀ x ∈ cs, x.2.length ≤ 1000000) :
    Calls Try.prog 13 #[.slice A1 n c1, .slice A2 n c2] w fun e w' => e = .returned (.bool true) ∧ NewW w w' := by
  have H1 := Lib.hid h1
  have H2 := Lib.hid h2
  have HL := Lib.hid hl
  clear h1 h2 hl
  go_enter Try.func13, Try.ntmps13
  go_wp2_with fail
  go_loopw [14] (fun i w' => ∃ j : Nat, j ≤ n ∧ i = .int .i64 j ∧ NewW w w') (fun i _ => n - (intOf i).toNat)
  case atStart => exact ⟨0, by omega, rfl, Ch.refl _ _⟩
  case round =>
    obtain ⟨j, hj, rfl, hC⟩ := hrel
    by_cases hlt : j < n
    · obtain ⟨⟨k, l⟩, hx⟩ := some_of_lt (L := cs) (i := j) (by omega)
      obtain ⟨g1, o1, rfl, x1, B1, q1, y1, r1⟩ := (H1.out.new_ hC).at_ hx
      obtain ⟨g2, o2, rfl, x2, B2, q2, y2, r2⟩ := (H2.out.new_ hC).at_ hx
      have hll := HL.out _ (mem_of_some hx)
      simp only at hll
      obtain ⟨kb, hkb⟩ : ∃ kb : ByteArray, encStr k = .string kb := ⟨⟨k.toArray⟩, rfl⟩
      rw [hkb] at x1 x2
      have HN := Lib.hid (fun m => ((hC : Ch (fun _ => False) w wr).drewN m : NewW w (wr.drewN m)))
      have HR1 := Lib.hid r1
      have HR2 := Lib.hid r2
      have hjI : (j : Int) < (n : Int) := by omega
      have hj0 : (0 : Int) ≤ (j : Int) := by omega
      clear hx hC hkb r1 r2
      generalize hN : l.length = N at *
      have HNN := Lib.hid hN
      clear hN
      go_wp2_with fail
      go_quiet (fail)
      go_wp2_with fail
      go_loopw [49] (fun i w' => ∃ q : Nat, q ≤ N ∧ i = .int .i64 q ∧ NewW w w' ∧ NewW wr w') (fun i _ => N - (intOf i).toNat)
      case atStart => exact ⟨0, by omega, rfl, HN.out _, (Ch.refl _ wr).drewN _⟩
      case round =>
        obtain ⟨q, hq, rfl, hC1, hC2⟩ := hrel
        have z1 := new_cell hC2 x1
        have z2 := new_cell hC2 x2
        have u1 := new_cell hC2 y1
        have u2 := new_cell hC2 y2
        by_cases hqN : q < N
        · obtain ⟨v, hv⟩ := some_of_lt (L := l) (i := q) (by have := HNN.out; omega)
          obtain ⟨gv1, ov1, rfl, a0, a1, a2⟩ := (HR1.out.new_ hC2).at_ hv
          obtain ⟨gv2, ov2, rfl, b0, b1, b2⟩ := (HR2.out.new_ hC2).at_ hv
          have HN1 := Lib.hid (fun m => ((hC1 : Ch (fun _ => False) w wr).drewN m : NewW w (wr.drewN m)))
          have HN2 := Lib.hid (fun m => ((hC2 : Ch (fun _ => False) _ wr).drewN m : NewW _ (wr.drewN m)))
          have hqI : (q : Int) < (N : Int) := by omega
          have hq0 : (0 : Int) ≤ (q : Int) := by omega
          obtain ⟨vt, vv, vh⟩ := v
          simp only at a0 a1 a2 b0 b1 b2
          clear hv hC1 hC2 x1 x2 y1 y2
          go_wp2_with fail
          go_quiet (fail)
          go_wp2_with fail
          exact ⟨⟨q + 1, by omega, by go_num, HN1.out _, HN2.out _⟩, by simp [intOf]; omega⟩
        · obtain rfl : q = N := by omega
          have HC1 := Lib.hid hC1
          clear hqN hq hC1 hC2 x1 x2 y1 y2
          go_wp2_with fail
          exact ⟨⟨j + 1, by omega, by go_num, HC1.out⟩, by simp [intOf]; omega⟩
    · obtain rfl : j = n := by omega
      have HC := Lib.hid hC
      clear hlt hj hC
      go_wp2_with fail
      go_ret
      exact ⟨rfl, HC.out⟩
end Go.Proofs.Ytfcdplfnhjbdnaa
