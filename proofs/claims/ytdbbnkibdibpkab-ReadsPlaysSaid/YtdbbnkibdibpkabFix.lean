/- The calls whose answers the document fixes. -/
import Derived.Test.YtdbbnkibdibpkabKr
namespace Go.Proofs.Ytdbbnkibdibpkab
open Go.RowKit
set_option linter.unusedVariables false

theorem ask_nil (id : Int) (w : World) : Calls Try.prog 12 #[.pointer none, .int .i64 id] w fun e w' => e = .returned (.int .i64 1) ∧ NewW w w' := by
  have HN := Lib.hid (show NewW w (w.alloc (.cells #[.int .i64 id] 3)) from (Ch.refl _ _).alloc _)
  go_enter Try.func12, Try.ntmps12
  go_wp2_with fail
  go_ret
  exact ⟨rfl, HN.out⟩
theorem beat_nil (w : World) : Calls Try.prog 14 #[.pointer none] w fun e w' => e = .returned (.int .i64 0) ∧ w = w' := by
  go_enter Try.func14, Try.ntmps14
  go_wp2_with fail
  go_ret
  exact ⟨rfl, rfl⟩
theorem ready_nil (w : World) : Calls Try.prog 18 #[.pointer none] w fun e w' => e = .returned (.slice none 0 0) ∧ NewW w w' := by
  have HN := Lib.hid (show NewW w (w.alloc (.cells #[.pointer none] 24)) from (Ch.refl _ _).alloc _)
  go_enter Try.func18, Try.ntmps18
  go_wp2_with fail
  go_ret
  exact ⟨rfl, HN.out⟩

def t0 : RS := fresh 0 3
def t1 : RS := beatS t0
def t2 : RS := ackS t1 1 1
def W1 : List Rdg := [(7, 0, 0)]
def W3 : List Rdg := [(3, 1, 0)]
theorem sure1 : sureOf t1 = 0 := by
  have h : sorted t1 = [0, 0, 1] := by
    show List.mergeSort [1, 0, 0] _ = _
    simp [List.mergeSort, List.MergeSort.Internal.splitInTwo]
  unfold sureOf; rw [h]; rfl
theorem sure2 : sureOf t2 = 1 := by
  have h : sorted t2 = [0, 1, 1] := by
    show List.mergeSort [1, 1, 0] _ = _
    simp [List.mergeSort, List.MergeSort.Internal.splitInTwo]
  unfold sureOf; rw [h]; rfl
theorem k1 : readyK t1 W1 = 0 := by unfold readyK; rw [sure1]; decide
theorem k2 : readyK t2 W1 = 1 := by unfold readyK; rw [sure2]; decide
section
variable {w0 w : World} {b : Nat} {v : Value}
theorem g_ask (h : Kr w0 b t0 [] v w) : Calls Try.prog 12 #[.pointer (some ⟨b, 0, none⟩), .int .i64 7] w fun e w' => e = .returned (.int .i64 0) ∧ ∃ v', Kr w0 b t0 W1 v' w' ∧ Keep w w' := k_ask h 7
theorem g_beat (h : Kr w0 b t0 W1 v w) : Calls Try.prog 14 #[.pointer (some ⟨b, 0, none⟩)] w fun e w' => e = .returned (.int .i64 1) ∧ Kr w0 b t1 W1 v w' ∧ Keep w w' := k_beat h (by decide) (by decide)
theorem g_ready (h : Kr w0 b t1 W1 v w) : Calls Try.prog 18 #[.pointer (some ⟨b, 0, none⟩)] w fun e w' => ∃ A c v', e = .returned (.slice A 0 c) ∧ Kr w0 b t1 W1 v' w' ∧ Keep w w' := by
  have := k_ready h
  rw [k1] at this
  exact this.mono fun _ _ ⟨A, c, v', h1, _, h3, h4⟩ => ⟨A, c, v', h1, h3, h4⟩
theorem g_ack (h : Kr w0 b t1 W1 v w) : Calls Try.prog 15 #[.pointer (some ⟨b, 0, none⟩), .int .i64 1, .int .i64 1] w fun e w' => e = .returned (.int .i64 0) ∧ Kr w0 b t2 W1 v w' ∧ Keep w w' := k_ack h 1 1
theorem g_ready2 (h : Kr w0 b t2 W1 v w) : Calls Try.prog 18 #[.pointer (some ⟨b, 0, none⟩)] w fun e w' => ∃ A c v', e = .returned (.slice A 1 c) ∧ w'.ownsRow w.heap.size 3 1 (.slice A 1 c) 1 [.int .i64 7] ∧ Kr w0 b t2 [] v' w' ∧ Keep w w' := by
  have := k_ready h
  rw [k2] at this
  exact this
theorem g_ack2 (h : Kr w0 b t2 [] v w) : Calls Try.prog 15 #[.pointer (some ⟨b, 0, none⟩), .int .i64 0, .int .i64 1] w fun e w' => e = .returned (.int .i64 1) ∧ Kr w0 b t2 [] v w' ∧ Keep w w' := k_ack h 0 1
theorem g_ack3 (h : Kr w0 b t2 [] v w) : Calls Try.prog 15 #[.pointer (some ⟨b, 0, none⟩), .int .i64 1, .int .i64 2] w fun e w' => e = .returned (.int .i64 5) ∧ Kr w0 b t2 [] v w' ∧ Keep w w' := k_ack h 1 2
theorem g_apply (h : Kr w0 b t2 [] v w) : Calls Try.prog 10 #[.pointer (some ⟨b, 0, none⟩), .int .i64 1] w fun e w' => e = .returned (.int .i64 5) ∧ Kr w0 b t2 [] v w' ∧ Keep w w' := k_apply h 1
theorem g_ask2 (h : Kr w0 b t2 [] v w) : Calls Try.prog 12 #[.pointer (some ⟨b, 0, none⟩), .int .i64 3] w fun e w' => e = .returned (.int .i64 0) ∧ ∃ v', Kr w0 b t2 W3 v' w' ∧ Keep w w' := k_ask h 3
theorem g_ask3 (h : Kr w0 b t2 W3 v w) : Calls Try.prog 12 #[.pointer (some ⟨b, 0, none⟩), .int .i64 3] w fun e w' => e = .returned (.int .i64 8) ∧ ∃ v', Kr w0 b t2 W3 v' w' ∧ Keep w w' := k_ask h 3
theorem g_drop (h : Kr w0 b t2 W3 v w) : Calls Try.prog 20 #[.pointer (some ⟨b, 0, none⟩)] w fun e w' => ∃ A c v', e = .returned (.slice A 1 c) ∧ w'.ownsRow w.heap.size 3 1 (.slice A 1 c) 1 [.int .i64 3] ∧ Kr w0 b t2 [] v' w' ∧ Keep w w' := k_drop h
theorem g_sure (h : Kr w0 b t2 [] v w) : Calls Try.prog 21 #[.pointer (some ⟨b, 0, none⟩)] w fun e w' => e = .returned (.int .i64 1) ∧ Kr w0 b t2 [] v w' ∧ Keep w w' := by
  have := k_sure h
  rwa [sure2] at this
theorem g_waiting (h : Kr w0 b t2 [] v w) : Calls Try.prog 23 #[.pointer (some ⟨b, 0, none⟩)] w fun e w' => e = .returned (.int .i64 0) ∧ w = w' := k_waiting h
end
theorem head_cell {w : World} {B : Nat} {A : Option Addr} {c : Nat} {x : Int} (h : w.ownsRow B 3 1 (.slice A 1 c) 1 [.int .i64 x]) : ∃ g, A = some ⟨g, 0, none⟩ := by
  obtain ⟨g, cap, hv, _, _⟩ := h.form (by omega)
  injection hv with hA
  exact ⟨g, hA⟩
theorem one_cell {w : World} {B g c : Nat} {x : Int} (h : w.ownsRow B 3 1 (.slice (some ⟨g, 0, none⟩) 1 c) 1 [.int .i64 x]) : w.cell? ⟨g, 0, none⟩ = some (.int .i64 x) := by
  have := h.cells (g := g) rfl 0 (.int .i64 x) rfl
  rwa [add_mk] at this
set_option maxRecDepth 100000 in
set_option maxHeartbeats 4000000 in
theorem fixed_any (w : World) : Calls Try.prog 6 #[] w fun e w' => e = .returned (.bool true) ∧ Below w.heap.size w w' := by
  go_enter Try.func6, Try.ntmps6
  go_wp2_with fail
  refine (k_new (w0 := w) w (Below.refl _ _) 0 3 (by omega) (by omega) (by omega)).mono ?_
  rintro e w1 ⟨rfl, hk, -⟩
  dsimp only
  have k0 := Lib.hid hk
  clear hk
  go_wp2_with fail
  refine (g_ask k0.out).mono ?_
  rintro e w' ⟨rfl, v, hK, hKp⟩
  dsimp only
  have HKp := Lib.hid hKp
  have k1 := Lib.hid hK
  clear hK hKp HKp k0
  go_wp2_with fail
  refine (g_beat k1.out).mono ?_
  rintro e w' ⟨rfl, hK, hKp⟩
  dsimp only
  have HKp := Lib.hid hKp
  have k2 := Lib.hid hK
  clear hK hKp HKp k1
  go_wp2_with fail
  refine (g_ready k2.out).mono ?_
  rintro e w' ⟨A0, q0, v, rfl, hK, hKp⟩
  dsimp only
  have HKp := Lib.hid hKp
  have k3 := Lib.hid hK
  clear hK hKp HKp k2
  go_wp2_with fail
  refine (g_ack k3.out).mono ?_
  rintro e w' ⟨rfl, hK, hKp⟩
  dsimp only
  have HKp := Lib.hid hKp
  have k4 := Lib.hid hK
  clear hK hKp HKp k3
  go_wp2_with fail
  refine (g_ready2 k4.out).mono ?_
  rintro e w' ⟨A1, q1, v, rfl, hO, hK, hKp⟩
  dsimp only
  have HKp := Lib.hid hKp
  have k5 := Lib.hid hK
  obtain ⟨g1, rfl⟩ := head_cell hO
  have O1 := Lib.hid hO
  clear hO
  clear hK hKp HKp k4
  go_wp2_with fail
  refine (g_ack2 k5.out).mono ?_
  rintro e w' ⟨rfl, hK, hKp⟩
  dsimp only
  have HKp := Lib.hid hKp
  have k6 := Lib.hid hK
  have O1' := Lib.hid (own_keep O1.out HKp.out)
  clear O1
  have O1 := O1'
  clear O1'
  clear hK hKp HKp k5
  go_wp2_with fail
  refine (g_ack3 k6.out).mono ?_
  rintro e w' ⟨rfl, hK, hKp⟩
  dsimp only
  have HKp := Lib.hid hKp
  have k7 := Lib.hid hK
  have O1' := Lib.hid (own_keep O1.out HKp.out)
  clear O1
  have O1 := O1'
  clear O1'
  clear hK hKp HKp k6
  go_wp2_with fail
  refine (g_apply k7.out).mono ?_
  rintro e w' ⟨rfl, hK, hKp⟩
  dsimp only
  have HKp := Lib.hid hKp
  have k8 := Lib.hid hK
  have O1' := Lib.hid (own_keep O1.out HKp.out)
  clear O1
  have O1 := O1'
  clear O1'
  clear hK hKp HKp k7
  go_wp2_with fail
  refine (g_ask2 k8.out).mono ?_
  rintro e w' ⟨rfl, v, hK, hKp⟩
  dsimp only
  have HKp := Lib.hid hKp
  have k9 := Lib.hid hK
  have O1' := Lib.hid (own_keep O1.out HKp.out)
  clear O1
  have O1 := O1'
  clear O1'
  clear hK hKp HKp k8
  go_wp2_with fail
  refine (g_ask3 k9.out).mono ?_
  rintro e w' ⟨rfl, v, hK, hKp⟩
  dsimp only
  have HKp := Lib.hid hKp
  have k10 := Lib.hid hK
  have O1' := Lib.hid (own_keep O1.out HKp.out)
  clear O1
  have O1 := O1'
  clear O1'
  clear hK hKp HKp k9
  go_wp2_with fail
  refine (g_drop k10.out).mono ?_
  rintro e w' ⟨A2, q2, v, rfl, hO, hK, hKp⟩
  dsimp only
  have HKp := Lib.hid hKp
  have k11 := Lib.hid hK
  have O1' := Lib.hid (own_keep O1.out HKp.out)
  clear O1
  have O1 := O1'
  clear O1'
  obtain ⟨g2, rfl⟩ := head_cell hO
  have O2 := Lib.hid hO
  clear hO
  clear hK hKp HKp k10
  have e1 := one_cell O1.out
  have e2 := one_cell O2.out
  go_wp2_with fail
  refine (g_sure k11.out).mono ?_
  rintro e w' ⟨rfl, hK, hKp⟩
  dsimp only
  have HKp := Lib.hid hKp
  have k12 := Lib.hid hK
  have O1' := Lib.hid (own_keep O1.out HKp.out)
  clear O1
  have O1 := O1'
  clear O1'
  have O2' := Lib.hid (own_keep O2.out HKp.out)
  clear O2
  have O2 := O2'
  clear O2'
  clear hK hKp HKp k11
  go_wp2_with fail
  refine (g_waiting k12.out).mono ?_
  rintro e w' ⟨rfl, rfl⟩
  dsimp only
  go_wp2_with fail
  refine (new_out 3 3 (by omega) _).mono ?_
  rintro e w' ⟨rfl, rfl⟩
  dsimp only
  go_wp2_with fail
  refine (ask_nil 1 _).mono ?_
  rintro e w' ⟨rfl, hN⟩
  dsimp only
  have hB1 := Lib.hid (k12.out.new_ hN).1
  clear hN
  go_wp2_with fail
  refine (beat_nil _).mono ?_
  rintro e w' ⟨rfl, rfl⟩
  dsimp only
  go_wp2_with fail
  refine (ready_nil _).mono ?_
  rintro e w' ⟨rfl, hN⟩
  dsimp only
  have hB2 := Lib.hid (hB1.out.new_ hN).1
  clear hN
  go_wp2_with fail
  go_ret
  exact ⟨rfl, hB2.out.below⟩
end Go.Proofs.Ytdbbnkibdibpkab
