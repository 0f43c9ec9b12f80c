/- The reference's names: a small number's text. -/
import Derived.Test.YtdbbnkibdibpkaaDoorOnce
import Derived.Laws.BytesArg
namespace Go.Proofs.YtdbbnkibdibpkaaDoor
open Go.RowKit
set_option linter.unusedVariables false

theorem conv_one (w : World) (x : Int) : (convert 100 9 (.slice (some ⟨w.heap.size, 0, none⟩) 1 1)).run Tryd.prog (w.alloc (.cells #[.int .u8 x] 5)) = .ok (.string ⟨#[UInt8.ofNat x.toNat]⟩) (w.alloc (.cells #[.int .u8 x] 5)) := by
  have h := run_convert_bytes_arg (P := Tryd.prog) (w.alloc (.cells #[.int .u8 x] 5)) 100 5 Tryd.underlying100 Tryd.underlying5 w.heap.size 0 1 1 [x] rfl (fun i hi => by
    have : i = 0 := by omega
    subst this
    rw [(Blk.new w 5 #[.int .u8 x]).cell]; rfl) 9 Tryd.underlying9
  exact h
theorem conv_two (w : World) (o : Obj) (x : Int) : (convert 100 9 (.slice (some ⟨w.heap.size + 1, 0, none⟩) 1 1)).run Tryd.prog ((w.alloc o).alloc (.cells #[.int .u8 x] 5)) = .ok (.string ⟨#[UInt8.ofNat x.toNat]⟩) ((w.alloc o).alloc (.cells #[.int .u8 x] 5)) := by
  have h := conv_one (w.alloc o) x
  rwa [show (w.alloc o).heap.size = w.heap.size + 1 by simp] at h
set_option maxRecDepth 100000 in
set_option maxHeartbeats 1000000 in
theorem text_any (N : Int) (h0 : 0 ≤ N) (h1 : N < 16) (w : World) : Calls Tryd.prog 37 #[.int .i64 N] w fun e w' => e = .returned (.string (dig N.toNat)) ∧ Ch (fun _ => False) w w' := by
  have h : N = 0 ∨ N = 1 ∨ N = 2 ∨ N = 3 ∨ N = 4 ∨ N = 5 ∨ N = 6 ∨ N = 7 ∨ N = 8 ∨ N = 9 ∨ N = 10 ∨ N = 11 ∨ N = 12 ∨ N = 13 ∨ N = 14 ∨ N = 15 := by omega
  clear h0 h1
  have hc1 := conv_one w
  have hc2 := conv_two w
  rcases h with rfl | rfl | rfl | rfl | rfl | rfl | rfl | rfl | rfl | rfl | rfl | rfl | rfl | rfl | rfl | rfl
  all_goals
    go_enter Tryd.func37, Tryd.ntmps37
    go_wp2_with fail
    refine wp_loop_rounds 2 ?_
    rw [rounds_succ]
    go_wp2
    try rw [rounds_succ]
    try go_wp2
    go_ret
    exact ⟨by rfl, by first | exact (Ch.refl _ _).alloc _ | exact ((Ch.refl _ _).alloc _).alloc _⟩
theorem rname_any (k : Nat) (hk : k < 16) (w : World) : Calls Tryd.prog 23 #[.int .i64 k] w fun e w' => e = .returned (.string (kind k)) ∧ Ch (fun _ => False) w w' := by
  have ht := text_any k (by omega) (by omega) w
  have e1 : (k : Int).toNat = k := by omega
  rw [e1] at ht
  have ht := Lib.hid ht
  have hsz := dig_size k
  unfold kind
  generalize dig k = D at *
  clear e1
  go_enter Tryd.func23, Tryd.ntmps23
  go_wp2_with (go_at_call 37; (with_reducible refine (ht.out).mono ?_); rintro e w' ⟨rfl, HE⟩; have HE' := Lib.hid HE; clear HE)
  go_ret
  exact ⟨rfl, HE'.out⟩
end Go.Proofs.YtdbbnkibdibpkaaDoor
