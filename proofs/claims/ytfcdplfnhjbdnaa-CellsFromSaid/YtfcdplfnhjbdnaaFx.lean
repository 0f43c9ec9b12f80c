/- From at one cell without versions: refused. -/
import Derived.Test.YtfcdplfnhjbdnaaKs
namespace Go.Proofs.Ytfcdplfnhjbdnaa
open Go.RowKit Go.Maps
set_option linter.unusedVariables false

theorem right_none (key : ByteArray) (m : Int) (hk : key.size ≤ 16) (w : World) : Calls Try.prog 32 #[.agg #[.string key, .slice none 0 0], .int .i64 m] w fun e w' => e = .returned (.bool false) ∧ NewW w w' := by
  have d1 : decide ((key.size : Int) ≤ 16) = true := by simp; omega
  have HN := Lib.hid (show NewW w (w.alloc (.cells #[.string key, .slice none 0 0] 58)) from (Ch.refl _ w).alloc _)
  have BX := Blk.new w 58 #[.string key, .slice none 0 0]
  have e0 : (w.alloc (.cells #[.string key, .slice none 0 0] 58)).cell? ⟨w.heap.size, 0, none⟩ = some (.string key) := by rw [BX.cell]; rfl
  have e1 : (w.alloc (.cells #[.string key, .slice none 0 0] 58)).cell? ⟨w.heap.size, 1, none⟩ = some (.slice none 0 0) := by rw [BX.cell]; rfl
  clear BX
  go_enter Try.func32, Try.ntmps32
  go_wp2_with fail
  refine wp_loop_rounds 1 ?_
  rw [rounds_succ]
  go_wp2_with fail
  go_ret
  exact ⟨rfl, HN.out⟩
set_option maxRecDepth 100000 in
set_option maxHeartbeats 4000000 in
theorem from_none (key : ByteArray) (hk : key.size ≤ 16) (g : Nat) (w : World) (h0 : w.cell? ⟨g, 0, none⟩ = some (.string key)) (h1 : w.cell? ⟨g, 1, none⟩ = some (.slice none 0 0)) :
    Calls Try.prog 23 #[.slice (some ⟨g, 0, none⟩) 1 1, .int .i64 0] w fun e w' => e = .returned (.tuple #[.pointer none, .int .i64 2]) ∧ NewW w w' := by
  have hmo := Lib.hid (moment_any 0 w)
  rw [show (decide ((0 : Int) ≤ 0) && decide ((0 : Int) ≤ 1099511627776)) = true from rfl] at hmo
  have HN := Lib.hid (ks_new w w (Below.refl _ _))
  go_enter Try.func23, Try.ntmps23
  go_wp2_with (first
    | (go_at_call 29; refine hmo.out.mono ?_; rintro e w2 ⟨rfl, rfl⟩)
    | (go_at_call 9; refine HN.out.mono ?_
       rintro e w2 ⟨rfl, hk2, hn2⟩
       obtain ⟨mb, D, V, hm⟩ := hk2.cm
       have c2 := hm.c2
       have f2 := hm.blk.frozen 2
       have HC := Lib.hid (show NewW w (w2.setCell ⟨w.heap.size + 1, 2, none⟩ (.int .i64 0)) from (hn2 : Ch (fun _ => False) w w2).setCell (.inr (Nat.le_succ _)) _)
       clear hm hk2 hn2))
  generalize w2.setCell ⟨w.heap.size + 1, 2, none⟩ (.int .i64 0) = w3 at *
  have e0 := new_cell HC.out h0
  have e1 := new_cell HC.out h1
  clear h0 h1 c2 f2
  refine wp_loop_rounds 1 ?_
  rw [rounds_succ]
  go_wp2_with fail
  have BX := Lib.hid (Blk.new w3 58 #[.string key, .slice none 0 0])
  have HB := Lib.hid (show NewW w3 (w3.alloc (.cells #[.string key, .slice none 0 0] 58)) from (Ch.refl _ w3).alloc _)
  have x0 : (w3.alloc (.cells #[.string key, .slice none 0 0] 58)).cell? ⟨w3.heap.size, 0, none⟩ = some (.string key) := by rw [BX.out.cell]; rfl
  have x1 : (w3.alloc (.cells #[.string key, .slice none 0 0] 58)).cell? ⟨w3.heap.size, 1, none⟩ = some (.slice none 0 0) := by rw [BX.out.cell]; rfl
  generalize w3.alloc (.cells #[.string key, .slice none 0 0] 58) = w4 at *
  generalize w3.heap.size = bx at *
  have HR := Lib.hid (right_none key 0 hk w4.drew)
  refine wp_region_held_drew (S := (fun w' => w'.cell? ⟨bx, 0, none⟩ = some (.string key) ∧ w'.cell? ⟨bx, 1, none⟩ = some (.slice none 0 0))) (by kernel_rfl) (⟨x0, x1⟩) (fun hHeld => ?_)
  refine wpAnyH_take (i := 0) (v := ?_) rfl (by kernel_rfl) (by kernel_rfl) (by kernel_rfl) (fun _ _ _ h => h) (Or.inl ⟨by rfl, ?_⟩) (by assumption) ?_
  rotate_left 1
  · (intro w hSw; (try dsimp only at hSw); go_simp) <;> with_reducible rfl
  try simp only [Act.put, List.getElem_toArray, List.getElem_cons_zero, List.setIfInBounds_toArray, List.set_cons_zero, List.set_cons_succ]
  refine wpAnyH_take (i := 1) (v := ?_) rfl (by kernel_rfl) (by kernel_rfl) (by kernel_rfl) (fun _ _ _ h => h) (Or.inl ⟨by rfl, ?_⟩) (by assumption) ?_
  rotate_left 1
  · (intro w hSw; (try dsimp only at hSw); go_simp) <;> with_reducible rfl
  try simp only [Act.put, List.getElem_toArray, List.getElem_cons_zero, List.getElem_cons_succ, List.setIfInBounds_toArray, List.set_cons_zero, List.set_cons_succ]
  refine wpAnyH_ready (rs := [2]) (by kernel_rfl) (by simp) ?_
  refine AllReadyH.cons rfl (fun K hK => ?_) AllReadyH.nil
  go_simp
  go_at_call 32
  refine HR.out.mono ?_
  rintro e w6 ⟨rfl, hN6⟩
  have y0 := new_cell hN6 (show w4.drew.cell? ⟨bx, 0, none⟩ = some (.string key) from x0)
  have y1 := new_cell hN6 (show w4.drew.cell? ⟨bx, 1, none⟩ = some (.slice none 0 0) from x1)
  dsimp only
  refine hK.out _ _ (⟨y0, y1⟩) (fun hHeld2 => ?_)
  clear hK K hHeld
  try simp only [Act.put, List.getElem_toArray, List.getElem_cons_zero, List.getElem_cons_succ, List.setIfInBounds_toArray, List.set_cons_zero, List.set_cons_succ]
  refine wpAnyH_take (i := 3) (v := ?_) rfl (by kernel_rfl) (by kernel_rfl) (by kernel_rfl) (fun _ _ _ h => h) (Or.inl ⟨by rfl, ?_⟩) (by assumption) ?_
  rotate_left 1
  · (intro w hSw; (try dsimp only at hSw); go_simp) <;> with_reducible rfl
  try simp only [Act.put, List.getElem_toArray, List.getElem_cons_zero, List.getElem_cons_succ, List.setIfInBounds_toArray, List.set_cons_zero, List.set_cons_succ]
  refine wpAnyH_take (i := 4) (v := ?_) rfl (by kernel_rfl) (by kernel_rfl) (by kernel_rfl) (fun _ _ _ h => h) (Or.inl ⟨by rfl, ?_⟩) (by assumption) ?_
  rotate_left 1
  · (intro w hSw; (try dsimp only at hSw); go_simp) <;> with_reducible rfl
  try simp only [Act.put, List.getElem_toArray, List.getElem_cons_zero, List.getElem_cons_succ, List.setIfInBounds_toArray, List.set_cons_zero, List.set_cons_succ]
  refine wpAnyH_take (i := 5) (v := undef) rfl (by kernel_rfl) (by kernel_rfl) (by kernel_rfl) (fun _ _ _ h => h) (Or.inr ⟨by rfl, rfl⟩) (by assumption) ?_
  try simp only [Act.put, List.getElem_toArray, List.getElem_cons_zero, List.getElem_cons_succ, List.setIfInBounds_toArray, List.set_cons_zero, List.set_cons_succ]
  refine wpAnyH_take (i := 6) (v := undef) rfl (by kernel_rfl) (by kernel_rfl) (by kernel_rfl) (fun _ _ _ h => h) (Or.inr ⟨by rfl, rfl⟩) (by assumption) ?_
  try simp only [Act.put, List.getElem_toArray, List.getElem_cons_zero, List.getElem_cons_succ, List.setIfInBounds_toArray, List.set_cons_zero, List.set_cons_succ]
  refine wpAnyH_take (i := 7) (v := undef) rfl (by kernel_rfl) (by kernel_rfl) (by kernel_rfl) (fun _ _ _ h => h) (Or.inr ⟨by rfl, rfl⟩) (by assumption) ?_
  try simp only [Act.put, List.getElem_toArray, List.getElem_cons_zero, List.getElem_cons_succ, List.setIfInBounds_toArray, List.set_cons_zero, List.set_cons_succ]
  refine wpAnyH_take (i := 8) (v := undef) rfl (by kernel_rfl) (by kernel_rfl) (by kernel_rfl) (fun _ _ _ h => h) (Or.inr ⟨by rfl, rfl⟩) (by assumption) ?_
  try simp only [Act.put, List.getElem_toArray, List.getElem_cons_zero, List.getElem_cons_succ, List.setIfInBounds_toArray, List.set_cons_zero, List.set_cons_succ]
  refine wpAnyH_take (i := 9) (v := undef) rfl (by kernel_rfl) (by kernel_rfl) (by kernel_rfl) (fun _ _ _ h => h) (Or.inr ⟨by rfl, rfl⟩) (by assumption) ?_
  try simp only [Act.put, List.getElem_toArray, List.getElem_cons_zero, List.getElem_cons_succ, List.setIfInBounds_toArray, List.set_cons_zero, List.set_cons_succ]
  refine wpAnyH_take (i := 10) (v := undef) rfl (by kernel_rfl) (by kernel_rfl) (by kernel_rfl) (fun _ _ _ h => h) (Or.inr ⟨by rfl, rfl⟩) (by assumption) ?_
  try simp only [Act.put, List.getElem_toArray, List.getElem_cons_zero, List.getElem_cons_succ, List.setIfInBounds_toArray, List.set_cons_zero, List.set_cons_succ]
  refine wpAnyH_take (i := 11) (v := undef) rfl (by kernel_rfl) (by kernel_rfl) (by kernel_rfl) (fun _ _ _ h => h) (Or.inr ⟨by rfl, rfl⟩) (by assumption) ?_
  try simp only [Act.put, List.getElem_toArray, List.getElem_cons_zero, List.getElem_cons_succ, List.setIfInBounds_toArray, List.set_cons_zero, List.set_cons_succ]
  refine wpAnyH_take (i := 12) (v := undef) rfl (by kernel_rfl) (by kernel_rfl) (by kernel_rfl) (fun _ _ _ h => h) (Or.inr ⟨by rfl, rfl⟩) (by assumption) ?_
  try simp only [Act.put, List.getElem_toArray, List.getElem_cons_zero, List.getElem_cons_succ, List.setIfInBounds_toArray, List.set_cons_zero, List.set_cons_succ]
  refine wpAnyH_take (i := 13) (v := undef) rfl (by kernel_rfl) (by kernel_rfl) (by kernel_rfl) (fun _ _ _ h => h) (Or.inr ⟨by rfl, rfl⟩) (by assumption) ?_
  try simp only [Act.put, List.getElem_toArray, List.getElem_cons_zero, List.getElem_cons_succ, List.setIfInBounds_toArray, List.set_cons_zero, List.set_cons_succ]
  refine wpAnyH_take (i := 14) (v := undef) rfl (by kernel_rfl) (by kernel_rfl) (by kernel_rfl) (fun _ _ _ h => h) (Or.inr ⟨by rfl, rfl⟩) (by assumption) ?_
  try simp only [Act.put, List.getElem_toArray, List.getElem_cons_zero, List.getElem_cons_succ, List.setIfInBounds_toArray, List.set_cons_zero, List.set_cons_succ]
  refine wpAnyH_take (i := 15) (v := undef) rfl (by kernel_rfl) (by kernel_rfl) (by kernel_rfl) (fun _ _ _ h => h) (Or.inr ⟨by rfl, rfl⟩) (by assumption) ?_
  try simp only [Act.put, List.getElem_toArray, List.getElem_cons_zero, List.getElem_cons_succ, List.setIfInBounds_toArray, List.set_cons_zero, List.set_cons_succ]
  refine wpAnyH_take (i := 16) (v := undef) rfl (by kernel_rfl) (by kernel_rfl) (by kernel_rfl) (fun _ _ _ h => h) (Or.inr ⟨by rfl, rfl⟩) (by assumption) ?_
  try simp only [Act.put, List.getElem_toArray, List.getElem_cons_zero, List.getElem_cons_succ, List.setIfInBounds_toArray, List.set_cons_zero, List.set_cons_succ]
  refine wpAnyH_take (i := 17) (v := undef) rfl (by kernel_rfl) (by kernel_rfl) (by kernel_rfl) (fun _ _ _ h => h) (Or.inr ⟨by rfl, rfl⟩) (by assumption) ?_
  try simp only [Act.put, List.getElem_toArray, List.getElem_cons_zero, List.getElem_cons_succ, List.setIfInBounds_toArray, List.set_cons_zero, List.set_cons_succ]
  refine wpAnyH_take (i := 18) (v := ?_) rfl (by kernel_rfl) (by kernel_rfl) (by kernel_rfl) (fun _ _ _ h => h) (Or.inl ⟨by rfl, ?_⟩) (by assumption) ?_
  rotate_left 1
  · (intro w hSw; (try dsimp only at hSw); go_simp) <;> with_reducible rfl
  try simp only [Act.put, List.getElem_toArray, List.getElem_cons_zero, List.getElem_cons_succ, List.setIfInBounds_toArray, List.set_cons_zero, List.set_cons_succ]
  refine wpAnyH_done (by kernel_rfl) ?_ _
  go_wp2_with fail
  go_ret2
  exact ⟨rfl, (HC.out.trans' HB.out).trans' (((Ch.refl (fun _ => False) _).drew).trans' hN6)⟩
end Go.Proofs.Ytfcdplfnhjbdnaa
