/- The fixed facts. -/
import Derived.Test.YtfcdplfnhjbdnaaFx
namespace Go.Proofs.Ytfcdplfnhjbdnaa
open Go.RowKit Go.Maps
set_option linter.unusedVariables false

def vA : Ver := ⟨3, ⟨#[49]⟩, true⟩
def vB : Ver := ⟨5, ⟨#[50]⟩, true⟩
def sA : CS := ⟨fun j => if j = [97] then [vA] else [], 3, 0⟩
def sB : CS := ⟨fun j => if j = [97] then [vA, vB] else [], 5, 0⟩
def sC : CS := ⟨fun j => if j = [97] then [vB] else [], 5, 5⟩
theorem e1 : putE emptyS ⟨#[97]⟩ ⟨#[49]⟩ 3 = 0 := by decide
theorem e2 : putE sA ⟨#[97]⟩ ⟨#[50]⟩ 5 = 0 := by decide
theorem e3 : putE sB ⟨#[98]⟩ ⟨#[120]⟩ 4 = 5 := by decide
theorem cutA : cutAt [vA] 5 = [vA] := by decide
theorem q1 : putS emptyS ⟨#[97]⟩ ⟨#[49]⟩ true 3 = sA := by
  unfold putS
  rw [if_pos e1]
  unfold sA
  rw [CS.mk.injEq]
  refine ⟨funext fun j => ?_, rfl, rfl⟩
  unfold updF
  by_cases e : j = [97]
  · rw [if_pos e, if_pos e]; rfl
  · rw [if_neg e, if_neg e]; rfl
theorem q2 : putS sA ⟨#[97]⟩ ⟨#[50]⟩ true 5 = sB := by
  unfold putS
  rw [if_pos e2]
  unfold sB
  rw [CS.mk.injEq]
  refine ⟨funext fun j => ?_, rfl, rfl⟩
  unfold updF
  by_cases e : j = [97]
  · rw [if_pos e, if_pos e]
    have : sA.f (⟨#[97]⟩ : ByteArray).data.toList = [vA] := rfl
    rw [this, cutA]; rfl
  · rw [if_neg e, if_neg e]
    unfold sA
    exact if_neg e
theorem q3 : putS sB ⟨#[98]⟩ ⟨#[120]⟩ true 4 = sB := by
  unfold putS
  rw [if_neg (by rw [e3]; decide)]
theorem v1 : atV sB [97] 4 = (⟨#[49]⟩, true) := by
  unfold atV
  rw [if_pos (by decide)]
  have : sB.f [97] = [vA, vB] := rfl
  rw [this]
  have u : upN [vA, vB] 4 = 1 := by decide
  unfold valOf
  rw [u]; rfl
theorem a1 : atE sB 4 = 0 := by decide
theorem v2 : valOf [vA, vB] maxClock = (⟨#[50]⟩, true) := by
  have u : upN [vA, vB] maxClock = 2 := by decide
  unfold valOf
  rw [u]; rfl
theorem g1 : goneN [vA, vB] 5 = 1 := by decide
theorem g0 : goneN [] 5 = 0 := by decide
theorem q4 : trimS sB 5 = sC := by
  unfold trimS sC
  rw [CS.mk.injEq]
  refine ⟨funext fun j => ?_, rfl, rfl⟩
  by_cases e : j = [97]
  · have : sB.f j = [vA, vB] := by unfold sB; exact if_pos e
    rw [if_pos e, this, g1]; rfl
  · have : sB.f j = [] := by unfold sB; exact if_neg e
    rw [if_neg e, this]; rfl
theorem t1 : trimE sB 5 = 0 := by decide
theorem a2 : atE sC 4 = 9 := by decide
theorem keys_one {s : CS} (h : ∀ k, s.f k ≠ [] ↔ k = [97]) {ks : List (List UInt8)} (hk : KeysIn s ks) : ks = [[97]] := by
  have hm : ∀ k ∈ ks, k = [97] := fun k hkk => (h k).1 ((hk.2 k).1 hkk)
  have hi : [97] ∈ ks := (hk.2 _).2 ((h _).2 rfl)
  rcases ks with _ | ⟨x, r⟩
  · simp at hi
  · have hx := hm x (by simp)
    rcases r with _ | ⟨y, r⟩
    · rw [hx]
    · have hy := hm y (by simp)
      have := (List.pairwise_cons.1 hk.1).1 y (by simp)
      rw [hx, hy] at this
      exact absurd this (List.lt_irrefl _)
theorem kB : ∀ k, sB.f k ≠ [] ↔ k = [97] := fun k => by
  unfold sB
  by_cases e : k = [97] <;> simp [e]
theorem kC : ∀ k, sC.f k ≠ [] ↔ k = [97] := fun k => by
  unfold sC
  by_cases e : k = [97] <;> simp [e]
theorem n1 : trimN sB 5 [[97]] = 1 := by
  have : sB.f [97] = [vA, vB] := rfl
  unfold trimN
  rw [List.map_cons, List.map_nil, this, g1]; rfl
theorem k1 : keysAt sC 5 [[97]] = [[97]] := by
  have : sC.f [97] = [vB] := rfl
  have u : upN [vB] 5 = 1 := by decide
  have v : (valOf [vB] 5).2 = true := by unfold valOf; rw [u]; rfl
  unfold keysAt
  rw [if_neg (by decide)]
  rw [List.filter_cons, this, v]; rfl
set_option maxRecDepth 100000 in
set_option maxHeartbeats 8000000 in
theorem fixed_any (w : World) : Calls Try.prog 7 #[] w fun e w' => e = .returned (.bool true) ∧ Below w.heap.size w w' := by
  have HN := Lib.hid (ks_new w w (Below.refl _ _))
  go_enter Try.func7, Try.ntmps7
  go_wp2_with fail
  refine HN.out.mono ?_
  rintro e w1 ⟨rfl, hk, _⟩
  dsimp only
  have P1 := ks_put hk (by omega) ⟨#[97]⟩ ⟨#[49]⟩ true 3
  rw [e1, q1] at P1
  have HP := Lib.hid P1
  clear P1 hk HN
  generalize w.heap.size + 1 = cb at *
  go_wp2_with fail
  refine HP.out.mono ?_
  rintro e w2 ⟨rfl, hk, _⟩
  dsimp only
  have P1 := ks_put hk (by omega) ⟨#[97]⟩ ⟨#[50]⟩ true 5
  rw [e2, q2] at P1
  have HP := Lib.hid P1
  clear P1 hk
  go_wp2_with fail
  refine HP.out.mono ?_
  rintro e w3 ⟨rfl, hk, _⟩
  dsimp only
  have P1 := ks_put hk (by omega) ⟨#[98]⟩ ⟨#[120]⟩ true 4
  rw [e3, q3] at P1
  have HP := Lib.hid P1
  clear P1 hk
  go_wp2_with fail
  refine HP.out.mono ?_
  rintro e w4 ⟨rfl, hk, _⟩
  dsimp only
  have P1 := ks_at hk (by omega) (key := ⟨#[97]⟩) (by decide) 4
  rw [show (⟨#[97]⟩ : ByteArray).data.toList = [97] from rfl, v1, a1] at P1
  have HP := Lib.hid P1
  clear P1 hk
  go_wp2_with fail
  refine HP.out.mono ?_
  rintro e w5 ⟨rfl, hk, _⟩
  dsimp only
  have P1 := ks_get hk (by omega) (key := ⟨#[97]⟩) (by decide)
  rw [show sB.f (⟨#[97]⟩ : ByteArray).data.toList = [vA, vB] from rfl, v2] at P1
  have HP := Lib.hid P1
  clear P1 hk
  go_wp2_with fail
  refine HP.out.mono ?_
  rintro e w6 ⟨rfl, hk, _⟩
  dsimp only
  have P1 := ks_trim hk (by omega) 5 t1
  rw [q4] at P1
  have HP := Lib.hid P1
  clear P1 hk
  go_wp2_with fail
  refine HP.out.mono ?_
  rintro e w7 ⟨ks, hks, rfl, hk, _⟩
  obtain rfl := keys_one kB hks
  rw [n1]
  dsimp only
  have P1 := ks_at hk (by omega) (key := ⟨#[97]⟩) (by decide) 4
  rw [show (⟨#[97]⟩ : ByteArray).data.toList = [97] from rfl, a2] at P1
  have HP := Lib.hid P1
  clear P1 hk hks
  generalize atV sC [97] 4 = vo at *
  go_wp2_with fail
  refine HP.out.mono ?_
  rintro e w8 ⟨rfl, hk, _⟩
  dsimp only
  have BX := Blk.new w8 58 #[.string ⟨#[107]⟩, .slice none 0 0]
  have hf := Lib.hid (from_none ⟨#[107]⟩ (by decide) w8.heap.size (w8.alloc (.cells #[.string ⟨#[107]⟩, .slice none 0 0] 58)) (by rw [BX.cell]; rfl) (by rw [BX.cell]; rfl))
  have HK := Lib.hid (hk.new_ ((Ch.refl _ w8).alloc (.cells #[.string ⟨#[107]⟩, .slice none 0 0] 58)))
  clear BX hk HP
  go_wp2_with fail
  refine hf.out.mono ?_
  rintro e w9 ⟨rfl, hN9⟩
  dsimp only
  have hk := HK.out.new_ hN9
  have HT := Lib.hid (nil_trim 1 w9)
  have HK := Lib.hid hk
  clear hk hN9 hf
  go_wp2_with fail
  refine HT.out.mono ?_
  rintro e w10 ⟨rfl, rfl⟩
  dsimp only
  have H11 := Lib.hid (ks_last HK.out)
  have H12 := Lib.hid (ks_floor HK.out)
  have H19 := Lib.hid (ks_keys HK.out (by omega) 5)
  clear HT
  rw [show sC.last = 5 from rfl] at H11
  rw [show sC.floor = 5 from rfl] at H12
  go_wp2_with (first
    | (go_at_call 11; refine H11.out.mono ?_; rintro e w11 ⟨rfl, rfl⟩)
    | (go_at_call 12; refine H12.out.mono ?_; rintro e w12 ⟨rfl, rfl⟩)
    | (go_at_call 19; refine H19.out.mono ?_
       rintro e w13 ⟨A, c, ks, hks, rfl, _, hk, _⟩
       obtain rfl := keys_one kC hks
       rw [k1]
       have HK2 := Lib.hid hk
       have H24 := Lib.hid (ks_versions hk (by omega) (key := ⟨#[97]⟩) (by decide))
       rw [show sC.f (⟨#[97]⟩ : ByteArray).data.toList = [vB] from rfl] at H24
       clear hk hks
       simp only [List.length_cons, List.length_nil])
    | (go_at_call 24; refine H24.out.mono ?_; rintro e w14 ⟨A2, c2, rfl, _, hk, _⟩; have HK3 := Lib.hid hk; clear hk; simp only [List.length_cons, List.length_nil])
    | (go_at_call 21; refine (nil_put _ _ _ _ _).mono ?_; rintro e w15 ⟨rfl, rfl⟩)
    | (go_at_call 14; refine (nil_all _).mono ?_; rintro e w16 ⟨rfl, rfl⟩))
  go_ret
  exact ⟨rfl, HK3.out.below⟩
end Go.Proofs.Ytfcdplfnhjbdnaa
