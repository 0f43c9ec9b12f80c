/-
  DERIVED. MADE BY PROGRAM (lay-iter.mjs) off ytbggadhaaphmcaadoor.cut.gsa: THE SHELF's CONTRACTS ON 'slices.Sorted(maps.Keys(m))' LAID AT THIS DUMP: 1 map type. NO WALK OF THE LIBRARY's TEXT: each is one application of a contract over any P and ρ (Derived/Shelf/SlIter/, Derived/Shelf/SortM/).
-/
import Derived.Shelf.SlIter.Nil
import Derived.Shelf.SortM.Plain
import Derived.Shelf.SortM.SortNone
import Derived.Ground.GgzProg
import Derived.Ground.SlgmProg
import Derived.Test.YtbggadhaaphmcaaDoorProg
namespace Go.Proofs
open Go.RowKit Go.Maps Go.Sort Go.Shelf

-- maps.Keys[map[string]kissinggate/api.Result,string,kissinggate/api.Result] (function 59; its iterator 77) · slices.Sorted[string] (58) · slices.Sort[[]string,string] (76) · the map's type 92, the keys' 9
def Tryd.keys59_ren : Go.Shelf.Ren := ⟨fun | 7 => 59 | 10 => 77 | n => n, fun | 23 => 92 | 26 => 9 | 3 => 45 | 28 => 105 | 0 => 0 | 27 => 104 | 33 => 129 | 4 => 4 | n => n, fun | n => n⟩
theorem Tryd.keys59 : Go.Proofs.SlLaysZ.n7 Tryd.prog Tryd.keys59_ren := {
  mixed := by kernel_rfl
  f7 := ⟨Tryd.f59.name, by decide, Tryd.func59.trans (congrArg some (by kernel_rfl))⟩
  f10 := ⟨Tryd.f77.name, by decide, Tryd.func77.trans (congrArg some (by kernel_rfl))⟩
  t0 := Tryd.underlying0
  a0 := Tryd.isAgg0
  z0 := Tryd.sizeOf0
  v0 := Tryd.zeroValue0
  t4 := Tryd.underlying4
  a4 := Tryd.isAgg4
  z4 := Tryd.sizeOf4
  v4 := Tryd.zeroValue4
  t23 := Tryd.underlying92
  a23 := Tryd.isAgg92
  z23 := Tryd.sizeOf92
  v23 := Tryd.zeroValue92
  t26 := Tryd.underlying9
  a26 := Tryd.isAgg9
  z26 := Tryd.sizeOf9
  v26 := Tryd.zeroValue9
  t27 := Tryd.underlying104
  a27 := Tryd.isAgg104
  z27 := Tryd.sizeOf104
  v27 := Tryd.zeroValue104
  t28 := Tryd.underlying105
  a28 := Tryd.isAgg105
  z28 := Tryd.sizeOf105
  v28 := Tryd.zeroValue105
  t33 := Tryd.underlying129
  a33 := Tryd.isAgg129
  z33 := Tryd.sizeOf129
  v33 := Tryd.zeroValue129 }
def Tryd.sorted58_ren : Go.Shelf.Ren := ⟨fun | 6 => 58 | 8 => 75 | 9 => 76 | 11 => 84 | 13 => 86 | 12 => 85 | 23 => 102 | 24 => 103 | 14 => 93 | 15 => 94 | 16 => 95 | 17 => 96 | 18 => 97 | 19 => 98 | 20 => 99 | 21 => 100 | 22 => 101 | 25 => 111 | 26 => 112 | 27 => 113 | 28 => 114 | 29 => 115 | 30 => 116 | 31 => 123 | n => n, fun | 26 => 9 | 28 => 105 | 24 => 102 | 0 => 0 | 3 => 3 | 37 => 121 | 48 => 154 | 50 => 156 | 4 => 4 | 40 => 147 | 39 => 146 | 45 => 66 | 5 => 5 | 9 => 9 | 51 => 167 | 55 => 171 | 57 => 181 | 58 => 182 | 33 => 129 | n => n, fun | n => n⟩
theorem Tryd.sorted58 : Go.Proofs.SlLaysZ.n6 Tryd.prog Tryd.sorted58_ren := {
  mixed := by kernel_rfl
  f6 := ⟨Tryd.f58.name, by decide, Tryd.func58.trans (congrArg some (by kernel_rfl))⟩
  f8 := ⟨Tryd.f75.name, by decide, Tryd.func75.trans (congrArg some (by kernel_rfl))⟩
  f11 := ⟨Tryd.f84.name, by decide, Tryd.func84.trans (congrArg some (by kernel_rfl))⟩
  t0 := Tryd.underlying0
  a0 := Tryd.isAgg0
  z0 := Tryd.sizeOf0
  v0 := Tryd.zeroValue0
  t24 := Tryd.underlying102
  a24 := Tryd.isAgg102
  z24 := Tryd.sizeOf102
  v24 := Tryd.zeroValue102
  t26 := Tryd.underlying9
  a26 := Tryd.isAgg9
  z26 := Tryd.sizeOf9
  v26 := Tryd.zeroValue9
  t28 := Tryd.underlying105
  a28 := Tryd.isAgg105
  z28 := Tryd.sizeOf105
  v28 := Tryd.zeroValue105
  i26 := by kernel_rfl }
def Tryd.sort76_ren : Go.Shelf.Ren := ⟨fun | 6 => 76 | 8 => 86 | 9 => 85 | 19 => 102 | 20 => 103 | 21 => 93 | 22 => 94 | 23 => 95 | 24 => 96 | 25 => 97 | 26 => 98 | 27 => 99 | 28 => 100 | 29 => 101 | 36 => 111 | 31 => 112 | 32 => 113 | 37 => 114 | 38 => 115 | 39 => 116 | 41 => 123 | n => n, fun | 27 => 102 | 29 => 9 | 3 => 3 | 32 => 121 | 26 => 102 | 0 => 0 | 44 => 154 | 46 => 156 | 4 => 4 | 36 => 147 | 35 => 146 | 41 => 66 | 5 => 5 | 9 => 9 | 53 => 167 | 57 => 171 | 63 => 181 | 64 => 182 | n => n, fun | n => n⟩
theorem Tryd.sort76 : Go.Proofs.SlLaysM.n6 Tryd.prog Tryd.sort76_ren := {
  mixed := by kernel_rfl
  f6 := ⟨Tryd.f76.name, by decide, Tryd.func76.trans (congrArg some (by kernel_rfl))⟩
  f8 := Tryd.func86.trans (congrArg some (by kernel_rfl))
  f9 := ⟨Tryd.f85.name, by decide, Tryd.func85.trans (congrArg some (by kernel_rfl))⟩
  f19 := Tryd.func102.trans (congrArg some (by kernel_rfl))
  f20 := Tryd.func103.trans (congrArg some (by kernel_rfl))
  f21 := ⟨Tryd.f93.name, by decide, Tryd.func93.trans (congrArg some (by kernel_rfl))⟩
  f22 := ⟨Tryd.f94.name, by decide, Tryd.func94.trans (congrArg some (by kernel_rfl))⟩
  f23 := ⟨Tryd.f95.name, by decide, Tryd.func95.trans (congrArg some (by kernel_rfl))⟩
  f24 := ⟨Tryd.f96.name, by decide, Tryd.func96.trans (congrArg some (by kernel_rfl))⟩
  f25 := ⟨Tryd.f97.name, by decide, Tryd.func97.trans (congrArg some (by kernel_rfl))⟩
  f26 := ⟨Tryd.f98.name, by decide, Tryd.func98.trans (congrArg some (by kernel_rfl))⟩
  f27 := ⟨Tryd.f99.name, by decide, Tryd.func99.trans (congrArg some (by kernel_rfl))⟩
  f28 := ⟨Tryd.f100.name, by decide, Tryd.func100.trans (congrArg some (by kernel_rfl))⟩
  f29 := ⟨Tryd.f101.name, by decide, Tryd.func101.trans (congrArg some (by kernel_rfl))⟩
  f31 := Tryd.func112.trans (congrArg some (by kernel_rfl))
  f32 := Tryd.func113.trans (congrArg some (by kernel_rfl))
  f36 := ⟨Tryd.f111.name, by decide, Tryd.func111.trans (congrArg some (by kernel_rfl))⟩
  f37 := ⟨Tryd.f114.name, by decide, Tryd.func114.trans (congrArg some (by kernel_rfl))⟩
  f38 := ⟨Tryd.f115.name, by decide, Tryd.func115.trans (congrArg some (by kernel_rfl))⟩
  f39 := ⟨Tryd.f116.name, by decide, Tryd.func116.trans (congrArg some (by kernel_rfl))⟩
  f41 := ⟨Tryd.f123.name, by decide, Tryd.func123.trans (congrArg some (by kernel_rfl))⟩
  t0 := Tryd.underlying0
  a0 := Tryd.isAgg0
  z0 := Tryd.sizeOf0
  v0 := Tryd.zeroValue0
  t3 := Tryd.underlying3
  a3 := Tryd.isAgg3
  z3 := Tryd.sizeOf3
  v3 := Tryd.zeroValue3
  t4 := Tryd.underlying4
  a4 := Tryd.isAgg4
  z4 := Tryd.sizeOf4
  v4 := Tryd.zeroValue4
  t5 := Tryd.underlying5
  a5 := Tryd.isAgg5
  z5 := Tryd.sizeOf5
  v5 := Tryd.zeroValue5
  t9 := Tryd.underlying9
  a9 := Tryd.isAgg9
  z9 := Tryd.sizeOf9
  v9 := Tryd.zeroValue9
  t26 := Tryd.underlying102
  a26 := Tryd.isAgg102
  z26 := Tryd.sizeOf102
  v26 := Tryd.zeroValue102
  t27 := Tryd.underlying102
  a27 := Tryd.isAgg102
  z27 := Tryd.sizeOf102
  v27 := Tryd.zeroValue102
  t29 := Tryd.underlying9
  a29 := Tryd.isAgg9
  z29 := Tryd.sizeOf9
  v29 := Tryd.zeroValue9
  t32 := Tryd.underlying121
  a32 := Tryd.isAgg121
  z32 := Tryd.sizeOf121
  v32 := Tryd.zeroValue121
  t35 := Tryd.underlying146
  a35 := Tryd.isAgg146
  z35 := Tryd.sizeOf146
  v35 := Tryd.zeroValue146
  t36 := Tryd.underlying147
  a36 := Tryd.isAgg147
  z36 := Tryd.sizeOf147
  v36 := Tryd.zeroValue147
  t41 := Tryd.underlying66
  a41 := Tryd.isAgg66
  z41 := Tryd.sizeOf66
  v41 := Tryd.zeroValue66
  t44 := Tryd.underlying154
  a44 := Tryd.isAgg154
  z44 := Tryd.sizeOf154
  v44 := Tryd.zeroValue154
  t46 := Tryd.underlying156
  a46 := Tryd.isAgg156
  z46 := Tryd.sizeOf156
  v46 := Tryd.zeroValue156
  t53 := Tryd.underlying167
  a53 := Tryd.isAgg167
  z53 := Tryd.sizeOf167
  v53 := Tryd.zeroValue167
  t57 := Tryd.underlying171
  a57 := Tryd.isAgg171
  z57 := Tryd.sizeOf171
  v57 := Tryd.zeroValue171
  t63 := Tryd.underlying181
  a63 := Tryd.isAgg181
  z63 := Tryd.sizeOf181
  v63 := Tryd.zeroValue181
  t64 := Tryd.underlying182
  a64 := Tryd.isAgg182
  z64 := Tryd.sizeOf182
  v64 := Tryd.zeroValue182 }

/-- slices.Sort's two contracts at this dump, at the fence that asks nothing. -/
theorem Tryd.sorts58 (m : Nat) : AnyZ.SortsIn Tryd.prog Tryd.sorted58_ren Fence.wide m :=
  ⟨fun blk off cap ss W hH hblk hsz => callsIn_wide.2 (AnyM.slices_Sort_string Tryd.sort76 blk off cap ss W hH hblk hsz),
   fun p cap W => callsIn_wide.2 (AnyM.slices_Sort_string_none Tryd.sort76 p cap W)⟩

/-- **maps.Keys[map[string]kissinggate/api.Result,string,kissinggate/api.Result], at whatever map, the nil one too:** a function value over ONE NEW BLOCK, which holds the map. -/
theorem Tryd.maps_Keys_59 (mb : Option Nat) (W : World) : CallsIn Fence.wide 5 Tryd.prog 59 #[.map mb] W fun e w' => e = .returned (.func (.func 77) #[] #[.pointer (some ⟨W.heap.size, 0, none⟩)]) ∧ w' = W.alloc (.cells #[.map mb] 92) :=
  AnyZ.keys_in Tryd.keys59 Fence.wide 5 trivial rfl mb W

set_option maxHeartbeats 1000000 in
/-- **slices.Sorted[string] AT WHAT maps.Keys[map[string]kissinggate/api.Result,string,kissinggate/api.Result] HANDED BACK FOR A MAP THAT IS NOT nil** ('w': the world AHEAD of maps.Keys' call): A NEW SLICE THAT HOLDS THE MAP's KEYS, SORTED; nil just where it has none; nothing that lay before has turned. -/
theorem Tryd.slices_Sorted_keys_58_59 {H : Type} (b nn : Nat) (D0 : DataW H) (R : Value → Option (DataW H × List MemPlace)) (w : World) (hown : w.ownsMap Tryd.prog 9 R b nn D0) (hmax : Maps.size D0 ≤ maxLen) (hbytes : Maps.size D0 * 16 ≤ 140737488355328) :
    CallsIn Fence.wide 5 Tryd.prog 58 #[.func (.func 77) #[] #[.pointer (some ⟨w.heap.size, 0, none⟩)]] (w.alloc (.cells #[.map (some b)] 92)) fun e w' => ∃ (v : Value) (ss : List (List UInt8)), e = .returned v ∧ ss.Perm (strKeys D0) ∧
      w'.ownsRow (w.alloc (.cells #[.map (some b)] 92)).heap.size 9 1 v ss.length ((ss.mergeSort (fun x y => decide (x ≤ y))).map encStr) ∧ (v = .slice none 0 0 ↔ ss = []) ∧ Below (w.alloc (.cells #[.map (some b)] 92)).heap.size (w.alloc (.cells #[.map (some b)] 92)) w' := by
  have hbl := hown.lt
  have hseq : SeqGives Fence.wide 2 Tryd.prog 77 #[.pointer (some ⟨w.heap.size, 0, none⟩)] encStr (fun ss => ss.Perm (strKeys D0)) (Maps.size D0) (w.alloc (.cells #[.map (some b)] 92)) :=
    AnyZ.keys_gives (ρ := Tryd.keys59_ren) { Tryd.keys59 with } Fence.wide _ trivial rfl (by omega) w.heap.size b nn D0 _ (by simp) (by simp) (by
      obtain ⟨es, clock, hb, Ft, hs, hD⟩ := hown
      exact ⟨es, clock, (Below.heap_alloc _ _ b hbl).trans hb, Ft, hs, hD⟩)
  exact AnyZ.sorted_in Tryd.sorted58 Fence.wide 5 trivial trivial trivial trivial rfl (by omega) (Tryd.sorts58 _) (enters_of Tryd.func76 (by kernel_rfl) rfl) 77 #[.pointer (some ⟨w.heap.size, 0, none⟩)] trivial (enters_of Tryd.func77 (by kernel_rfl) rfl) _ _ hmax hbytes _ hseq

set_option maxHeartbeats 1000000 in
/-- **.. AND FOR THE nil MAP: nil.** -/
theorem Tryd.slices_Sorted_keys_nil_58_59 (w : World) :
    CallsIn Fence.wide 5 Tryd.prog 58 #[.func (.func 77) #[] #[.pointer (some ⟨w.heap.size, 0, none⟩)]] (w.alloc (.cells #[.map none] 92)) fun e w' => ∃ (v : Value) (ss : List (List UInt8)), e = .returned v ∧ ss = [] ∧
      w'.ownsRow (w.alloc (.cells #[.map none] 92)).heap.size 9 1 v ss.length ((ss.mergeSort (fun x y => decide (x ≤ y))).map encStr) ∧ (v = .slice none 0 0 ↔ ss = []) ∧ Below (w.alloc (.cells #[.map none] 92)).heap.size (w.alloc (.cells #[.map none] 92)) w' := by
  have hseq : SeqGives Fence.wide 2 Tryd.prog 77 #[.pointer (some ⟨w.heap.size, 0, none⟩)] encStr (fun ss : List (List UInt8) => ss = []) 0 (w.alloc (.cells #[.map none] 92)) :=
    AnyZ.keys_gives_nil (ρ := Tryd.keys59_ren) { Tryd.keys59 with } Fence.wide _ trivial rfl w.heap.size _ (by simp) (by simp)
  exact AnyZ.sorted_in Tryd.sorted58 Fence.wide 5 trivial trivial trivial trivial rfl (by omega) (Tryd.sorts58 _) (enters_of Tryd.func76 (by kernel_rfl) rfl) 77 #[.pointer (some ⟨w.heap.size, 0, none⟩)] trivial (enters_of Tryd.func77 (by kernel_rfl) rfl) _ 0 (Nat.zero_le _) (by omega) _ hseq

-- THE CALLER's WALK over 'slices.Sorted(maps.Keys(m))' (inside '(callsIn_wide (n := 6)).1'; 'have hfK : Fence.wide.fn 59 := trivial', 'have hfS : Fence.wide.fn 58 := trivial' ahead): THE TWO ARMS TO PASTE:
--   gi_wp2_with (first
--     | (gi_at_call 59; refine (Tryd.maps_Keys_59 _ _).mono ?_; rintro e w' ⟨rfl, rfl⟩)
--     | (gi_at_call 58; refine (Tryd.slices_Sorted_keys_58_59 b nn D0 R w hown hmax hbytes).mono ?_; rintro e w' ⟨v, ss, rfl, hS, hrow, hnil, hb⟩))


end Go.Proofs
