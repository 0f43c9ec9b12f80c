/- Which versions aren't later than a moment: the library's search, and what a row tells. -/
import Derived.Test.YtfcdplfnhjbdnaaCp
import Derived.Test.YtfcdplfnhjbdnaaLibArgs
import Derived.Test.YtfcdplfnhjbdnaaRows
import Derived.Shelf.SlSorted.Search
import Derived.Ground.SlsoProg
import Derived.RegionTactic
import Derived.BigRegion
import Derived.Deep.QuietTactic
import Derived.BigQuiet
namespace Go.Proofs
open Go.Shelf
def Try.search_ren : Go.Shelf.Ren := ⟨fun | 16 => 40 | n => n, fun | 3 => 3 | 35 => 70 | 4 => 4 | 38 => 85 | n => n, fun | n => n⟩
theorem Try.search : Go.Proofs.SlLaysO.n16 Try.prog Try.search_ren := {
  mixed := by kernel_rfl
  f16 := Try.func40.trans (congrArg some (by kernel_rfl))
  t3 := Try.underlying3
  a3 := Try.isAgg3
  z3 := Try.sizeOf3
  v3 := Try.zeroValue3
  t4 := Try.underlying4
  a4 := Try.isAgg4
  z4 := Try.sizeOf4
  v4 := Try.zeroValue4
  t35 := Try.underlying70
  a35 := Try.isAgg70
  z35 := Try.sizeOf70
  v35 := Try.zeroValue70
  t38 := Try.underlying85
  a38 := Try.isAgg85
  z38 := Try.sizeOf85
  v38 := Try.zeroValue85 }
end Go.Proofs
namespace Go.Proofs.Ytfcdplfnhjbdnaa
open Go.RowKit Go.Sort Go.Shelf
set_option linter.unusedVariables false

def NewW (w w' : World) : Prop := Ch (fun _ => False) w w'
theorem ch_cell {w w' : World} (h : NewW w w') {a : Addr} (ha : a.block < w.heap.size) : w'.cell? a = w.cell? a := World.cell?_of_block (h.block a.block ha (fun h => h))
theorem new_cell {w w' : World} (h : NewW w w') {a : Addr} {v : Value} (ha : w.cell? a = some v) : w'.cell? a = some v := by
  obtain ⟨b, o, s⟩ := a
  exact (ch_cell h (block_lt_of_cell ha)).trans ha
/-- A row of versions can be read at a slice's place. -/
def RdV (w : World) (A : Option Addr) (l : List Ver) : Prop := l ≠ [] → ∃ g off, A = some ⟨g, off, none⟩ ∧ ∀ i v, l[i]? = some v →
  w.cell? ⟨g, off + i * 3, none⟩ = some (.int .i64 v.t) ∧ w.cell? ⟨g, off + i * 3 + 1, none⟩ = some (.string v.val) ∧ w.cell? ⟨g, off + i * 3 + 2, none⟩ = some (.bool v.has)
theorem RdV.new_ {w w' : World} {A : Option Addr} {l : List Ver} (h : RdV w A l) (hc : NewW w w') : RdV w' A l := fun hl => by
  obtain ⟨g, off, hA, hh⟩ := h hl
  refine ⟨g, off, hA, fun i v hv => ?_⟩
  obtain ⟨h0, h1, h2⟩ := hh i v hv
  exact ⟨new_cell hc h0, new_cell hc h1, new_cell hc h2⟩
theorem RdV.at_ {w : World} {A : Option Addr} {l : List Ver} (h : RdV w A l) {i : Nat} {v : Ver} (hv : l[i]? = some v) : ∃ g off, A = some ⟨g, off, none⟩ ∧
    w.cell? ⟨g, off + i * 3, none⟩ = some (.int .i64 v.t) ∧ w.cell? ⟨g, off + i * 3 + 1, none⟩ = some (.string v.val) ∧ w.cell? ⟨g, off + i * 3 + 2, none⟩ = some (.bool v.has) := by
  obtain ⟨g, off, hA, hh⟩ := h (fun e => by subst e; simp at hv)
  exact ⟨g, off, hA, hh i v hv⟩
theorem late_fn (lb ab g off n cap : Nat) (t m : Int) (i : Nat) (W : World) (hi : i < n)
    (ha : W.cell? ⟨lb, 0, none⟩ = some (.slice (some ⟨g, off, none⟩) n cap)) (hx : W.cell? ⟨ab, 0, none⟩ = some (.int .i64 m)) (hc : W.cell? ⟨g, off + i * 3, none⟩ = some (.int .i64 t)) :
    Calls Try.prog 41 (#[.int .i64 i] ++ #[.pointer (some ⟨lb, 0, none⟩), .pointer (some ⟨ab, 0, none⟩)]) W fun e w' => e = .returned (.bool (decide (m < t))) ∧ ∃ q, w' = W.drewN q := by
  have hiz : (i : Int) < (n : Int) := by omega
  go_enter Try.func41, Try.ntmps41
  go_wp2
  go_region
  all_goals go_wp2
  all_goals go_ret
  all_goals exact ⟨by first | rfl | simp, 1, rfl⟩
def lateAt (l : List Ver) (m : Int) (i : Nat) : Bool := match l[i]? with
  | some v => decide (m < v.t)
  | none => false
theorem up_any (A : Option Addr) (cap : Nat) (l : List Ver) (m : Int) (w : World) (h : RdV w A l) (hr : l.Pairwise fun a b => a.t < b.t) (hlen : l.length ≤ 1000000) :
    Calls Try.prog 36 #[.slice A l.length cap, .int .i64 m] w fun e w' => e = .returned (.int .i64 (upN l m : Nat)) ∧ NewW w w' := by
  obtain ⟨W0, hW0⟩ : ∃ W0, W0 = (w.alloc (.cells #[.slice A l.length cap] 56)).alloc (.cells #[.int .i64 m] 3) := ⟨_, rfl⟩
  have hn0 : NewW w W0 := by rw [hW0]; exact ((Ch.refl _ w).alloc _).alloc _
  have ca : W0.cell? ⟨w.heap.size, 0, none⟩ = some (.slice A l.length cap) := by
    rw [hW0, World.cell?_alloc_lt _ _ _ (by simp), (Blk.new w 56 #[.slice A l.length cap]).cell]; rfl
  have cx : W0.cell? ⟨w.heap.size + 1, 0, none⟩ = some (.int .i64 m) := by
    rw [hW0]
    have := (Blk.new (w.alloc (.cells #[.slice A l.length cap] 56)) 3 #[.int .i64 m]).cell 0
    rwa [World.size_alloc] at this
  have eg : ∀ args w, (callFunc 41 args).run Try.prog w = .ok (.enter 41 args) w := enters_of Try.func41 (by kernel_rfl) rfl
  have hS := Any.sort_Search Try.search 41 #[.pointer (some ⟨w.heap.size, 0, none⟩), .pointer (some ⟨w.heap.size + 1, 0, none⟩)] l.length (lateAt l m) W0 eg (by omega)
    (fun k os i hi => by
      obtain ⟨v, hv⟩ := some_of_lt hi
      obtain ⟨g, off, rfl, c0, _, _⟩ := (h.new_ hn0).at_ hv
      have hl : lateAt l m i = decide (m < v.t) := by unfold lateAt; rw [hv]
      rw [hl]
      exact (late_fn w.heap.size (w.heap.size + 1) g off l.length cap v.t m i _ hi (cell_grown (block_lt_of_cell ca) ca k os) (cell_grown (block_lt_of_cell cx) cx k os) (cell_grown (block_lt_of_cell c0) c0 k os)).mono
        fun _ _ ⟨he, q, hq⟩ => ⟨he, q, #[], by rw [hq, grow_empty]⟩)
    (fun a b hab hb hp => by
      obtain ⟨v, hv⟩ := some_of_lt (Nat.lt_of_le_of_lt hab hb)
      obtain ⟨u, hu⟩ := some_of_lt hb
      unfold lateAt at hp ⊢
      rw [hv] at hp
      rw [hu]
      simp at hp ⊢
      rcases Nat.eq_or_lt_of_le hab with e | e
      · subst e
        rw [hv] at hu
        injection hu with hu
        rw [← hu]; exact hp
      · have h1 := List.pairwise_iff_getElem.1 hr a b (lt_of_some hv) (lt_of_some hu) e
        rw [List.getElem?_eq_getElem (lt_of_some hv)] at hv
        rw [List.getElem?_eq_getElem (lt_of_some hu)] at hu
        injection hv with hv
        injection hu with hu
        rw [hv, hu] at h1
        omega)
  have hcnt : (List.range l.length).countP (fun i => !lateAt l m i) = upN l m := range_countP _ l _ fun i v hv => by
    unfold lateAt; rw [hv]; simp [← decide_not, Int.not_lt]
  rw [hcnt] at hS
  change Calls Try.prog 40 _ _ _ at hS
  clear ca cx hcnt h
  generalize upN l m = r at hS ⊢
  generalize l.length = n at *
  have HN := Lib.hid hn0
  clear hn0
  go_enter Try.func36, Try.ntmps36
  go_wp2_with (go_at_call 40; rw [← hW0]; refine hS.mono ?_; rintro e w' ⟨rfl, q, os, rfl⟩)
  go_ret
  refine ⟨rfl, ?_⟩
  rw [← hW0]
  exact HN.out.trans' (Ch.of_below (below_grown_sl W0.heap.size W0 q os (Nat.le_refl _)) (fun k hk _ => hk))
theorem value_any (A : Option Addr) (cap : Nat) (l : List Ver) (m : Int) (w : World) (h : RdV w A l) (hr : l.Pairwise fun a b => a.t < b.t) (hlen : l.length ≤ 1000000) :
    Calls Try.prog 30 #[.slice A l.length cap, .int .i64 m] w fun e w' => e = .returned (.tuple #[.string (valOf l m).1, .bool (valOf l m).2]) ∧ NewW w w' := by
  have hu := Lib.hid (up_any A cap l m w h hr hlen)
  have hle := upN_le l m
  by_cases h0 : upN l m = 0
  · have hv : valOf l m = (ByteArray.empty, false) := by unfold valOf; rw [if_pos h0]
    rw [hv]
    rw [h0] at hu
    clear hv h0 h hle
    go_enter Try.func30, Try.ntmps30
    go_wp2_with (go_at_call 36; refine hu.out.mono ?_; rintro e w2 ⟨rfl, hN⟩; have HN := Lib.hid hN; clear hN)
    go_ret2
    exact ⟨rfl, HN.out⟩
  · obtain ⟨k, hk⟩ : ∃ k, upN l m = k + 1 := ⟨upN l m - 1, by omega⟩
    obtain ⟨v, hv⟩ := some_of_lt (L := l) (i := k) (by omega)
    have he : valOf l m = (v.val, v.has) := by unfold valOf; rw [if_neg h0, hk, Nat.add_sub_cancel, hv]
    rw [he]
    rw [hk] at hu
    obtain ⟨g, off, rfl, c0, c1, c2⟩ := h.at_ hv
    have hkn : k < l.length := lt_of_some hv
    have hkI : (k : Int) < (l.length : Int) := by omega
    have HD := Lib.hid (And.intro c1 c2)
    have hw1 : IntKind.i64.wrap ((k : Int) + 1 - 1) = (k : Int) := by rw [Int.add_sub_cancel]; exact IntWalk.i64_in _ (by omega)
    have hw2 : IntKind.i64.wrap (((k + 1 : Nat) : Int) - 1) = (k : Int) := by rw [show (((k + 1 : Nat) : Int) - 1) = k by omega]; exact IntWalk.i64_in _ (by omega)
    have hk0 : (0 : Int) ≤ (k : Int) := by omega
    have hd : (((k + 1 : Nat) : Int) == 0) = false := by simp; omega
    clear he h0 h hk hv hle c0 c1 c2
    obtain ⟨vt, vv, vh⟩ := v
    simp only at HD ⊢
    generalize l.length = n at *
    go_enter Try.func30, Try.ntmps30
    go_wp2_with (go_at_call 36; refine hu.out.mono ?_; rintro e w2 ⟨rfl, hN⟩; obtain ⟨q1, q2⟩ := HD.out; have d1 := new_cell hN q1; have d2 := new_cell hN q2; have HN := Lib.hid hN; clear hN q1 q2)
    go_quiet (fail)
    go_wp2_with fail
    go_ret2
    exact ⟨rfl, HN.out.drewN _⟩
theorem moment_any (m : Int) (w : World) : Calls Try.prog 29 #[.int .i64 m] w fun e w' => e = .returned (.bool (decide (0 ≤ m) && decide (m ≤ 1099511627776))) ∧ w = w' := by
  by_cases h : 0 ≤ m
  · have hd : decide (0 ≤ m) = true := by simpa using h
    rw [hd, Bool.true_and]
    clear h
    go_enter Try.func29, Try.ntmps29
    go_wp2
    go_ret
    exact ⟨rfl, rfl⟩
  · have hd : decide (0 ≤ m) = false := by simpa using h
    rw [hd, Bool.false_and]
    clear h
    go_enter Try.func29, Try.ntmps29
    go_wp2
    go_ret
    exact ⟨rfl, rfl⟩
theorem gone_any (A : Option Addr) (cap : Nat) (l : List Ver) (m : Int) (w : World) (h : RdV w A l) (hr : l.Pairwise fun a b => a.t < b.t) (hlen : l.length ≤ 1000000) :
    Calls Try.prog 31 #[.slice A l.length cap, .int .i64 m] w fun e w' => e = .returned (.int .i64 (goneN l m : Nat)) ∧ NewW w w' := by
  have hu := Lib.hid (up_any A cap l m w h hr hlen)
  have hle := upN_le l m
  obtain ⟨u, hu'⟩ : ∃ u, upN l m = u := ⟨_, rfl⟩
  have hG := Lib.hid (show goneN l m = goneK l[u - 1]? (u - 1) m from by unfold goneN; rw [hu'])
  rw [hu'] at hu hle
  have hmx : max ((u : Int) - 1) 0 = ((u - 1 : Nat) : Int) := by omega
  have hmx2 : IntKind.i64.wrap ((u : Int) - 1) = (u : Int) - 1 := IntWalk.i64_in _ (by omega)
  clear hu'
  by_cases hin : u - 1 < l.length
  · obtain ⟨v, hv⟩ := some_of_lt hin
    have hG2 := hG.out
    rw [hv] at hG2
    obtain ⟨g, off, rfl, c0, c1, c2⟩ := h.at_ hv
    obtain ⟨k, hk⟩ : ∃ k, u - 1 = k := ⟨_, rfl⟩
    rw [hk] at hG2 hin c0 c1 c2 hmx
    have hkI : (k : Int) < (l.length : Int) := by omega
    have HD := Lib.hid (And.intro c0 c2)
    obtain ⟨vt, vv, vh⟩ := v
    simp only [goneK] at hG2
    simp only at HD
    have HG := Lib.hid hG2
    clear hv c0 c1 c2 hG hG2 h hk
    generalize l.length = n at *
    cases vh
    · by_cases hvt : vt ≤ m
      · have hg := HG.out
        rw [if_pos ⟨rfl, hvt⟩] at hg
        rw [hg]
        have hd : decide (vt ≤ m) = true := by simpa using hvt
        clear hg HG hvt
        go_enter Try.func31, Try.ntmps31
        go_wp2_with (go_at_call 36; refine hu.out.mono ?_; rintro e w2 ⟨rfl, hN⟩; obtain ⟨q1, q2⟩ := HD.out; have d1 := new_cell hN q1; have d2 := new_cell hN q2; have HN := Lib.hid hN; clear hN q1 q2)
        go_ret
        exact ⟨rfl, HN.out⟩
      · have hg := HG.out
        rw [if_neg (fun e => hvt e.2)] at hg
        rw [hg]
        have hd : decide (vt ≤ m) = false := by simpa using hvt
        clear hg HG hvt
        go_enter Try.func31, Try.ntmps31
        go_wp2_with (go_at_call 36; refine hu.out.mono ?_; rintro e w2 ⟨rfl, hN⟩; obtain ⟨q1, q2⟩ := HD.out; have d1 := new_cell hN q1; have d2 := new_cell hN q2; have HN := Lib.hid hN; clear hN q1 q2)
        go_ret
        exact ⟨rfl, HN.out⟩
    · have hg := HG.out
      rw [if_neg (fun e => Bool.noConfusion e.1)] at hg
      rw [hg]
      clear hg HG
      go_enter Try.func31, Try.ntmps31
      go_wp2_with (go_at_call 36; refine hu.out.mono ?_; rintro e w2 ⟨rfl, hN⟩; obtain ⟨q1, q2⟩ := HD.out; have d1 := new_cell hN q1; have d2 := new_cell hN q2; have HN := Lib.hid hN; clear hN q1 q2)
      go_ret
      exact ⟨rfl, HN.out⟩
  · have hG2 := hG.out
    rw [List.getElem?_eq_none (by omega)] at hG2
    simp only [goneK] at hG2
    rw [hG2]
    obtain ⟨k, hk⟩ : ∃ k, u - 1 = k := ⟨_, rfl⟩
    rw [hk] at hin hmx ⊢
    have hkI : decide ((k : Int) < (l.length : Int)) = false := by simp; omega
    have hkN : decide (k < l.length) = false := by simp; omega
    clear hG hG2 h hk hin
    generalize l.length = n at *
    go_enter Try.func31, Try.ntmps31
    go_wp2_with (go_at_call 36; refine hu.out.mono ?_; rintro e w2 ⟨rfl, hN⟩; have HN := Lib.hid hN; clear hN)
    go_ret
    exact ⟨rfl, HN.out⟩
end Go.Proofs.Ytfcdplfnhjbdnaa
