/- serial: on: a map that has these writes. -/
import Derived.Test.YtbggadhaaphmcaaDoorZg
import Derived.Test.YtbggadhaaphmcaaDoorFx
import Derived.Test.YtbggadhaaphmcaaDoorRg
namespace Go.Proofs.YtbggadhaaphmcaaDoor
open Go.Lib Go.RowKit
set_option linter.unusedVariables false

def putAll (l : Wl) : Has := l.foldl (fun f w => putF f w.1.data.toList (some w.2)) none0
theorem putAll_snoc (l : Wl) (w : ByteArray × ByteArray) : putAll (l ++ [w]) = putF (putAll l) w.1.data.toList (some w.2) := by simp [putAll]
theorem putAll_sorted : ∀ (r : Wl), r.reverse.Pairwise (fun a b => kOf a < kOf b) → SortedW r.reverse (putAll r.reverse)
  | [], _ => sorted_nil
  | x :: r, h => by
    rw [List.reverse_cons] at h ⊢
    obtain ⟨h1, _, h3⟩ := List.pairwise_append.1 h
    have ih := putAll_sorted r h1
    refine ⟨h, fun k v => ?_⟩
    rw [putAll_snoc]
    unfold putF
    have hlt : ∀ a ∈ r.reverse, kOf a < kOf x := fun a ha => h3 a ha x (by simp)
    by_cases e : k.data.toList = x.1.data.toList
    · rw [if_pos e]
      constructor
      · intro hm
        rcases List.mem_append.1 hm with hm | hm
        · have := hlt _ hm
          unfold kOf at this
          rw [e] at this
          exact absurd this (List.lt_irrefl _)
        · simp only [List.mem_singleton] at hm
          rw [← hm]
      · intro hs
        injection hs with hs
        have hk := key_inj e
        exact List.mem_append.2 (.inr (by simp [hk, ← hs]))
    · rw [if_neg e, ← ih.2 k v]
      constructor
      · intro hm
        rcases List.mem_append.1 hm with hm | hm
        · exact hm
        · simp only [List.mem_singleton] at hm
          rw [← hm] at e
          exact absurd rfl e
      · intro hm
        exact List.mem_append.2 (.inl hm)
theorem putAll_is {L : Wl} {f : Has} (h : SortedW L f) : putAll L = f := by
  have := putAll_sorted L.reverse (by rw [List.reverse_reverse]; exact h.1)
  rw [List.reverse_reverse] at this
  exact sorted_same this h
theorem putAll_take {L : Wl} {k : Nat} {w : ByteArray × ByteArray} (h : L[k]? = some w) : putAll (L.take (k + 1)) = putF (putAll (L.take k)) w.1.data.toList (some w.2) := by
  have hk := lt_of_some h
  rw [List.take_succ_eq_append_getElem hk]
  rw [List.getElem?_eq_getElem hk] at h
  injection h with h
  rw [h, putAll_snoc]
/-- Keys and values that a plan may write. -/
def FitW (L : Wl) : Prop := ∀ w ∈ L, 0 < w.1.size ∧ w.1.size ≤ 16 ∧ w.2.size ≤ 32
theorem FitW.low {L : Wl} (h : FitW L) : LowW L := fun w hw => by have := h w hw; omega
def putO (w : ByteArray × ByteArray) : OpD := ⟨2, w.1, w.2, 0⟩
theorem put_good {w : ByteArray × ByteArray} (h : 0 < w.1.size ∧ w.1.size ≤ 16 ∧ w.2.size ≤ 32) : goodB [putO w] = true := by
  refine good_all ?_ (fun o ho => ?_)
  · unfold rightE
    have h1 : decide (w.2.size ≤ 32) = true := by simpa using h.2.2
    have h2 : decide (0 < w.1.size) = true := by simpa using h.1
    have h3 : decide (w.1.size ≤ 16) = true := by simpa using h.2.1
    have : okB (putO w) = true := by
      unfold okB putO
      simp only [h1, h2, h3]
      rfl
    rw [if_neg (by simp), if_pos (by simp [this])]
  · simp only [List.mem_singleton] at ho
    subst ho
    show (2 : Int) ≠ 6
    decide
theorem put_run {w : ByteArray × ByteArray} (h : 0 < w.1.size ∧ w.1.size ≤ 16 ∧ w.2.size ≤ 32) (f : Has) : runF f [putO w] = putF f w.1.data.toList (some w.2) := by
  rw [(run_good (put_good h)).2]
  show (stepS ⟨f, none, []⟩ (putO w)).f = _
  unfold stepS
  rw [show wrB (putO w) = true from rfl, if_pos rfl]
  rfl
theorem Wrs.below {w w0 : World} {A : Option Addr} {n : Nat} {l : Wl} (h : Wrs w0 A n l) (hb : Below w0.heap.size w0 w) : Wrs w A n l := ⟨h.1, h.2.below hb⟩
set_option maxRecDepth 100000 in
set_option maxHeartbeats 4000000 in
theorem on_any {w : World} {A : Option Addr} {n c : Nat} {L : Wl} {f : Has} (hL : Wrs w A n L) (hS : SortedW L f) (hF : FitW L) (hn : n ≤ 1000) (hE : Env w) :
    Calls Tryd.prog 82 #[.slice A n c] w fun e w' => e = .returned (.pointer (some ⟨w.heap.size + 1, 0, none⟩)) ∧ KM w (w.heap.size + 1) (16 * n) f w' ∧ NewW w w' := by
  have HW := Lib.hid hL
  have HL := Lib.hid hL.1
  have HS := Lib.hid hS
  have HF := Lib.hid hF
  have HE := Lib.hid hE
  have hnI : (n : Int) ≤ 1000 := by omega
  have HNE := Lib.hid (km_new w w (Below.refl _ _))
  clear hL hS hF hE
  go_enter Tryd.func82, Tryd.ntmps82
  go_wp2_with fail
  refine HNE.out.mono ?_
  rintro e w1 ⟨rfl, hk, hN⟩
  dsimp only
  have HK1 := Lib.hid hk
  obtain ⟨pb, hpb⟩ : ∃ pb, w.heap.size + 1 = pb := ⟨_, rfl⟩
  rw [hpb] at HK1
  simp only [hpb]
  have HPB := Lib.hid hpb
  clear hk hN HNE hpb
  go_wp2_with fail
  go_loopw [9] (fun i wr => ∃ k : Nat, k ≤ n ∧ i = .int .i64 k ∧ KM w pb (16 * k) (putAll (L.take k)) wr ∧ Sm (putAll (L.take k))) (fun i _ => n - (intOf i).toNat)
  case atStart => exact ⟨0, by omega, rfl, HK1.out, sm_zero⟩
  case round =>
    obtain ⟨k, hk, rfl, hKM, hsm⟩ := hrel
    have HK := Lib.hid hKM
    have HSM := Lib.hid hsm
    clear hKM hsm
    by_cases hlt : k < n
    · obtain ⟨x, hx⟩ := some_of_lt (show k < L.length by rw [HL.out]; exact hlt)
      obtain ⟨b, off, rfl, x0, x1, x2⟩ := (HW.out.below HK.out.below).at_ hx
      have hfx := HF.out x (mem_of_some hx)
      have HT := Lib.hid (putAll_take hx)
      have HPR := Lib.hid (put_run hfx (putAll (L.take k)))
      have HGD := Lib.hid (put_good hfx)
      obtain ⟨key, val⟩ := x
      dsimp only at x0 x1 x2 hfx
      have hA1 := (Ch.refl (fun _ => False) wr).alloc (.cells #[.string key, .string val, .bool true] 101)
      have hA2 := hA1.alloc (.cells #[.int .i64 2, .string key, .string val, .int .i64 0] 41)
      have HRU := Lib.hid (run_c (c := 1) (HK.out.new_ hA2) (by omega) (HE.out.below (HK.out.new_ hA2).below) HSM.out (show Ops _ (some ⟨(wr.alloc (.cells #[.string key, .string val, .bool true] 101)).heap.size, 0, none⟩) 1 [putO (key, val)] from ops_new (wr.alloc (.cells #[.string key, .string val, .bool true] 101)) [putO (key, val)]) rfl HPR.out HGD.out)
      rw [World.size_alloc] at HRU
      have HSN := Lib.hid (show Sm (putAll (L.take (k + 1))) by
        rw [HT.out, ← HPR.out]
        exact sm_run HSM.out _)
      clear hx hfx hA1 hA2
      dsimp only at HT
      go_wp2_with fail
      refine HRU.out.mono ?_
      rintro e w6 ⟨A', c', rfl, hr, hkm, hc⟩
      dsimp only
      have HK6 := Lib.hid (show KM w pb (16 * (k + 1)) (putAll (L.take (k + 1))) w6 from by rw [HT.out]; exact hkm)
      clear hr hkm hc HRU HK
      go_wp2_with fail
      exact ⟨⟨k + 1, by omega, by go_num, HK6.out, HSN.out⟩, by simp [intOf]; omega⟩
    · obtain rfl : n = k := by omega
      have ht : L.take n = L := by rw [← HL.out, List.take_length]
      rw [ht, putAll_is HS.out] at HK
      clear hlt hk ht
      go_wp2_with fail
      go_ret
      rw [HPB.out]
      exact ⟨rfl, HK.out, (HK.out.below : Below w.heap.size w wr).os, HK.out.below.tape, HK.out.below.output, HK.out.below.size, fun g hg _ => HK.out.below.block g hg⟩
end Go.Proofs.YtbggadhaaphmcaaDoor
