/- serial: Replay. -/
import Derived.Test.YtbggadhaaphmcaaDoorZy
namespace Go.Proofs.YtbggadhaaphmcaaDoor
open Go.Lib Go.RowKit
set_option linter.unusedVariables false

/-- What the map has behind the first k plans. -/
noncomputable def fAt (ps : List (List OpD)) (k : Nat) : Has := (ps.take k).foldl runF none0
theorem fAt_succ {ps : List (List OpD)} {k : Nat} {p : List OpD} (h : ps[k]? = some p) : fAt ps (k + 1) = runF (fAt ps k) p := by
  have hk := lt_of_some h
  unfold fAt
  rw [List.take_succ_eq_append_getElem hk, List.foldl_append]
  rw [List.getElem?_eq_getElem hk] at h
  injection h with h
  rw [h]
  rfl
theorem fAt_sm (ps : List (List OpD)) : ∀ k, Sm (fAt ps k) := by
  intro k
  unfold fAt
  have key : ∀ (l : List (List OpD)) (f : Has), Sm f → Sm (l.foldl runF f) := by
    intro l
    induction l with
    | nil => intro f h; exact h
    | cons p r ih => intro f h; exact ih _ (sm_run h p)
  exact key _ _ sm_zero
/-- The results so far, row by row. -/
structure ResL (w : World) (B : Nat) (ps : List (List OpD)) (k : Nat) (vals : List Value) : Prop where
  len : vals.length = k
  at_ : ∀ j p, j < k → ps[j]? = some p → ∃ (A : Option Addr) (c : Nat), vals[j]? = some (.slice A (runO (fAt ps j) p).length c) ∧ w.ownsRow B 45 2 (.slice A (runO (fAt ps j) p).length c) (runO (fAt ps j) p).length (flatR (runO (fAt ps j) p))
section
variable {w w' : World} {B k : Nat} {ps : List (List OpD)} {vals : List Value}
theorem ResL.ch {S : Nat → Prop} (h : ResL w B ps k vals) (hc : Ch S w w') (hS : ∀ g cs, Blk w g 45 cs → ¬ S g) : ResL w' B ps k vals :=
  ⟨h.len, fun j p hj hp => by
    obtain ⟨A, c, h1, h2⟩ := h.at_ j p hj hp
    refine ⟨A, c, h1, own_ch h2 hc fun g hg => ?_⟩
    rcases h2.2 with ⟨e, _⟩ | ⟨g', cap, cur, e, _, hh, _⟩
    · rw [e] at hg; simp [Value.ownBlock] at hg
    · rw [e] at hg
      have : g' = g := by simpa [Value.ownBlock] using hg
      subst this
      exact hS g' cur hh⟩
theorem ResL.new_ (h : ResL w B ps k vals) (hc : NewW w w') : ResL w' B ps k vals := h.ch hc (fun _ _ _ h => h)
theorem ResL.snoc (h : ResL w B ps k vals) {p : List OpD} (hp : ps[k]? = some p) {A : Option Addr} {c : Nat} (hr : w.ownsRow B 45 2 (.slice A (runO (fAt ps k) p).length c) (runO (fAt ps k) p).length (flatR (runO (fAt ps k) p))) : ResL w B ps (k + 1) (vals ++ [.slice A (runO (fAt ps k) p).length c]) := by
  refine ⟨by simp [h.len], fun j p' hj hp' => ?_⟩
  by_cases e : j = k
  · subst e
    rw [hp] at hp'
    injection hp' with hp'
    subst hp'
    exact ⟨A, c, by rw [List.getElem?_append_right (by rw [h.len]; omega), h.len]; simp, hr⟩
  · obtain ⟨A', c', h1, h2⟩ := h.at_ j p' (by omega) hp'
    exact ⟨A', c', by rw [List.getElem?_append_left (by rw [h.len]; omega)]; exact h1, h2⟩
end
theorem ress_info : (Tryd.prog.info? 34).map (fun i => (i.zero, i.size, i.bytes)) = some (some (.slice none 0 0), 1, 24) := by kernel_rfl
def ReplayP (w : World) (n : Nat) (ps : List (List OpD)) (e : Ending) (w' : World) : Prop :=
  ∃ (A1 A2 : Option Addr) (c1 c2 : Nat) (vals : List Value) (M : Wl), e = .returned (.tuple #[.slice A1 n c1, .slice A2 M.length c2]) ∧ w'.ownsRow w.heap.size 34 1 (.slice A1 n c1) n vals ∧ ResL w' w.heap.size ps n vals ∧ SortedW M (fAt ps n) ∧ Wrs w' A2 M.length M ∧ M.length ≤ 16 * n ∧ NewW w w'
set_option maxRecDepth 100000 in
set_option maxHeartbeats 8000000 in
theorem Replay_any {w : World} {A : Option Addr} {n c : Nat} {ps : List (List OpD)} (hP : Plans w A n ps) (hn : n ≤ 1000) (hE : Env w) :
    Calls Tryd.prog 50 #[.slice A n c] w (ReplayP w n ps) := by
  have H := Lib.hid hP
  have HL := Lib.hid hP.1
  have HE := Lib.hid hE
  have hnI : (n : Int) ≤ 1000 := by omega
  have HNE := Lib.hid (km_new w w (Below.refl _ _))
  obtain ⟨i1, hi1, hy0, hy1, hy2⟩ := info_parts ress_info
  clear hP hE
  go_enter Tryd.func50, Tryd.ntmps50
  go_wp2_with fail
  refine HNE.out.mono ?_
  rintro e w1 ⟨rfl, hk, hN⟩
  dsimp only
  have HK1 := Lib.hid hk
  obtain ⟨pb, hpb⟩ : ∃ pb, w.heap.size + 1 = pb := ⟨_, rfl⟩
  rw [hpb] at HK1
  simp only [hpb]
  clear hk hN HNE hpb
  go_wp2_with fail
  go_loopw [5, 13] (fun ov i wr => ∃ (k : Nat) (vals : List Value), k ≤ n ∧ i = .int .i64 k ∧ KM w pb (16 * k) (fAt ps k) wr ∧ wr.ownsRow w.heap.size 34 1 ov k vals ∧ ResL wr w.heap.size ps k vals) (fun _ i _ => n - (intOf i).toNat)
  case atStart => exact ⟨0, [], by omega, rfl, HK1.out, own_nil, ⟨rfl, fun j p hj => absurd hj (by omega)⟩⟩
  case round =>
    obtain ⟨k, vals, hk, rfl, hKM, hO, hR⟩ := hrel
    obtain ⟨A7, q7, rfl⟩ := own_form hO
    have HK := Lib.hid hKM
    have HO := Lib.hid hO
    have HR := Lib.hid hR
    clear hKM hO hR
    by_cases hlt : k < n
    · obtain ⟨p, hp⟩ := some_of_lt (show k < ps.length by rw [HL.out]; exact hlt)
      obtain ⟨b, off, rfl, ⟨A2, c2, x0, hOp⟩, hpl⟩ := (H.out.below HK.out.below).at_ hp
      have HRU := Lib.hid (run_c (c := c2) HK.out (by omega) (HE.out.below HK.out.below) (fAt_sm ps k) hOp rfl rfl rfl)
      have HF := Lib.hid (fAt_succ hp)
      have HP := Lib.hid hp
      generalize hLP : p.length = LP at *
      clear hp hOp hpl hLP
      go_wp2_with fail
      refine HRU.out.mono ?_
      rintro e w6 ⟨A6, c6, rfl, hr, hkm, hc⟩
      dsimp only
      obtain ⟨mb, hmb⟩ := HK.out.mblk'
      have hwB : w.heap.size ≤ wr.heap.size := HK.out.below.size
      have HO6 := Lib.hid (own_ch HO.out hc (fun g hg e => by subst e; exact own_blk_ne HO.out hmb (by decide) hg))
      have HR6 := Lib.hid (HR.out.ch hc (fun g cs hb e => by
        subst e
        exact Blk.ne_ hb hmb (by decide) rfl))
      have HS6 := Lib.hid ((HR6.out).snoc HP.out (own_mono hr hwB))
      have HK6 := Lib.hid (show KM w pb (16 * (k + 1)) (fAt ps (k + 1)) w6 from by rw [HF.out]; exact hkm)
      generalize (runO (fAt ps k) p).length = LO at *
      have HN6 := Lib.hid ((Ch.refl (fun _ => False) w6).alloc (.cells #[.slice A6 LO c6] 34))
      have HOW := Lib.hid (own_ch HO6.out HN6.out (fun _ _ h => h))
      have HB6 := Lib.hid (show w.heap.size ≤ (w6.alloc (.cells #[.slice A6 LO c6] 34)).heap.size from by have := hc.size; simp; omega)
      have HRD := Lib.hid (reads_one w6 34 (.slice A6 LO c6))
      have HFIN := Lib.hid (fun (v8 : Value) (w8 : World) (ho : w8.ownsRow w.heap.size 34 1 v8 (k + 1) (vals ++ [.slice A6 LO c6])) (hg : (w6.alloc (.cells #[.slice A6 LO c6] 34)).grownBy w8 (Value.slice A7 k q7).ownBlock) =>
        (show KM w pb (16 * (k + 1)) (fAt ps (k + 1)) w8 ∧ ResL w8 w.heap.size ps (k + 1) (vals ++ [.slice A6 LO c6]) from by
          have hnb : ∀ g, (Value.slice A7 k q7).ownBlock = some g → ∃ cs, Blk (w6.alloc (.cells #[.slice A6 LO c6] 34)) g 34 cs := fun g hg => by
            rcases HOW.out.2 with ⟨e, _⟩ | ⟨g', cap, cur, e, _, hh, _⟩
            · rw [e] at hg; simp [Value.ownBlock] at hg
            · rw [e] at hg
              have : g' = g := by simpa [Value.ownBlock] using hg
              subst this
              exact ⟨cur, hh⟩
          have hch := Ch.of_grown hg
          refine ⟨?_, (HS6.out.new_ HN6.out).ch hch (fun g cs hb e => ?_)⟩
          · have hk6 := HK6.out.new_ HN6.out
            obtain ⟨mb6, hmb6⟩ := hk6.mblk'
            refine hk6.ch hch (fun g e => ?_) (fun e => ?_) (fun g es cl hm e => ?_)
            · have := (own_lt HOW.out e).1
              exact this
            · obtain ⟨cs, hb⟩ := hnb _ e
              exact Blk.ne_ hb hmb6 (by decide) rfl
            · obtain ⟨cs, hb⟩ := hnb _ e
              unfold Blk at hb
              rw [hm] at hb
              cases hb
          · obtain ⟨cs', hb'⟩ := hnb _ e
            exact Blk.ne_ hb hb' (by decide) rfl))
      clear hr hkm hc hmb HRU HK HO HR HO6 HR6 HS6 HK6
      go_wp2_with (first
        | (at_builtin
           refine wpList_append_any _ rfl (.tmp 23) (.tmp 25) _ rfl w.heap.size 34 i1 _ 1 24 Tryd.underlying85 hi1 hy0 hy1 hy2 rfl (by omega) _ k vals rfl
             HOW.out (w6.heap.size + 1) (some ⟨w6.heap.size, 0, none⟩) 1 1 [.slice A6 LO c6] rfl HRD.out (by simp [Value.oneCell']) (by simp only [maxLen]; omega) (by omega) HB6.out ?_
           intro v8 w8 hown8 hg8 hat8
           have HO8 := Lib.hid hown8
           have HF8 := Lib.hid (HFIN.out v8 w8 hown8 hg8)
           clear hown8 hg8 hat8))
      exact ⟨⟨k + 1, _, by omega, by go_num, HF8.out.1, HO8.out, HF8.out.2⟩, by simp [intOf]; omega⟩
    · obtain rfl : n = k := by omega
      have HAL := Lib.hid (All_any HK.out (by omega))
      clear hlt hk
      go_wp2_with fail
      refine HAL.out.mono ?_
      rintro e w6 ⟨A6, c6, M, rfl, hsm, hml, hrow, hN⟩
      dsimp only
      have HFIN := Lib.hid (show ReplayP w n ps (.returned (.tuple #[.slice A7 n q7, .slice A6 M.length c6])) w6 from
        ⟨A7, A6, q7, c6, vals, M, rfl, own_ch HO.out hN (fun _ _ h => h), HR.out.new_ hN, hsm, ⟨rfl, Rd.own hrow⟩, hml, by
          have hb := (HK.out.new_ hN).below
          exact ⟨hb.os, hb.tape, hb.output, hb.size, fun g hg _ => hb.block g hg⟩⟩)
      generalize M.length = LM at *
      clear hsm hml hrow hN HAL
      go_wp2_with fail
      go_ret2
      exact HFIN.out
end Go.Proofs.YtbggadhaaphmcaaDoor
