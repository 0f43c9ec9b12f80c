/- serial: after: what the map has behind a deed, and whether it told that. -/
import Derived.Test.YtbggadhaaphmcaaDoorZp
import Derived.Test.YtbggadhaaphmcaaDoorKc
namespace Go.Proofs.YtbggadhaaphmcaaDoor
open Go.Lib Go.RowKit
set_option linter.unusedVariables false

def AfterP (w : World) (m : Nat) (d : DeedD) (f : Has) (e : Ending) (w' : World) : Prop :=
  ∃ (A' : Option Addr) (c' : Nat) (M : Wl), e = .returned (.tuple #[.slice A' M.length c', .bool (tellB d f)]) ∧ Wrs w' A' M.length M ∧ SortedW M (runF f d.plan) ∧ M.length ≤ m + 16 ∧ NewW w w'
set_option maxRecDepth 100000 in
set_option maxHeartbeats 8000000 in
theorem after_any {w : World} {sb n c : Nat} {A : Option Addr} {dm : Value} {l : Hist} (h : SrB w sb A n c dm l) {L : Wl} {B : Option Addr} {m q : Nat} {f : Has} (hL : Wrs w B m L) (hS : SortedW L f) (hF : FitF f) (hm : m ≤ 1000) (hE : Env w)
    {i : Nat} (hi : i < n) (hr : ∀ d ∈ l, d.res.length ≤ 1000) :
    Calls Tryd.prog 71 #[.pointer (some ⟨sb, 0, none⟩), .slice B m q, .int .i64 i] w (AfterP w m (l.get i) f) := by
  have HL := Lib.hid h.dd.1
  obtain ⟨d, hd⟩ := some_of_lt (show i < l.length by rw [HL.out]; exact hi)
  rw [Hist.get_of hd]
  have hdr := hr d (mem_of_some hd)
  obtain ⟨M, hM, hMl⟩ := run_list hS d.plan
  rw [hL.1] at hMl
  have HMS := Lib.hid hM
  have HML := Lib.hid hMl
  have HON := Lib.hid (on_any (c := q) hL hS (hF.row hS) hm hE)
  have HFF := Lib.hid hF
  have HE := Lib.hid hE
  have H := Lib.hid h
  have HD := Lib.hid hd
  have hiI : (i : Int) < (n : Int) := by omega
  have hi0 : decide ((i : Int) < 0) = false := by simp
  have hi1 : decide ((n : Int) ≤ (i : Int)) = false := by simp; omega
  clear hL hS hF hE h hd hM hMl hr
  go_enter Tryd.func71, Tryd.ntmps71
  go_wp2_with fail
  refine HON.out.mono ?_
  rintro e w2 ⟨rfl, hk, hN⟩
  dsimp only
  obtain ⟨pb, hpb⟩ : ∃ pb, w.heap.size + 1 = pb := ⟨_, rfl⟩
  rw [hpb] at hk
  simp only [hpb]
  have HK2 := Lib.hid hk
  have hs2 := H.out.new_ hN
  have c0 := hs2.blk.cell 0
  obtain ⟨b, off, rfl, hat⟩ := hs2.dd.at_ HD.out
  have x0 := hat.c0
  have x1 := hat.c1
  obtain ⟨A2, c2, x2, hO⟩ := hat.c2
  obtain ⟨A3, c3, x3, hP⟩ := hat.c3
  have x4 := hat.c4
  obtain ⟨fr, tt, plan, res, op⟩ := d
  dsimp only at x0 x1 x2 x3 x4 hO hP hdr
  have hA1 := (Ch.refl (fun _ => False) w2).alloc (.cells #[.int .i64 fr, .int .i64 tt, .slice A2 plan.length c2, .slice A3 res.length c3, .bool op] 89)
  have HK3 := Lib.hid (hk.new_ hA1)
  have HRU := Lib.hid (run_c (c := c2) (hk.new_ hA1) (by omega) (HE.out.below (hk.new_ hA1).below) HFF.out.sm (hO.new_ hA1) rfl rfl rfl)
  have HPP := Lib.hid (hP.new_ hA1)
  have HLB := Lib.hid (Blk.new w2 89 #[.int .i64 fr, .int .i64 tt, .slice A2 plan.length c2, .slice A3 res.length c3, .bool op])
  clear hk hN hs2 hat hO hP hA1 HON hpb HK2
  go_wp2_with fail
  obtain ⟨lb, hlb⟩ : ∃ lb, w2.heap.size = lb := ⟨_, rfl⟩
  rw [hlb] at HLB
  try simp only [hlb]
  generalize w2.alloc (.cells #[.int .i64 fr, .int .i64 tt, .slice A2 plan.length c2, .slice A3 res.length c3, .bool op] 89) = w3 at *
  clear hlb x0 x1 x2 x3 x4 c0
  refine HRU.out.mono ?_
  rintro e w4 ⟨A4, c4, rfl, hr, hkm, hc⟩
  dsimp only
  obtain ⟨mb, hmb⟩ := HK3.out.mblk'
  have HLB4 := Lib.hid (HLB.out.ch hc (fun e => Blk.ne_ HLB.out hmb (by decide) e))
  have HR4 := Lib.hid (show Prs w4 A4 (runO f plan).length ((runO f plan).map prR) from Prs.of_res ⟨rfl, Rd.own hr⟩)
  have HP4 := Lib.hid (prs_pb HPP.out hmb hc)
  have HKM := Lib.hid hkm
  have HB4 := Lib.hid hkm.below
  have HBN := Lib.hid (fun w' (hc : Ch (fun _ => False) w4 w') => (show NewW w w' from ⟨hc.os.trans HB4.out.os, hc.tape.trans HB4.out.tape, hc.output.trans HB4.out.output, Nat.le_trans HB4.out.size hc.size, fun g hg _ => (hc.block g (Nat.lt_of_lt_of_le hg HB4.out.size) (fun h => h)).trans (HB4.out.block g hg)⟩))
  have z2 := HLB4.out.cell 2
  have z3 := HLB4.out.cell 3
  have z4 := HLB4.out.cell 4
  have HALL := Lib.hid (fun w' (hc : NewW w4 w') => all_same HKM.out (by omega) HMS.out hc)
  have HEQ := Lib.hid (fun w' (hc : NewW w4 w') => EqualR_any (c := c4) (d := c3) (HR4.out.new_ hc) (HP4.out.new_ hc) (by have := runO_le f plan; omega) (by omega))
  have HCL := Lib.hid (fun w' (hc : NewW w4 w') => (show w'.cell? ⟨lb, 3, none⟩ = some (.slice A3 res.length c3) ∧ w'.cell? ⟨lb, 4, none⟩ = some (.bool op) from ⟨by rw [(HLB4.out.ch hc (fun h => h)).cell]; rfl, by rw [(HLB4.out.ch hc (fun h => h)).cell]; rfl⟩))
  have HTE := Lib.hid (show tellB ⟨fr, tt, plan, res, op⟩ f = (op || decide ((runO f plan).map prR = res)) from rfl)
  generalize decide ((runO f plan).map prR = res) = EQ at *
  generalize (runO f plan).length = LO at *
  clear hr hkm hc hmb HRU HLB HPP HK3
  cases op
  · have z4 := HLB4.out.cell 4
    go_upto_region 4 with (fail)
    go_region_held3 (fun w' => w'.cell? ⟨lb, 3, none⟩ = some (.slice A3 res.length c3) ∧ w'.cell? ⟨lb, 4, none⟩ = some (.bool false))
      (exact HCL.out _ (show Ch (fun _ => False) w4 _ from by repeat (first | with_reducible exact hQb | with_reducible exact hQa | with_reducible exact Ch.refl _ _ | with_reducible refine Ch.drew ?_ | with_reducible refine Ch.drewN ?_ _ | with_reducible refine Ch.alloc ?_ _)))
      (first
        | (go_at_call 22; refine (HALL.out _ (show Ch (fun _ => False) w4 _ from by repeat (first | with_reducible exact hQb | with_reducible exact hQa | with_reducible exact Ch.refl _ _ | with_reducible refine Ch.drew ?_ | with_reducible refine Ch.drewN ?_ _ | with_reducible refine Ch.alloc ?_ _))).mono ?_; rintro e wa ⟨Aa, ca, rfl, hWa, hNa⟩; have hQa : Ch (fun _ => False) w4 wa := Ch.trans' (show Ch (fun _ => False) w4 _ from by repeat (first | with_reducible exact hQb | with_reducible exact hQa | with_reducible exact Ch.refl _ _ | with_reducible refine Ch.drew ?_ | with_reducible refine Ch.drewN ?_ _ | with_reducible refine Ch.alloc ?_ _)) hNa)
        | (go_at_call 83; refine (HEQ.out _ (show Ch (fun _ => False) w4 _ from by repeat (first | with_reducible exact hQb | with_reducible exact hQa | with_reducible exact Ch.refl _ _ | with_reducible refine Ch.drew ?_ | with_reducible refine Ch.drewN ?_ _ | with_reducible refine Ch.alloc ?_ _))).mono ?_; rintro e wb ⟨rfl, hNb⟩; have hQb : Ch (fun _ => False) w4 wb := Ch.trans' (show Ch (fun _ => False) w4 _ from by repeat (first | with_reducible exact hQb | with_reducible exact hQa | with_reducible exact Ch.refl _ _ | with_reducible refine Ch.drew ?_ | with_reducible refine Ch.drewN ?_ _ | with_reducible refine Ch.alloc ?_ _)) hNb))
    all_goals
      go_wp2_with fail
      go_ret2
      exact ⟨Aa, ca, M, by rw [HTE.out]; rfl, hWa.new_ (by first | with_reducible exact hNb | exact Ch.trans' ((Ch.refl _ wa).drew) hNb), HMS.out, HML.out, HBN.out _ hQb⟩
  · have z4 := HLB4.out.cell 4
    go_upto_region 4 with (fail)
    refine wp_region_held_drew (S := (fun w' => w'.cell? ⟨lb, 4, none⟩ = some (.bool true))) (by kernel_rfl) (HCL.out _ ((Ch.refl _ w4).drew)).2 (fun hHeld => ?_)
    refine wpAnyH_take (i := 0) (v := ?_) rfl (by kernel_rfl) (by kernel_rfl) (by kernel_rfl) (fun _ _ _ h => h) (Or.inl ⟨by rfl, ?_⟩) (by assumption) ?_
    rotate_left 1
    · (intro w hSw; (try dsimp only at hSw); go_simp) <;> with_reducible rfl
    try simp only [Act.put, List.getElem_toArray, List.getElem_cons_zero, List.setIfInBounds_toArray, List.set_cons_zero, List.set_cons_succ]
    refine wpAnyH_take (i := 2) (v := ?_) rfl (by kernel_rfl) (by kernel_rfl) (by kernel_rfl) (fun _ _ _ h => h) (Or.inl ⟨by rfl, ?_⟩) (by assumption) ?_
    rotate_left 1
    · (intro w hSw; (try dsimp only at hSw); go_simp) <;> with_reducible rfl
    try simp only [Act.put, List.getElem_toArray, List.getElem_cons_zero, List.getElem_cons_succ, List.setIfInBounds_toArray, List.set_cons_zero, List.set_cons_succ]
    refine wpAnyH_take (i := 3) (v := ?_) rfl (by kernel_rfl) (by kernel_rfl) (by kernel_rfl) (fun _ _ _ h => h) (Or.inl ⟨by rfl, ?_⟩) (by assumption) ?_
    rotate_left 1
    · (intro w hSw; (try dsimp only at hSw); go_simp) <;> with_reducible rfl
    try simp only [Act.put, List.getElem_toArray, List.getElem_cons_zero, List.getElem_cons_succ, List.setIfInBounds_toArray, List.set_cons_zero, List.set_cons_succ]
    refine wpAnyH_ready (rs := [1]) (by kernel_rfl) (by simp) ?_
    refine AllReadyH.cons rfl (fun K hK => ?_) AllReadyH.nil
    go_simp
    go_at_call 22
    refine (HALL.out _ ((Ch.refl _ w4).drew)).mono ?_
    rintro e wa ⟨Aa, ca, rfl, hWa, hNa⟩
    have hQa : Ch (fun _ => False) w4 wa := Ch.trans' ((Ch.refl _ w4).drew) hNa
    dsimp only
    refine hK.out _ _ (HCL.out _ hQa).2 (fun hHeld6 => ?_)
    clear hK K hHeld
    try simp only [Act.put, List.getElem_toArray, List.getElem_cons_zero, List.getElem_cons_succ, List.setIfInBounds_toArray, List.set_cons_zero, List.set_cons_succ]
    refine wpAnyH_take (i := 4) (v := ?_) rfl (by kernel_rfl) (by kernel_rfl) (by kernel_rfl) (fun _ _ _ h => h) (Or.inl ⟨by rfl, ?_⟩) (by assumption) ?_
    rotate_left 1
    · (intro w hSw; (try dsimp only at hSw); go_simp) <;> with_reducible rfl
    try simp only [Act.put, List.getElem_toArray, List.getElem_cons_zero, List.getElem_cons_succ, List.setIfInBounds_toArray, List.set_cons_zero, List.set_cons_succ]
    refine wpAnyH_take (i := 5) (v := undef) rfl (by kernel_rfl) (by kernel_rfl) (by kernel_rfl) (fun _ _ _ h => h) (Or.inr ⟨by rfl, rfl⟩) (by assumption) ?_
    try simp only [Act.put, List.getElem_toArray, List.getElem_cons_zero, List.getElem_cons_succ, List.setIfInBounds_toArray, List.set_cons_zero, List.set_cons_succ]
    refine wpAnyH_take (i := 6) (v := undef) rfl (by kernel_rfl) (by kernel_rfl) (by kernel_rfl) (fun _ _ _ h => h) (Or.inr ⟨by rfl, rfl⟩) (by assumption) ?_
    try simp only [Act.put, List.getElem_toArray, List.getElem_cons_zero, List.getElem_cons_succ, List.setIfInBounds_toArray, List.set_cons_zero, List.set_cons_succ]
    refine wpAnyH_take (i := 7) (v := undef) rfl (by kernel_rfl) (by kernel_rfl) (by kernel_rfl) (fun _ _ _ h => h) (Or.inr ⟨by rfl, rfl⟩) (by assumption) ?_
    try simp only [Act.put, List.getElem_toArray, List.getElem_cons_zero, List.getElem_cons_succ, List.setIfInBounds_toArray, List.set_cons_zero, List.set_cons_succ]
    refine wpAnyH_take (i := 8) (v := undef) rfl (by kernel_rfl) (by kernel_rfl) (by kernel_rfl) (fun _ _ _ h => h) (Or.inr ⟨by rfl, rfl⟩) (by assumption) ?_
    try simp only [Act.put, List.getElem_toArray, List.getElem_cons_zero, List.getElem_cons_succ, List.setIfInBounds_toArray, List.set_cons_zero, List.set_cons_succ]
    refine wpAnyH_take (i := 9) (v := ?_) rfl (by kernel_rfl) (by kernel_rfl) (by kernel_rfl) (fun _ _ _ h => h) (Or.inl ⟨by rfl, ?_⟩) (by assumption) ?_
    rotate_left 1
    · (intro w hSw; (try dsimp only at hSw); go_simp) <;> with_reducible rfl
    try simp only [Act.put, List.getElem_toArray, List.getElem_cons_zero, List.getElem_cons_succ, List.setIfInBounds_toArray, List.set_cons_zero, List.set_cons_succ]
    refine wpAnyH_take (i := 10) (v := ?_) rfl (by kernel_rfl) (by kernel_rfl) (by kernel_rfl) (fun _ _ _ h => h) (Or.inl ⟨by rfl, ?_⟩) (by assumption) ?_
    rotate_left 1
    · (intro w hSw; (try dsimp only at hSw); go_simp) <;> with_reducible rfl
    try simp only [Act.put, List.getElem_toArray, List.getElem_cons_zero, List.getElem_cons_succ, List.setIfInBounds_toArray, List.set_cons_zero, List.set_cons_succ]
    refine wpAnyH_take (i := 11) (v := ?_) rfl (by kernel_rfl) (by kernel_rfl) (by kernel_rfl) (fun _ _ _ h => h) (Or.inl ⟨by rfl, ?_⟩) (by assumption) ?_
    rotate_left 1
    · (intro w hSw; (try dsimp only at hSw); go_simp) <;> with_reducible rfl
    try simp only [Act.put, List.getElem_toArray, List.getElem_cons_zero, List.getElem_cons_succ, List.setIfInBounds_toArray, List.set_cons_zero, List.set_cons_succ]
    refine wpAnyH_done (by kernel_rfl) ?_ _
    all_goals
      go_wp2_with fail
      go_ret2
      exact ⟨Aa, ca, M, by rw [HTE.out]; rfl, by first | exact hWa | exact hWa.new_ ((Ch.refl _ wa).drew), HMS.out, HML.out, HBN.out _ hQa⟩
end Go.Proofs.YtbggadhaaphmcaaDoor
