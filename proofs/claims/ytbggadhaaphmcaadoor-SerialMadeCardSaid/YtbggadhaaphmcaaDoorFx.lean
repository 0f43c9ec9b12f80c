/- fixed: the fixed calls of plans answer as the document fixes. -/
import Derived.Test.YtbggadhaaphmcaaDoorFp
namespace Go.Proofs.YtbggadhaaphmcaaDoor
open Go.RowKit
set_option linter.unusedVariables false

theorem run_nil (w : World) : Calls Tryd.prog 18 #[.pointer none, .slice none 0 0] w fun e w' => e = .returned (.tuple #[.slice none 0 0, .bool false]) ∧ w = w' := by
  go_enter Tryd.func18, Tryd.ntmps18
  go_wp2_with fail
  go_ret2
  exact ⟨rfl, rfl⟩
theorem mode_one (w : World) : Calls Tryd.prog 51 #[.agg #[.int .i64 1, .string ⟨#[]⟩, .string ⟨#[]⟩, .int .i64 0]] w fun e w' => e = .returned (.int .i64 1) ∧ NewW w w' := by
  have HW := Lib.hid (fun w' => writes_any ⟨1, emp, emp, 0⟩ w')
  rw [show wrB ⟨1, emp, emp, 0⟩ = false from rfl] at HW
  have hb := Blk.new w 41 #[.int .i64 1, .string ⟨#[]⟩, .string ⟨#[]⟩, .int .i64 0]
  have HB := Lib.hid hb
  have HN := Lib.hid ((Ch.refl (fun _ => False) w).alloc (.cells #[.int .i64 1, .string ⟨#[]⟩, .string ⟨#[]⟩, .int .i64 0] 41))
  clear hb
  go_enter Tryd.func51, Tryd.ntmps51
  go_wp2_with fail
  refine (HW.out _).mono ?_
  rintro e w2 ⟨rfl, hN⟩
  dsimp only
  have b0 := (HB.out.ch hN (fun h => h)).cell 0
  have HN2 := Lib.hid (HN.out.trans' hN)
  clear hN
  go_wp2_with fail
  go_ret
  exact ⟨rfl, HN2.out⟩
theorem ops_new (w : World) (l : List OpD) : Ops (w.alloc (.cells (flatO l).toArray 41)) (some ⟨w.heap.size, 0, none⟩) l.length l :=
  ⟨rfl, fun _ => ⟨w.heap.size, 0, rfl, by simp, fun i v hv => by
    rw [Nat.zero_add, (Blk.new w 41 (flatO l).toArray).cell]
    simpa using hv⟩⟩
theorem row_get {w : World} {B g n c : Nat} {xs : List Value} {i : Nat} {v : Value} (h : w.ownsRow B 45 2 (.slice (some ⟨g, 0, none⟩) n c) n xs) (hv : xs[i]? = some v) : w.cell? ⟨g, i, none⟩ = some v := by
  have := h.cells (g := g) rfl i v hv
  rwa [add_mk, Nat.zero_add] at this
theorem run_c {w0 w : World} {pb n m c : Nat} {f f' : Has} {A : Option Addr} {l : List OpD} {out : List Res} {gd : Bool} (h : KM w0 pb n f w) (hn : n ≤ 100000) (hE : Env w) (hs : Sm f) (hO : Ops w A m l) (h1 : runO f l = out) (h2 : runF f l = f') (h3 : goodB l = gd) :
    Calls Tryd.prog 18 #[.pointer (some ⟨pb, 0, none⟩), .slice A m c] w fun e w' => ∃ A' c', e = .returned (.tuple #[.slice A' out.length c', .bool gd]) ∧ w'.ownsRow w.heap.size 45 2 (.slice A' out.length c') out.length (flatR out) ∧ KM w0 pb (n + 16) f' w' ∧ Ch (fun g => g = pb) w w' := by
  subst h1 h2 h3
  exact (Run_any (c := c) h hn hE hs hO).mono fun e w' hR => by
    obtain ⟨⟨A', c', e1, hr⟩, hk, hc⟩ := hR
    exact ⟨A', c', e1, hr, hk, hc⟩
theorem sm_fa : Sm fa := by rw [← out1.2]; exact sm_run sm_zero p1
theorem sm_fb : Sm fb := by rw [← out3.2]; exact sm_run sm_fa p3
theorem own_pb {w w' : World} {pb B n : Nat} {v : Value} {xs : List Value} {cs : Array Value} (h : w.ownsRow B 45 2 v n xs) (hb : Blk w pb 94 cs) (hc : Ch (fun g => g = pb) w w') : w'.ownsRow B 45 2 v n xs :=
  own_ch h hc (fun g hg e => by subst e; exact own_blk_ne h hb (by decide) hg)
theorem KM.blk {w0 w : World} {pb n : Nat} {f : Has} (h : KM w0 pb n f w) : ∃ cs, Blk w pb 94 cs := by
  obtain ⟨mb, D, hm⟩ := h.pm
  exact ⟨_, hm.blk⟩
set_option maxRecDepth 100000 in
set_option maxHeartbeats 8000000 in
theorem fixed_any {w : World} (hE : Env w) : Calls Tryd.prog 13 #[] w fun e w' => e = .returned (.bool true) ∧ Below w.heap.size w w' := by
  have HE := Lib.hid hE
  have HNE := Lib.hid (km_new w w (Below.refl _ _))
  clear hE
  go_enter Tryd.func13, Tryd.ntmps13
  go_wp2_with fail
  refine HNE.out.mono ?_
  rintro e w1 ⟨rfl, hk, hN⟩
  dsimp only
  have HN1 := Lib.hid hN
  have HK1 := Lib.hid hk
  clear hk hN HNE
  generalize w.heap.size + 1 = pb at *
  -- the first run
  have HA1 := Lib.hid ((Ch.refl (fun _ => False) w1).alloc (.cells #[.int .i64 5, .string ⟨#[97]⟩, .string ⟨#[]⟩, .int .i64 5, .int .i64 5, .string ⟨#[97]⟩, .string ⟨#[]⟩, .int .i64 (-7)] 41))
  have HR1 := Lib.hid (run_c (c := 2) (HK1.out.new_ HA1.out) (by omega) (HE.out.new_ (HN1.out.trans' HA1.out)) sm_zero (show Ops _ (some ⟨w1.heap.size, 0, none⟩) 2 p1 from ops_new w1 p1) out1.1 out1.2 good1)
  go_wp2_with fail
  refine HR1.out.mono ?_
  rintro e w2 ⟨A1, c1, rfl, hr, hk, hc⟩
  dsimp only [List.length_cons, List.length_nil]
  obtain ⟨cs, hb1⟩ := (HK1.out.new_ HA1.out).blk
  have HK2 := Lib.hid hk
  have HO2 := Lib.hid hr
  have HE2 := Lib.hid (HE.out.below hk.below)
  clear hr hk hc hb1 HR1 HA1 HK1 HN1
  -- the second run
  have HA2 := Lib.hid ((Ch.refl (fun _ => False) w2).alloc (.cells #[.int .i64 3, .string ⟨#[97]⟩, .string ⟨#[]⟩, .int .i64 0, .int .i64 6, .string ⟨#[]⟩, .string ⟨#[]⟩, .int .i64 0] 41))
  have HR2 := Lib.hid (run_c (c := 2) (HK2.out.new_ HA2.out) (by omega) (HE2.out.new_ HA2.out) sm_fa (show Ops _ (some ⟨w2.heap.size, 0, none⟩) 2 p2 from ops_new w2 p2) out2.1 out2.2 good2)
  go_wp2_with fail
  refine HR2.out.mono ?_
  rintro e w3 ⟨A2, c2, rfl, hr, hk, hc⟩
  dsimp only [List.length_cons, List.length_nil]
  obtain ⟨cs, hb1⟩ := (HK2.out.new_ HA2.out).blk
  have HO3 := Lib.hid (own_pb (own_ch HO2.out HA2.out (fun _ _ h => h)) hb1 hc)
  have HK3 := Lib.hid hk
  have HE3 := Lib.hid (HE.out.below hk.below)
  have HG := Lib.hid (get_any (key := ka) hk (by decide))
  rw [get_fa, show vOf (some ⟨#[45, 50]⟩) = ⟨#[45, 50]⟩ from rfl, show hOf (some ⟨#[45, 50]⟩) = true from rfl] at HG
  clear hr hk hc hb1 HR2 HA2 HK2 HO2 HE2
  go_wp2_with fail
  refine HG.out.mono ?_
  rintro e w4 ⟨rfl, hN⟩
  dsimp only
  have HK4 := Lib.hid (HK3.out.new_ hN)
  have HO4 := Lib.hid (own_ch HO3.out hN (fun _ _ h => h))
  have HE4 := Lib.hid (HE3.out.new_ hN)
  clear hN HG HK3 HO3 HE3
  -- the third run
  have HA4 := Lib.hid ((Ch.refl (fun _ => False) w4).alloc (.cells #[.int .i64 1, .string ⟨#[97]⟩, .string ⟨#[]⟩, .int .i64 0, .int .i64 4, .string ⟨#[98]⟩, .string ⟨#[]⟩, .int .i64 0] 41))
  have HR4 := Lib.hid (run_c (c := 2) (HK4.out.new_ HA4.out) (by omega) (HE4.out.new_ HA4.out) sm_fa (show Ops _ (some ⟨w4.heap.size, 0, none⟩) 2 p3 from ops_new w4 p3) out3.1 out3.2 good3)
  go_wp2_with fail
  refine HR4.out.mono ?_
  rintro e w5 ⟨A3, c3, rfl, hr, hk, hc⟩
  dsimp only [List.length_cons, List.length_nil]
  obtain ⟨cs, hb1⟩ := (HK4.out.new_ HA4.out).blk
  have HO5 := Lib.hid (own_pb (own_ch HO4.out HA4.out (fun _ _ h => h)) hb1 hc)
  have HP5 := Lib.hid hr
  have HK5 := Lib.hid hk
  have HE5 := Lib.hid (HE.out.below hk.below)
  have HG := Lib.hid (get_any (key := kb) hk (by decide))
  rw [get_fb, show vOf (some ⟨#[45, 50]⟩) = ⟨#[45, 50]⟩ from rfl, show hOf (some ⟨#[45, 50]⟩) = true from rfl] at HG
  clear hr hk hc hb1 HR4 HA4 HK4 HO4 HE4
  go_wp2_with fail
  refine HG.out.mono ?_
  rintro e w6 ⟨rfl, hN⟩
  dsimp only
  have HK6 := Lib.hid (HK5.out.new_ hN)
  have HO6 := Lib.hid (own_ch HO5.out hN (fun _ _ h => h))
  have HP6 := Lib.hid (own_ch HP5.out hN (fun _ _ h => h))
  have HE6 := Lib.hid (HE5.out.new_ hN)
  clear hN HG HK5 HO5 HP5 HE5
  have HRN := Lib.hid (fun w' => run_nil w')
  obtain ⟨g1, q1, hv1, _, _⟩ := HO6.out.form (by decide)
  injection hv1 with hv1 _ hq1
  subst hv1 hq1
  obtain ⟨g2, q2, hv2, _, _⟩ := HP6.out.form (by decide)
  injection hv2 with hv2 _ hq2
  subst hv2 hq2
  have l0 : w6.cell? ⟨g1, 0, none⟩ = some (.string ⟨#[53]⟩) := row_get HO6.out (i := 0) rfl
  have l2 : w6.cell? ⟨g1, 2, none⟩ = some (.string ⟨#[45, 50]⟩) := row_get HO6.out (i := 2) rfl
  have m0 : w6.cell? ⟨g2, 0, none⟩ = some (.string ⟨#[45, 50]⟩) := row_get HP6.out (i := 0) rfl
  have m3 : w6.cell? ⟨g2, 3, none⟩ = some (.bool false) := row_get HP6.out (i := 3) rfl
  go_wp2_with fail
  refine (HRN.out _).mono ?_
  rintro e w7 ⟨rfl, rfl⟩
  dsimp only
  have HAL := Lib.hid (All_any HK6.out (by omega))
  go_wp2_with fail
  refine HAL.out.mono ?_
  rintro e w8 ⟨A8, c8, L, rfl, hS, _, _, hN⟩
  rw [all_fb hS]
  dsimp only
  have HK8 := Lib.hid (HK6.out.new_ hN)
  have HE8 := Lib.hid (HE6.out.new_ hN)
  have HN1 := Lib.hid (Number_any ⟨#[48, 48, 55]⟩ (by decide) HE8.out)
  rw [num_007] at HN1
  clear hS hN HAL l0 l2 m0 m3
  go_wp2_with fail
  refine HN1.out.mono ?_
  rintro e w9 ⟨rfl, hN⟩
  dsimp only
  have HK9 := Lib.hid (HK8.out.new_ hN)
  have HE9 := Lib.hid (HE8.out.new_ hN)
  have HN2 := Lib.hid (Number_any ⟨#[45, 49, 50]⟩ (by decide) HE9.out)
  rw [num_m12] at HN2
  clear hN HN1 HE8 HK8
  go_wp2_with fail
  refine HN2.out.mono ?_
  rintro e w10 ⟨rfl, hN⟩
  dsimp only
  have HK10 := Lib.hid (HK9.out.new_ hN)
  have HE10 := Lib.hid (HE9.out.new_ hN)
  have HT := Lib.hid (Text_any 30 (by decide) (by decide) HE10.out)
  rw [txt_30] at HT
  clear hN HN2 HE9 HK9
  go_wp2_with fail
  refine HT.out.mono ?_
  rintro e w11 ⟨rfl, hN⟩
  dsimp only
  have HK11 := Lib.hid (HK10.out.new_ hN)
  have HM := Lib.hid (mode_one w11)
  clear hN HT HK10 HE10
  go_wp2_with fail
  refine HM.out.mono ?_
  rintro e w12 ⟨rfl, hN⟩
  dsimp only
  have HK12 := Lib.hid (HK11.out.new_ hN)
  have HA12 := Lib.hid ((Ch.refl (fun _ => False) w12).alloc (.cells #[.int .i64 9, .string ⟨#[]⟩, .string ⟨#[]⟩, .int .i64 0] 41))
  have HRI := Lib.hid (Right_any (c := 1) (show Ops _ (some ⟨w12.heap.size, 0, none⟩) 1 [⟨9, emp, emp, 0⟩] from ops_new w12 [⟨9, emp, emp, 0⟩]))
  rw [show rightE [⟨9, emp, emp, 0⟩] = 1 from by decide] at HRI
  clear hN HM HK11
  go_wp2_with fail
  refine HRI.out.mono ?_
  rintro e w13 ⟨rfl, hN⟩
  dsimp only
  have HB := Lib.hid ((HK12.out.new_ (HA12.out.trans' hN)).below)
  clear hN HRI
  go_wp2_with fail
  go_ret
  exact ⟨rfl, HB.out⟩
end Go.Proofs.YtbggadhaaphmcaaDoor
