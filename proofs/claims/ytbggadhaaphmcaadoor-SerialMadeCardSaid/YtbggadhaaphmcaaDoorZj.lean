/- serial: the fixed calls, walked. -/
import Derived.Test.YtbggadhaaphmcaaDoorZz
namespace Go.Proofs.YtbggadhaaphmcaaDoor
open Go.Lib Go.RowKit
set_option linter.unusedVariables false
def dc (k : Nat) (f : Int) : Array Value := #[.int .i64 0, .int .i64 1, .slice (some ⟨k, 0, none⟩) 1 1, .slice (some ⟨k + 1, 0, none⟩) 1 1, .bool false, .int .i64 f, .int .i64 3, .slice (some ⟨k + 1 + 1 + 1, 0, none⟩) 1 1, .slice (some ⟨k + 1 + 1 + 1 + 1, 0, none⟩) 1 1, .bool false]
theorem nw_ (w : World) (o : Obj) : NewW w (w.alloc o) := (Ch.refl (fun _ => False) w).alloc o
theorem check_step {w : World} {k : Nat} {a b : Int} {r : Bool} (H : FxS w k 1) (hE : Env w) (hr : checkO H2 [a, b] = r) :
    Calls Tryd.prog 47 #[.slice (some ⟨w.heap.size, 0, none⟩) 2 2, .slice (some ⟨w.heap.size + 1, 0, none⟩) 2 2]
      ((w.alloc (.cells #[.int .i64 0, .int .i64 1, .slice (some ⟨k, 0, none⟩) 1 1, .slice (some ⟨k + 1, 0, none⟩) 1 1, .bool false, .int .i64 1, .int .i64 3, .slice (some ⟨k + 1 + 1 + 1, 0, none⟩) 1 1, .slice (some ⟨k + 1 + 1 + 1 + 1, 0, none⟩) 1 1, .bool false] 89)).alloc (.cells #[.int .i64 a, .int .i64 b] 3))
      fun e w' => e = .returned (.tuple #[.bool r, .int .i64 0]) ∧ NewW w w' := by
  have n1 := nw_ w (.cells (dc k 1) 89)
  have n2 := nw_ (w.alloc (.cells (dc k 1) 89)) (.cells #[.int .i64 a, .int .i64 b] 3)
  have hd := (deeds2 H rfl).new_ n2
  have ho := nums2 (w := w.alloc (.cells (dc k 1) 89)) (w1 := w) (h := w.heap.size + 1) a b (by simp)
  have hn := n1.trans' n2
  exact (check_c (c := 2) (c2 := 2) hd (res_small 1) ho (by decide) (hE.new_ hn) hr h2r).mono fun e w' h => ⟨h.1, hn.trans' h.2⟩
set_option maxRecDepth 100000 in
set_option maxHeartbeats 8000000 in
theorem fixedS_any {w : World} (hE : Env w) : Calls Tryd.prog 41 #[] w fun e w' => e = .returned (.bool true) ∧ Below w.heap.size w w' := by
  have HE := Lib.hid hE
  have hms := mk_ress
  obtain ⟨w6, hw6, hs6, hN6, hF6⟩ := fx_start w
  have HW6 := Lib.hid hw6
  have HN6 := Lib.hid hN6
  have HF6 := Lib.hid hF6
  have HS6 := Lib.hid hs6
  clear hE hw6 hs6 hN6 hF6
  go_enter Tryd.func41, Tryd.ntmps41
  go_wp2_with fail
  rw [HW6.out]
  have hdw := deeds2 HF6.out HS6.out
  have hnw := nw_ w6 (.cells (dc w.heap.size 2) 89)
  have HX1 := Lib.hid (expl_c (c := 2) hdw (res_small 2) (HE.out.new_ (HN6.out.trans' hnw)) expl1 h1r)
  have HN6a := Lib.hid (HN6.out.trans' hnw)
  have HF6a := Lib.hid (HF6.out.new_ hnw)
  clear hdw hnw
  refine HX1.out.mono ?_
  rintro e w7 ⟨A7, c7, rfl, _, hN⟩
  dsimp only [Option.getD, List.length_nil, Option.isSome]
  have HN7 := Lib.hid (HN6a.out.trans' hN)
  have HF7 := Lib.hid (HF6a.out.new_ hN)
  clear hN HX1 HN6a HF6a HW6 HS6
  obtain ⟨k, hk⟩ : ∃ k, w.heap.size = k := ⟨_, rfl⟩
  have HK := Lib.hid hk
  rw [hk] at HF7
  simp only [hk]
  clear hk HF6 HN6
  have g0 := HF7.out.blkG.cell 0
  have f0 := HF7.out.blkG.frozen 0
  have p0 := HF7.out.blkP.cell 0
  have p1 := HF7.out.blkP.cell 1
  have p2 := HF7.out.blkP.cell 2
  have p3 := HF7.out.blkP.cell 3
  have p4 := HF7.out.blkP.cell 4
  have g1 := HF7.out.blkG.cell 1
  have g2 := HF7.out.blkG.cell 2
  have g3 := HF7.out.blkG.cell 3
  have g4 := HF7.out.blkG.cell 4
  unfold rowPD at p0 p1 p2 p3 p4
  unfold rowGD at g0 g1 g2 g3 g4
  go_wp2_with fail
  obtain ⟨w8, hw8⟩ : ∃ w8, w7.setCell ⟨k + 1 + 1 + 1 + 1 + 1, 0, none⟩ (.int .i64 1) = w8 := ⟨_, rfl⟩
  have hF8 := HF7.out.set_ 1
  have hN8 : NewW w (w7.setCell ⟨k + 1 + 1 + 1 + 1 + 1, 0, none⟩ (.int .i64 1)) := HN7.out.setCell (.inr (by have := HK.out; dsimp only; omega)) _
  have hs8 : w8.heap.size = w7.heap.size := by rw [← hw8]; simp
  rw [hw8] at hF8 hN8
  rw [hw8]
  have HF8 := Lib.hid hF8
  have HN8 := Lib.hid hN8
  have HS8 := Lib.hid hs8
  clear hF8 hN8 hs8 hw8 g0 f0 p0 p1 p2 p3 p4 g1 g2 g3 g4 HF7 HN7
  have hn := nw_ w8 (.cells (dc k 1) 89)
  have HX2 := Lib.hid (expl_c (c := 2) (deeds2 HF8.out HS8.out) (res_small 1) (HE.out.new_ (HN8.out.trans' hn)) expl2 h2r)
  have HN8a := Lib.hid (HN8.out.trans' hn)
  have HF8a := Lib.hid (HF8.out.new_ hn)
  clear hn
  refine HX2.out.mono ?_
  rintro e w9 ⟨A9, c9, rfl, hO, hN⟩
  dsimp only [Option.getD, List.length_cons, List.length_nil, Option.isSome] at hO ⊢
  have HO9 := Lib.hid hO
  have HN9 := Lib.hid (HN8a.out.trans' hN)
  have HF9 := Lib.hid (HF8a.out.new_ hN)
  clear hO hN HX2 HN8a HF8a HF8 HN8 HS8
  have g0 := HF9.out.blkG.cell 0
  have p0 := HF9.out.blkP.cell 0
  have p1 := HF9.out.blkP.cell 1
  have p2 := HF9.out.blkP.cell 2
  have p3 := HF9.out.blkP.cell 3
  have p4 := HF9.out.blkP.cell 4
  have g1 := HF9.out.blkG.cell 1
  have g2 := HF9.out.blkG.cell 2
  have g3 := HF9.out.blkG.cell 3
  have g4 := HF9.out.blkG.cell 4
  unfold rowPD at p0 p1 p2 p3 p4
  unfold rowGD at g0 g1 g2 g3 g4
  go_wp2_with fail
  refine (check_step HF9.out (HE.out.new_ HN9.out) check1).mono ?_
  rintro e wa ⟨rfl, hN⟩
  dsimp only
  have HOa := Lib.hid (HO9.out.new_ hN)
  have HNa := Lib.hid (HN9.out.trans' hN)
  have HFa := Lib.hid (HF9.out.new_ hN)
  clear hN g0 p0 p1 p2 p3 p4 g1 g2 g3 g4 HF9 HN9 HO9
  have g0 := HFa.out.blkG.cell 0
  have p0 := HFa.out.blkP.cell 0
  have p1 := HFa.out.blkP.cell 1
  have p2 := HFa.out.blkP.cell 2
  have p3 := HFa.out.blkP.cell 3
  have p4 := HFa.out.blkP.cell 4
  have g1 := HFa.out.blkG.cell 1
  have g2 := HFa.out.blkG.cell 2
  have g3 := HFa.out.blkG.cell 3
  have g4 := HFa.out.blkG.cell 4
  unfold rowPD at p0 p1 p2 p3 p4
  unfold rowGD at g0 g1 g2 g3 g4
  go_wp2_with fail
  refine (check_step HFa.out (HE.out.new_ HNa.out) check2).mono ?_
  rintro e wb ⟨rfl, hN⟩
  dsimp only
  have HOb := Lib.hid (HOa.out.new_ hN)
  have HNb := Lib.hid (HNa.out.trans' hN)
  have HFb := Lib.hid (HFa.out.new_ hN)
  clear hN g0 p0 p1 p2 p3 p4 g1 g2 g3 g4 HFa HNa HOa
  have hn := nw_ wb (.cells #[.int .i64 1, .int .i64 0, .slice none 0 0, .slice none 0 0, .bool false] 89)
  have HX3 := Lib.hid (expl_c (c := 1) (deeds1 wb) res_small3 (HE.out.new_ (HNb.out.trans' hn)) expl3 h3r)
  have HNb' := Lib.hid (HNb.out.trans' hn)
  have HFb' := Lib.hid (HFb.out.new_ hn)
  have HOb' := Lib.hid (HOb.out.new_ hn)
  clear hn
  go_wp2_with fail
  refine HX3.out.mono ?_
  rintro e wc ⟨Ac, cc, rfl, _, hN⟩
  dsimp only [Option.getD, List.length_nil, Option.isSome]
  have HOc := Lib.hid (HOb'.out.new_ hN)
  have HNc := Lib.hid (HNb'.out.trans' hN)
  have HFc := Lib.hid (HFb'.out.new_ hN)
  clear hN HX3 HNb HFb HOb HNb' HFb' HOb'
  have p2 := HFc.out.blkP.cell 2
  have g2 := HFc.out.blkG.cell 2
  unfold rowPD at p2
  unfold rowGD at g2
  have hn := nw_ wc (.cells #[.slice (some ⟨k, 0, none⟩) 1 1, .slice (some ⟨k + 1 + 1 + 1, 0, none⟩) 1 1] 31)
  have HRP := Lib.hid (replay_c (c := 2) (plans2 HFc.out) (HE.out.new_ (HNc.out.trans' hn)))
  have HNc' := Lib.hid (HNc.out.trans' hn)
  have HOc' := Lib.hid (HOc.out.new_ hn)
  clear hn
  go_wp2_with fail
  refine HRP.out.mono ?_
  rintro e wd ⟨b1, o1, c1, A2, c2, b3, o3, c3, rfl, y1, y3, hN⟩
  dsimp only
  have HOd := Lib.hid (HOc'.out.new_ hN)
  have HNd := Lib.hid (HNc'.out.trans' hN)
  clear hN HRP HNc HOc HNc' HOc' HFc p2 g2
  obtain ⟨b9, o9, rfl, z0⟩ := HOd.out.at_ (i := 0) rfl
  obtain ⟨b9', o9', hA, z1⟩ := HOd.out.at_ (i := 1) rfl
  injection hA with hA
  injection hA with hb ho _
  subst hb ho
  simp only [Nat.add_zero] at z0
  have HBL := Lib.hid (show Below w.heap.size w wd from Ch.to_below HNd.out (fun _ h => h.elim) (Nat.le_refl _))
  clear HOd HNd
  go_wp2_with fail
  go_ret
  exact ⟨rfl, by rw [HK.out] at *; exact HBL.out⟩
end Go.Proofs.YtbggadhaaphmcaaDoor
