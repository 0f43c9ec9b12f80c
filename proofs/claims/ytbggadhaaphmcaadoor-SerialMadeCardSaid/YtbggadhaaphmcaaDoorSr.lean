/- Step: the document's. -/
import Derived.Test.YtbggadhaaphmcaaDoorSt
namespace Go.Proofs.YtbggadhaaphmcaaDoor
open Go.RowKit Go.Sort
set_option linter.unusedVariables false

/-- The step's five blocks and an empty result. -/
structure SC (w w' : World) (b : Nat) (cs : Array Value) (HV : ByteArray) (HB : Bool) (LV : ByteArray) (LB : Bool) (x y : Value × Value) : Prop where
  sb : SB w w' b cs HV HB LV LB x y
  b5 : Blk w' (b + 1 + 1 + 1 + 1 + 1) 45 #[.string ⟨#[]⟩, .bool false]
section
variable {w w' w'' : World} {b : Nat} {cs : Array Value} {HV LV : ByteArray} {HB LB : Bool} {x y : Value × Value}
theorem SC.drew (h : SC w w' b cs HV HB LV LB x y) : SC w w'.drew b cs HV HB LV LB x y := ⟨h.sb.drew, h.b5⟩
theorem SC.new_ (h : SC w w' b cs HV HB LV LB x y) (hc : NewW w' w'') : SC w w'' b cs HV HB LV LB x y := ⟨h.sb.new_ hc, h.b5.ch hc (fun h => h)⟩
theorem SC.set1 (h : SC w w' b cs HV HB LV LB x y) : SC w ((w'.setCell ⟨b + 1, 0, none⟩ (.string HV)).setCell ⟨b + 1, 1, none⟩ (.bool HB)) b cs HV HB LV LB x y := ⟨h.sb.set1, (h.b5.far (by dsimp only; omega) _).far (by dsimp only; omega) _⟩
theorem SC.set2 (h : SC w w' b cs HV HB LV LB x y) : SC w ((w'.setCell ⟨b + 1 + 1, 0, none⟩ (.string LV)).setCell ⟨b + 1 + 1, 1, none⟩ (.bool LB)) b cs HV HB LV LB x y := ⟨h.sb.set2, (h.b5.far (by dsimp only; omega) _).far (by dsimp only; omega) _⟩
theorem SC.set3 (h : SC w w' b cs HV HB LV LB x y) (u v : Value) : SC w ((w'.setCell ⟨b + 1 + 1 + 1, 0, none⟩ u).setCell ⟨b + 1 + 1 + 1, 1, none⟩ v) b cs HV HB LV LB (u, v) y := ⟨h.sb.set3 u v, (h.b5.far (by dsimp only; omega) _).far (by dsimp only; omega) _⟩
theorem SC.set4 (h : SC w w' b cs HV HB LV LB x y) (u v : Value) : SC w ((w'.setCell ⟨b + 1 + 1 + 1 + 1, 0, none⟩ u).setCell ⟨b + 1 + 1 + 1 + 1, 1, none⟩ v) b cs HV HB LV LB x (u, v) := ⟨h.sb.set4 u v, (h.b5.far (by dsimp only; omega) _).far (by dsimp only; omega) _⟩
end
theorem sc_begin (w : World) (cs : Array Value) (HV LV : ByteArray) (HB LB : Bool) :
    SC w ((((((w.alloc (.cells cs 41)).alloc (.cells #[.string HV, .bool HB] 45)).alloc (.cells #[.string LV, .bool LB] 45)).alloc (.cells #[.string ⟨#[]⟩, .bool false] 45)).alloc (.cells #[.string ⟨#[]⟩, .bool false] 45)).alloc (.cells #[.string ⟨#[]⟩, .bool false] 45)) w.heap.size cs HV HB LV LB (.string ⟨#[]⟩, .bool false) (.string ⟨#[]⟩, .bool false) := by
  refine ⟨(sb_begin w cs HV LV HB LB).new_ ((Ch.refl _ _).alloc _), ?_⟩
  have := Blk.new (((((w.alloc (.cells cs 41)).alloc (.cells #[.string HV, .bool HB] 45)).alloc (.cells #[.string LV, .bool LB] 45)).alloc (.cells #[.string ⟨#[]⟩, .bool false] 45)).alloc (.cells #[.string ⟨#[]⟩, .bool false] 45)) 45 #[.string ⟨#[]⟩, .bool false]
  rw [World.size_alloc, World.size_alloc, World.size_alloc, World.size_alloc, World.size_alloc] at this
  exact this
set_option maxRecDepth 100000 in
set_option maxHeartbeats 4000000 in
theorem Step_ref (o : OpD) (h1 : 1 ≤ o.k) (h5 : o.k ≤ 5) (has last : Res) (w : World) (hv : (vOf has).size ≤ 1000) :
    Calls Tryd.prog 56 #[.agg #[.int .i64 o.k, .string o.key, .string o.val, .int .i64 o.n], .agg #[.string (vOf has), .bool (hOf has)], .agg #[.string (vOf last), .bool (hOf last)]] w fun e w' =>
      e = .returned (.tuple #[.agg #[.string (vOf (stepW o has last)), .bool (hOf (stepW o has last))], .agg #[.string (vOf (stepR o has last)), .bool (hOf (stepR o has last))]]) ∧ NewW w w' := by
  have HP1 := Lib.hid (res_norm has)
  have HP2 := Lib.hid (res_norm last)
  obtain ⟨K, key, val, N⟩ := o
  dsimp only at h1 h5
  generalize hx1 : vOf has = HV at *
  generalize hx2 : hOf has = HB at *
  generalize hx3 : vOf last = LV at *
  generalize hx4 : hOf last = LB at *
  have HX1 := Lib.hid hx1
  have HX2 := Lib.hid hx2
  have HX3 := Lib.hid hx3
  have HX4 := Lib.hid hx4
  clear hx1 hx2 hx3 hx4
  have HSC := Lib.hid (sc_begin w #[.int .i64 K, .string key, .string val, .int .i64 N] HV LV HB LB)
  go_enter Tryd.func56, Tryd.ntmps56
  go_upto_region 2 with (fail)
  generalize ((((((w.alloc (.cells #[.int .i64 K, .string key, .string val, .int .i64 N] 41)).alloc (.cells #[.string HV, .bool HB] 45)).alloc (.cells #[.string LV, .bool LB] 45)).alloc (.cells #[.string ⟨#[]⟩, .bool false] 45)).alloc (.cells #[.string ⟨#[]⟩, .bool false] 45)).alloc (.cells #[.string ⟨#[]⟩, .bool false] 45)) = w5 at *
  generalize w.heap.size = b at *
  obtain ⟨_, _, _, k0, k1, k2, k3, _⟩ := HSC.out.sb.cells
  obtain ⟨f1, f2, _, _⟩ := HSC.out.sb.free
  have n0 := HSC.out.b5.cell 0
  have n1 := HSC.out.b5.cell 1
  go_upto_if 14 with (fail)
  go_cut [] (fun wx => SC w wx b #[.int .i64 K, .string key, .string val, .int .i64 N] HV HB LV LB (.string ⟨#[]⟩, .bool false) (.string ⟨#[]⟩, .bool false))
  case first =>
    cases HB
    · have e := HP1.out rfl
      subst e
      go_wp2_with fail
      go_meet
      exact HSC.out.set1
    · go_wp2_with fail
      go_meet
      exact HSC.out
  case rest =>
    have HS1 := Lib.hid hcut
    clear k0 k1 k2 k3 f1 f2 n0 n1 hcut
    obtain ⟨_, _, _, k0, k1, k2, k3, _⟩ := HS1.out.sb.cells
    obtain ⟨f1, f2, _, _⟩ := HS1.out.sb.free
    have n0 := HS1.out.b5.cell 0
    have n1 := HS1.out.b5.cell 1
    go_upto_if 18 with (fail)
    go_cut [] (fun wx => SC w wx b #[.int .i64 K, .string key, .string val, .int .i64 N] HV HB LV LB (.string ⟨#[]⟩, .bool false) (.string ⟨#[]⟩, .bool false))
    case first =>
      cases LB
      · have e := HP2.out rfl
        subst e
        go_wp2_with fail
        go_meet
        exact HS1.out.set2
      · go_wp2_with fail
        go_meet
        exact HS1.out
    case rest =>
      have HS := Lib.hid hcut
      clear k0 k1 k2 k3 f1 f2 n0 n1 hcut HS1 HSC
      obtain ⟨c0, c2, c3, k0, k1, k2, k3, r0, r1, r2, r3⟩ := HS.out.sb.cells
      obtain ⟨_, _, f3, f4⟩ := HS.out.sb.free
      have n0 := HS.out.b5.cell 0
      have n1 := HS.out.b5.cell 1
      rcases (by omega : K = 1 ∨ K = 2 ∨ K = 3 ∨ K = 4 ∨ K = 5) with rfl | rfl | rfl | rfl | rfl
      · go_wp2_with fail
        go_region
        all_goals
          have hF := ((HS.out.set3 (.string ⟨#[]⟩) (.bool false)).set4 (.string HV) (.bool HB)).drew
          obtain ⟨_, _, _, _, _, _, _, g0, g1, g2, g3⟩ := hF.sb.cells
          clear c0 c2 c3 k0 k1 k2 k3 r0 r1 r2 r3 f3 f4 n0 n1
          go_wp2_with fail
          refine bodyPost_ret (v := .tuple #[.agg #[(.string ⟨#[]⟩), (.bool false)], .agg #[(.string HV), (.bool HB)]]) (by simp [results, Tryd.results56, go_sem, g0, g1, g2, g3]) rfl ⟨?_, hF.sb.nw⟩
          rw [← HX1.out, ← HX2.out]; rfl
      · go_wp2_with fail
        go_region
        all_goals
          have hF := ((HS.out.set3 (.string val) (.bool true)).set4 (.string HV) (.bool HB)).drew
          obtain ⟨_, _, _, _, _, _, _, g0, g1, g2, g3⟩ := hF.sb.cells
          clear c0 c2 c3 k0 k1 k2 k3 r0 r1 r2 r3 f3 f4 n0 n1
          go_wp2_with fail
          refine bodyPost_ret (v := .tuple #[.agg #[(.string val), (.bool true)], .agg #[(.string HV), (.bool HB)]]) (by simp [results, Tryd.results56, go_sem, g0, g1, g2, g3]) rfl ⟨?_, hF.sb.nw⟩
          rw [← HX1.out, ← HX2.out]; rfl
      · go_wp2_with fail
        go_region
        all_goals
          have hF := ((HS.out.set3 (.string ⟨#[]⟩) (.bool false)).set4 (.string HV) (.bool HB)).drew
          obtain ⟨_, _, _, _, _, _, _, g0, g1, g2, g3⟩ := hF.sb.cells
          clear c0 c2 c3 k0 k1 k2 k3 r0 r1 r2 r3 f3 f4 n0 n1
          go_wp2_with fail
          refine bodyPost_ret (v := .tuple #[.agg #[(.string ⟨#[]⟩), (.bool false)], .agg #[(.string HV), (.bool HB)]]) (by simp [results, Tryd.results56, go_sem, g0, g1, g2, g3]) rfl ⟨?_, hF.sb.nw⟩
          rw [← HX1.out, ← HX2.out]; rfl
      · go_wp2_with fail
        go_region
        all_goals
          have hF := ((HS.out.set3 (.string LV) (.bool LB)).set4 (.string HV) (.bool HB)).drew
          obtain ⟨_, _, _, _, _, _, _, g0, g1, g2, g3⟩ := hF.sb.cells
          clear c0 c2 c3 k0 k1 k2 k3 r0 r1 r2 r3 f3 f4 n0 n1
          go_wp2_with fail
          refine bodyPost_ret (v := .tuple #[.agg #[(.string LV), (.bool LB)], .agg #[(.string HV), (.bool HB)]]) (by simp [results, Tryd.results56, go_sem, g0, g1, g2, g3]) rfl ⟨?_, hF.sb.nw⟩
          rw [← HX1.out, ← HX2.out, ← HX3.out, ← HX4.out]; rfl
      · have HNU := Lib.hid (fun w' => Number_ref HV hv w')
        have hb2 := numR_bound HV
        have hb3 := clamp_bound N
        obtain ⟨NH, hNH⟩ : ∃ NH, numR HV = NH := ⟨_, rfl⟩
        rw [hNH] at HNU hb2
        have HSM := Lib.hid (show sumOf ⟨5, key, val, N⟩ has = clampI (NH + clampI N) by unfold sumOf; rw [HX1.out, hNH])
        have hb4 := clamp_bound (NH + clampI N)
        obtain ⟨CN, hCN⟩ : ∃ CN, clampI N = CN := ⟨_, rfl⟩
        obtain ⟨S, hS⟩ : ∃ S, clampI (NH + clampI N) = S := ⟨_, rfl⟩
        rw [hS] at HSM hb4
        have HTX := Lib.hid (fun w' => Text_ref S hb4.1 hb4.2 w')
        obtain ⟨T, hT⟩ : ∃ T, txt S = T := ⟨_, rfl⟩
        rw [hT] at HTX
        have HT := Lib.hid hT
        have HCN := Lib.hid hCN
        have HSS := Lib.hid (show clampI (NH + CN) = S by rw [← hCN, hS])
        clear hNH hCN hS hT hb4 hb3
        obtain ⟨nl, nu⟩ := hb2
        have hc : clampI N = CN := HCN.out
        have hs : clampI (NH + CN) = S := HSS.out
        unfold clampI at hc hs
        rcases (by omega : (1125899906842624 < N ∧ CN = 1125899906842624) ∨ (N < -1125899906842624 ∧ CN = -1125899906842624) ∨ (-1125899906842624 ≤ N ∧ N ≤ 1125899906842624 ∧ CN = N)) with ⟨a1, rfl⟩ | ⟨a1, rfl⟩ | ⟨a1, a2, rfl⟩
        · have d1 : decide (1125899906842624 < N) = true := by simpa using a1
          have HH := Lib.hid hs
          clear a1 hc hs
          go_wp2_with fail
          refine (HNU.out _).mono ?_
          rintro e w2 ⟨rfl, hN2⟩
          dsimp only
          have HS2 := Lib.hid (HS.out.new_ hN2)
          clear c0 c2 c3 k0 k1 k2 k3 r0 r1 r2 r3 f3 f4 n0 n1 hN2
          have hs := HH.out
          rcases (by omega : (1125899906842624 < 1125899906842624 + NH ∧ S = 1125899906842624) ∨ (1125899906842624 + NH < -1125899906842624 ∧ S = -1125899906842624) ∨ (-1125899906842624 ≤ 1125899906842624 + NH ∧ 1125899906842624 + NH ≤ 1125899906842624 ∧ S = 1125899906842624 + NH)) with ⟨b1, rfl⟩ | ⟨b1, rfl⟩ | ⟨b1, b2, rfl⟩
          · have e1 : decide (1125899906842624 < 1125899906842624 + NH) = true := by simpa using b1
            clear b1 hs
            go_wp2_with fail
            refine (HTX.out _).mono ?_
            rintro e w3 ⟨rfl, hN3⟩
            dsimp only
            have HS3 := Lib.hid (HS2.out.new_ hN3)
            have HBN := Lib.hid (Blk.new w3 45 #[.string T, .bool true])
            have HS4 := Lib.hid (HS3.out.new_ ((Ch.refl _ w3).alloc (.cells #[.string T, .bool true] 45)))
            have l3 := HS3.out.sb.b3.lt
            have l4 := HS3.out.sb.b4.lt
            clear hN3
            go_upto_region 22 with (fail)
            generalize w3.alloc (.cells #[.string T, .bool true] 45) = w4 at *
            generalize w3.heap.size = tb at *
            obtain ⟨_, _, f3, f4⟩ := HS4.out.sb.free
            obtain ⟨_, _, _, _, _, _, _, r0, r1, r2, r3⟩ := HS4.out.sb.cells
            have q3 : tb ≠ b + 1 + 1 + 1 := by omega
            have q4 : tb ≠ b + 1 + 1 + 1 + 1 := by omega
            have p3 : b + 1 + 1 + 1 ≠ tb := by omega
            have p4 : b + 1 + 1 + 1 + 1 ≠ tb := by omega
            have t0 := HBN.out.cell 0
            have t1 := HBN.out.cell 1
            go_region
            all_goals
              have hF := ((HS4.out.set3 (.string T) (.bool true)).set4 (.string T) (.bool true)).drew
              obtain ⟨_, _, _, _, _, _, _, g0, g1, g2, g3⟩ := hF.sb.cells
              clear f3 f4 t0 t1 r0 r1 r2 r3
              go_wp2_with fail
              refine bodyPost_ret (v := .tuple #[.agg #[.string T, .bool true], .agg #[.string T, .bool true]]) (by simp [results, Tryd.results56, go_sem, g0, g1, g2, g3]) rfl ⟨?_, hF.sb.nw⟩
              have e1 : stepW ⟨5, key, val, N⟩ has last = some T := by unfold stepW; simp only [HSM.out, HT.out]; rfl
              have e2 : stepR ⟨5, key, val, N⟩ has last = some T := by unfold stepR; simp only [HSM.out, HT.out]; rfl
              rw [e1, e2]
              rfl
          · have e1 : decide (1125899906842624 < 1125899906842624 + NH) = false := by simp; omega
            have e2 : decide (1125899906842624 + NH < -1125899906842624) = true := by simpa using b1
            clear b1 hs
            go_wp2_with fail
            refine (HTX.out _).mono ?_
            rintro e w3 ⟨rfl, hN3⟩
            dsimp only
            have HS3 := Lib.hid (HS2.out.new_ hN3)
            have HBN := Lib.hid (Blk.new w3 45 #[.string T, .bool true])
            have HS4 := Lib.hid (HS3.out.new_ ((Ch.refl _ w3).alloc (.cells #[.string T, .bool true] 45)))
            have l3 := HS3.out.sb.b3.lt
            have l4 := HS3.out.sb.b4.lt
            clear hN3
            go_upto_region 22 with (fail)
            generalize w3.alloc (.cells #[.string T, .bool true] 45) = w4 at *
            generalize w3.heap.size = tb at *
            obtain ⟨_, _, f3, f4⟩ := HS4.out.sb.free
            obtain ⟨_, _, _, _, _, _, _, r0, r1, r2, r3⟩ := HS4.out.sb.cells
            have q3 : tb ≠ b + 1 + 1 + 1 := by omega
            have q4 : tb ≠ b + 1 + 1 + 1 + 1 := by omega
            have p3 : b + 1 + 1 + 1 ≠ tb := by omega
            have p4 : b + 1 + 1 + 1 + 1 ≠ tb := by omega
            have t0 := HBN.out.cell 0
            have t1 := HBN.out.cell 1
            go_region
            all_goals
              have hF := ((HS4.out.set3 (.string T) (.bool true)).set4 (.string T) (.bool true)).drew
              obtain ⟨_, _, _, _, _, _, _, g0, g1, g2, g3⟩ := hF.sb.cells
              clear f3 f4 t0 t1 r0 r1 r2 r3
              go_wp2_with fail
              refine bodyPost_ret (v := .tuple #[.agg #[.string T, .bool true], .agg #[.string T, .bool true]]) (by simp [results, Tryd.results56, go_sem, g0, g1, g2, g3]) rfl ⟨?_, hF.sb.nw⟩
              have e1 : stepW ⟨5, key, val, N⟩ has last = some T := by unfold stepW; simp only [HSM.out, HT.out]; rfl
              have e2 : stepR ⟨5, key, val, N⟩ has last = some T := by unfold stepR; simp only [HSM.out, HT.out]; rfl
              rw [e1, e2]
              rfl
          · have e1 : decide (1125899906842624 < 1125899906842624 + NH) = false := by simp; omega
            have e2 : decide (1125899906842624 + NH < -1125899906842624) = false := by simp; omega
            clear hs
            go_wp2_with fail
            refine (HTX.out _).mono ?_
            rintro e w3 ⟨rfl, hN3⟩
            dsimp only
            have HS3 := Lib.hid (HS2.out.new_ hN3)
            have HBN := Lib.hid (Blk.new w3 45 #[.string T, .bool true])
            have HS4 := Lib.hid (HS3.out.new_ ((Ch.refl _ w3).alloc (.cells #[.string T, .bool true] 45)))
            have l3 := HS3.out.sb.b3.lt
            have l4 := HS3.out.sb.b4.lt
            clear hN3
            go_upto_region 22 with (fail)
            generalize w3.alloc (.cells #[.string T, .bool true] 45) = w4 at *
            generalize w3.heap.size = tb at *
            obtain ⟨_, _, f3, f4⟩ := HS4.out.sb.free
            obtain ⟨_, _, _, _, _, _, _, r0, r1, r2, r3⟩ := HS4.out.sb.cells
            have q3 : tb ≠ b + 1 + 1 + 1 := by omega
            have q4 : tb ≠ b + 1 + 1 + 1 + 1 := by omega
            have p3 : b + 1 + 1 + 1 ≠ tb := by omega
            have p4 : b + 1 + 1 + 1 + 1 ≠ tb := by omega
            have t0 := HBN.out.cell 0
            have t1 := HBN.out.cell 1
            go_region
            all_goals
              have hF := ((HS4.out.set3 (.string T) (.bool true)).set4 (.string T) (.bool true)).drew
              obtain ⟨_, _, _, _, _, _, _, g0, g1, g2, g3⟩ := hF.sb.cells
              clear f3 f4 t0 t1 r0 r1 r2 r3
              go_wp2_with fail
              refine bodyPost_ret (v := .tuple #[.agg #[.string T, .bool true], .agg #[.string T, .bool true]]) (by simp [results, Tryd.results56, go_sem, g0, g1, g2, g3]) rfl ⟨?_, hF.sb.nw⟩
              have e1 : stepW ⟨5, key, val, N⟩ has last = some T := by unfold stepW; simp only [HSM.out, HT.out]; rfl
              have e2 : stepR ⟨5, key, val, N⟩ has last = some T := by unfold stepR; simp only [HSM.out, HT.out]; rfl
              rw [e1, e2]
              rfl
        · have d1 : decide (1125899906842624 < N) = false := by simp; omega
          have d2 : decide (N < -1125899906842624) = true := by simpa using a1
          have HH := Lib.hid hs
          clear a1 hc hs
          go_wp2_with fail
          refine (HNU.out _).mono ?_
          rintro e w2 ⟨rfl, hN2⟩
          dsimp only
          have HS2 := Lib.hid (HS.out.new_ hN2)
          clear c0 c2 c3 k0 k1 k2 k3 r0 r1 r2 r3 f3 f4 n0 n1 hN2
          have hs := HH.out
          rcases (by omega : (1125899906842624 < -1125899906842624 + NH ∧ S = 1125899906842624) ∨ (-1125899906842624 + NH < -1125899906842624 ∧ S = -1125899906842624) ∨ (-1125899906842624 ≤ -1125899906842624 + NH ∧ -1125899906842624 + NH ≤ 1125899906842624 ∧ S = -1125899906842624 + NH)) with ⟨b1, rfl⟩ | ⟨b1, rfl⟩ | ⟨b1, b2, rfl⟩
          · have e1 : decide (1125899906842624 < -1125899906842624 + NH) = true := by simpa using b1
            clear b1 hs
            go_wp2_with fail
            refine (HTX.out _).mono ?_
            rintro e w3 ⟨rfl, hN3⟩
            dsimp only
            have HS3 := Lib.hid (HS2.out.new_ hN3)
            have HBN := Lib.hid (Blk.new w3 45 #[.string T, .bool true])
            have HS4 := Lib.hid (HS3.out.new_ ((Ch.refl _ w3).alloc (.cells #[.string T, .bool true] 45)))
            have l3 := HS3.out.sb.b3.lt
            have l4 := HS3.out.sb.b4.lt
            clear hN3
            go_upto_region 22 with (fail)
            generalize w3.alloc (.cells #[.string T, .bool true] 45) = w4 at *
            generalize w3.heap.size = tb at *
            obtain ⟨_, _, f3, f4⟩ := HS4.out.sb.free
            obtain ⟨_, _, _, _, _, _, _, r0, r1, r2, r3⟩ := HS4.out.sb.cells
            have q3 : tb ≠ b + 1 + 1 + 1 := by omega
            have q4 : tb ≠ b + 1 + 1 + 1 + 1 := by omega
            have p3 : b + 1 + 1 + 1 ≠ tb := by omega
            have p4 : b + 1 + 1 + 1 + 1 ≠ tb := by omega
            have t0 := HBN.out.cell 0
            have t1 := HBN.out.cell 1
            go_region
            all_goals
              have hF := ((HS4.out.set3 (.string T) (.bool true)).set4 (.string T) (.bool true)).drew
              obtain ⟨_, _, _, _, _, _, _, g0, g1, g2, g3⟩ := hF.sb.cells
              clear f3 f4 t0 t1 r0 r1 r2 r3
              go_wp2_with fail
              refine bodyPost_ret (v := .tuple #[.agg #[.string T, .bool true], .agg #[.string T, .bool true]]) (by simp [results, Tryd.results56, go_sem, g0, g1, g2, g3]) rfl ⟨?_, hF.sb.nw⟩
              have e1 : stepW ⟨5, key, val, N⟩ has last = some T := by unfold stepW; simp only [HSM.out, HT.out]; rfl
              have e2 : stepR ⟨5, key, val, N⟩ has last = some T := by unfold stepR; simp only [HSM.out, HT.out]; rfl
              rw [e1, e2]
              rfl
          · have e1 : decide (1125899906842624 < -1125899906842624 + NH) = false := by simp; omega
            have e2 : decide (-1125899906842624 + NH < -1125899906842624) = true := by simpa using b1
            clear b1 hs
            go_wp2_with fail
            refine (HTX.out _).mono ?_
            rintro e w3 ⟨rfl, hN3⟩
            dsimp only
            have HS3 := Lib.hid (HS2.out.new_ hN3)
            have HBN := Lib.hid (Blk.new w3 45 #[.string T, .bool true])
            have HS4 := Lib.hid (HS3.out.new_ ((Ch.refl _ w3).alloc (.cells #[.string T, .bool true] 45)))
            have l3 := HS3.out.sb.b3.lt
            have l4 := HS3.out.sb.b4.lt
            clear hN3
            go_upto_region 22 with (fail)
            generalize w3.alloc (.cells #[.string T, .bool true] 45) = w4 at *
            generalize w3.heap.size = tb at *
            obtain ⟨_, _, f3, f4⟩ := HS4.out.sb.free
            obtain ⟨_, _, _, _, _, _, _, r0, r1, r2, r3⟩ := HS4.out.sb.cells
            have q3 : tb ≠ b + 1 + 1 + 1 := by omega
            have q4 : tb ≠ b + 1 + 1 + 1 + 1 := by omega
            have p3 : b + 1 + 1 + 1 ≠ tb := by omega
            have p4 : b + 1 + 1 + 1 + 1 ≠ tb := by omega
            have t0 := HBN.out.cell 0
            have t1 := HBN.out.cell 1
            go_region
            all_goals
              have hF := ((HS4.out.set3 (.string T) (.bool true)).set4 (.string T) (.bool true)).drew
              obtain ⟨_, _, _, _, _, _, _, g0, g1, g2, g3⟩ := hF.sb.cells
              clear f3 f4 t0 t1 r0 r1 r2 r3
              go_wp2_with fail
              refine bodyPost_ret (v := .tuple #[.agg #[.string T, .bool true], .agg #[.string T, .bool true]]) (by simp [results, Tryd.results56, go_sem, g0, g1, g2, g3]) rfl ⟨?_, hF.sb.nw⟩
              have e1 : stepW ⟨5, key, val, N⟩ has last = some T := by unfold stepW; simp only [HSM.out, HT.out]; rfl
              have e2 : stepR ⟨5, key, val, N⟩ has last = some T := by unfold stepR; simp only [HSM.out, HT.out]; rfl
              rw [e1, e2]
              rfl
          · have e1 : decide (1125899906842624 < -1125899906842624 + NH) = false := by simp; omega
            have e2 : decide (-1125899906842624 + NH < -1125899906842624) = false := by simp; omega
            clear hs
            go_wp2_with fail
            refine (HTX.out _).mono ?_
            rintro e w3 ⟨rfl, hN3⟩
            dsimp only
            have HS3 := Lib.hid (HS2.out.new_ hN3)
            have HBN := Lib.hid (Blk.new w3 45 #[.string T, .bool true])
            have HS4 := Lib.hid (HS3.out.new_ ((Ch.refl _ w3).alloc (.cells #[.string T, .bool true] 45)))
            have l3 := HS3.out.sb.b3.lt
            have l4 := HS3.out.sb.b4.lt
            clear hN3
            go_upto_region 22 with (fail)
            generalize w3.alloc (.cells #[.string T, .bool true] 45) = w4 at *
            generalize w3.heap.size = tb at *
            obtain ⟨_, _, f3, f4⟩ := HS4.out.sb.free
            obtain ⟨_, _, _, _, _, _, _, r0, r1, r2, r3⟩ := HS4.out.sb.cells
            have q3 : tb ≠ b + 1 + 1 + 1 := by omega
            have q4 : tb ≠ b + 1 + 1 + 1 + 1 := by omega
            have p3 : b + 1 + 1 + 1 ≠ tb := by omega
            have p4 : b + 1 + 1 + 1 + 1 ≠ tb := by omega
            have t0 := HBN.out.cell 0
            have t1 := HBN.out.cell 1
            go_region
            all_goals
              have hF := ((HS4.out.set3 (.string T) (.bool true)).set4 (.string T) (.bool true)).drew
              obtain ⟨_, _, _, _, _, _, _, g0, g1, g2, g3⟩ := hF.sb.cells
              clear f3 f4 t0 t1 r0 r1 r2 r3
              go_wp2_with fail
              refine bodyPost_ret (v := .tuple #[.agg #[.string T, .bool true], .agg #[.string T, .bool true]]) (by simp [results, Tryd.results56, go_sem, g0, g1, g2, g3]) rfl ⟨?_, hF.sb.nw⟩
              have e1 : stepW ⟨5, key, val, N⟩ has last = some T := by unfold stepW; simp only [HSM.out, HT.out]; rfl
              have e2 : stepR ⟨5, key, val, N⟩ has last = some T := by unfold stepR; simp only [HSM.out, HT.out]; rfl
              rw [e1, e2]
              rfl
        · have d1 : decide (1125899906842624 < CN) = false := by simp; omega
          have d2 : decide (CN < -1125899906842624) = false := by simp; omega
          have HH := Lib.hid hs
          clear hc hs
          go_wp2_with fail
          refine (HNU.out _).mono ?_
          rintro e w2 ⟨rfl, hN2⟩
          dsimp only
          have HS2 := Lib.hid (HS.out.new_ hN2)
          clear c0 c2 c3 k0 k1 k2 k3 r0 r1 r2 r3 f3 f4 n0 n1 hN2
          have hs := HH.out
          rcases (by omega : (1125899906842624 < CN + NH ∧ S = 1125899906842624) ∨ (CN + NH < -1125899906842624 ∧ S = -1125899906842624) ∨ (-1125899906842624 ≤ CN + NH ∧ CN + NH ≤ 1125899906842624 ∧ S = CN + NH)) with ⟨b1, rfl⟩ | ⟨b1, rfl⟩ | ⟨b1, b2, rfl⟩
          · have e1 : decide (1125899906842624 < CN + NH) = true := by simpa using b1
            clear b1 hs
            go_wp2_with fail
            refine (HTX.out _).mono ?_
            rintro e w3 ⟨rfl, hN3⟩
            dsimp only
            have HS3 := Lib.hid (HS2.out.new_ hN3)
            have HBN := Lib.hid (Blk.new w3 45 #[.string T, .bool true])
            have HS4 := Lib.hid (HS3.out.new_ ((Ch.refl _ w3).alloc (.cells #[.string T, .bool true] 45)))
            have l3 := HS3.out.sb.b3.lt
            have l4 := HS3.out.sb.b4.lt
            clear hN3
            go_upto_region 22 with (fail)
            generalize w3.alloc (.cells #[.string T, .bool true] 45) = w4 at *
            generalize w3.heap.size = tb at *
            obtain ⟨_, _, f3, f4⟩ := HS4.out.sb.free
            obtain ⟨_, _, _, _, _, _, _, r0, r1, r2, r3⟩ := HS4.out.sb.cells
            have q3 : tb ≠ b + 1 + 1 + 1 := by omega
            have q4 : tb ≠ b + 1 + 1 + 1 + 1 := by omega
            have p3 : b + 1 + 1 + 1 ≠ tb := by omega
            have p4 : b + 1 + 1 + 1 + 1 ≠ tb := by omega
            have t0 := HBN.out.cell 0
            have t1 := HBN.out.cell 1
            go_region
            all_goals
              have hF := ((HS4.out.set3 (.string T) (.bool true)).set4 (.string T) (.bool true)).drew
              obtain ⟨_, _, _, _, _, _, _, g0, g1, g2, g3⟩ := hF.sb.cells
              clear f3 f4 t0 t1 r0 r1 r2 r3
              go_wp2_with fail
              refine bodyPost_ret (v := .tuple #[.agg #[.string T, .bool true], .agg #[.string T, .bool true]]) (by simp [results, Tryd.results56, go_sem, g0, g1, g2, g3]) rfl ⟨?_, hF.sb.nw⟩
              have e1 : stepW ⟨5, key, val, CN⟩ has last = some T := by unfold stepW; simp only [HSM.out, HT.out]; rfl
              have e2 : stepR ⟨5, key, val, CN⟩ has last = some T := by unfold stepR; simp only [HSM.out, HT.out]; rfl
              rw [e1, e2]
              rfl
          · have e1 : decide (1125899906842624 < CN + NH) = false := by simp; omega
            have e2 : decide (CN + NH < -1125899906842624) = true := by simpa using b1
            clear b1 hs
            go_wp2_with fail
            refine (HTX.out _).mono ?_
            rintro e w3 ⟨rfl, hN3⟩
            dsimp only
            have HS3 := Lib.hid (HS2.out.new_ hN3)
            have HBN := Lib.hid (Blk.new w3 45 #[.string T, .bool true])
            have HS4 := Lib.hid (HS3.out.new_ ((Ch.refl _ w3).alloc (.cells #[.string T, .bool true] 45)))
            have l3 := HS3.out.sb.b3.lt
            have l4 := HS3.out.sb.b4.lt
            clear hN3
            go_upto_region 22 with (fail)
            generalize w3.alloc (.cells #[.string T, .bool true] 45) = w4 at *
            generalize w3.heap.size = tb at *
            obtain ⟨_, _, f3, f4⟩ := HS4.out.sb.free
            obtain ⟨_, _, _, _, _, _, _, r0, r1, r2, r3⟩ := HS4.out.sb.cells
            have q3 : tb ≠ b + 1 + 1 + 1 := by omega
            have q4 : tb ≠ b + 1 + 1 + 1 + 1 := by omega
            have p3 : b + 1 + 1 + 1 ≠ tb := by omega
            have p4 : b + 1 + 1 + 1 + 1 ≠ tb := by omega
            have t0 := HBN.out.cell 0
            have t1 := HBN.out.cell 1
            go_region
            all_goals
              have hF := ((HS4.out.set3 (.string T) (.bool true)).set4 (.string T) (.bool true)).drew
              obtain ⟨_, _, _, _, _, _, _, g0, g1, g2, g3⟩ := hF.sb.cells
              clear f3 f4 t0 t1 r0 r1 r2 r3
              go_wp2_with fail
              refine bodyPost_ret (v := .tuple #[.agg #[.string T, .bool true], .agg #[.string T, .bool true]]) (by simp [results, Tryd.results56, go_sem, g0, g1, g2, g3]) rfl ⟨?_, hF.sb.nw⟩
              have e1 : stepW ⟨5, key, val, CN⟩ has last = some T := by unfold stepW; simp only [HSM.out, HT.out]; rfl
              have e2 : stepR ⟨5, key, val, CN⟩ has last = some T := by unfold stepR; simp only [HSM.out, HT.out]; rfl
              rw [e1, e2]
              rfl
          · have e1 : decide (1125899906842624 < CN + NH) = false := by simp; omega
            have e2 : decide (CN + NH < -1125899906842624) = false := by simp; omega
            clear hs
            go_wp2_with fail
            refine (HTX.out _).mono ?_
            rintro e w3 ⟨rfl, hN3⟩
            dsimp only
            have HS3 := Lib.hid (HS2.out.new_ hN3)
            have HBN := Lib.hid (Blk.new w3 45 #[.string T, .bool true])
            have HS4 := Lib.hid (HS3.out.new_ ((Ch.refl _ w3).alloc (.cells #[.string T, .bool true] 45)))
            have l3 := HS3.out.sb.b3.lt
            have l4 := HS3.out.sb.b4.lt
            clear hN3
            go_upto_region 22 with (fail)
            generalize w3.alloc (.cells #[.string T, .bool true] 45) = w4 at *
            generalize w3.heap.size = tb at *
            obtain ⟨_, _, f3, f4⟩ := HS4.out.sb.free
            obtain ⟨_, _, _, _, _, _, _, r0, r1, r2, r3⟩ := HS4.out.sb.cells
            have q3 : tb ≠ b + 1 + 1 + 1 := by omega
            have q4 : tb ≠ b + 1 + 1 + 1 + 1 := by omega
            have p3 : b + 1 + 1 + 1 ≠ tb := by omega
            have p4 : b + 1 + 1 + 1 + 1 ≠ tb := by omega
            have t0 := HBN.out.cell 0
            have t1 := HBN.out.cell 1
            go_region
            all_goals
              have hF := ((HS4.out.set3 (.string T) (.bool true)).set4 (.string T) (.bool true)).drew
              obtain ⟨_, _, _, _, _, _, _, g0, g1, g2, g3⟩ := hF.sb.cells
              clear f3 f4 t0 t1 r0 r1 r2 r3
              go_wp2_with fail
              refine bodyPost_ret (v := .tuple #[.agg #[.string T, .bool true], .agg #[.string T, .bool true]]) (by simp [results, Tryd.results56, go_sem, g0, g1, g2, g3]) rfl ⟨?_, hF.sb.nw⟩
              have e1 : stepW ⟨5, key, val, CN⟩ has last = some T := by unfold stepW; simp only [HSM.out, HT.out]; rfl
              have e2 : stepR ⟨5, key, val, CN⟩ has last = some T := by unfold stepR; simp only [HSM.out, HT.out]; rfl
              rw [e1, e2]
              rfl
end Go.Proofs.YtbggadhaaphmcaaDoor
