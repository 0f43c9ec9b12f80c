/- bank: the fixed calls. -/
import Derived.Test.YtbggadhaaphmcaaDoorBh
import Derived.Test.YtbggadhaaphmcaaDoorBr
namespace Go.Proofs.YtbggadhaaphmcaaDoor
open Go.Lib Go.RowKit
set_option linter.unusedVariables false

set_option maxRecDepth 100000 in
set_option maxHeartbeats 4000000 in
theorem Share_bad (n f s : Int) (h : mayE n f s ≠ 0) (w : World) : Calls Tryd.prog 32 #[.int .i64 n, .int .i64 f, .int .i64 s] w fun e w' => e = .returned (.tuple #[.slice none 0 0, .int .i64 (mayE n f s)]) ∧ w = w' := by
  have HM := Lib.hid (fun w' => may_any n f s w')
  obtain ⟨E, hE⟩ : ∃ E, mayE n f s = E := ⟨_, rfl⟩
  rw [hE] at HM h ⊢
  have d : decide (E = 0) = false := by simpa using h
  have d' : (E != 0) = true := by simpa using h
  have d'' : (E == 0) = false := by simpa using h
  clear h hE
  go_enter Tryd.func32, Tryd.ntmps32
  go_wp2_with fail
  refine (HM.out _).mono ?_
  rintro e w2 ⟨rfl, rfl⟩
  dsimp only
  go_wp2_with fail
  go_ret2
  exact ⟨rfl, rfl⟩
theorem Key_bad (i : Int) (h : i < 0 ∨ 16 ≤ i) (w : World) : Calls Tryd.prog 63 #[.int .i64 i] w fun e w' => e = .returned (.string emp) ∧ w = w' := by
  by_cases h0 : i < 0
  · have d1 : decide (i < 0) = true := by simpa using h0
    go_enter Tryd.func63, Tryd.ntmps63
    go_wp2_with fail
    go_ret
    exact ⟨rfl, rfl⟩
  · have d1 : decide (i < 0) = false := by simpa using h0
    have d2 : decide (16 ≤ i) = true := by simp; omega
    go_enter Tryd.func63, Tryd.ntmps63
    go_wp2_with fail
    go_ret
    exact ⟨rfl, rfl⟩
theorem fx_move : moveL 3 0 2 4 = addsL [(0, -4), (2, 4)] := by kernel_rfl
theorem fx_move2 : moveE 3 0 2 4 = 0 ∧ moveE 3 0 3 1 = 6 := by decide
theorem fx_move3 : moveL 3 0 3 1 = [] := by kernel_rfl
theorem fx_share : addsL (giftsOf (shareI 3 1 5)) = [addO 0 3, addO 1 (-5), addO 2 2] := by kernel_rfl
theorem fx_row : addsR (List.replicate 3 10) [(0, -4), (2, 4)] = [6, 10, 14] := by decide
theorem fx_key : keyT 12 = ⟨#[97, 99, 99, 116, 49, 50]⟩ := by kernel_rfl
theorem ops_ch {w w' : World} {A : Option Addr} {n : Nat} {l : List OpD} {pb : Nat} {cs : Array Value} {B c : Nat} (h : w.ownsRow B 41 4 (.slice A n c) n (flatO l)) (hb : Blk w pb 94 cs) (hc : Ch (fun g => g = pb) w w') : w'.ownsRow B 41 4 (.slice A n c) n (flatO l) :=
  own_ch h hc (fun g hg e => by subst e; exact own_blk_ne h hb (by decide) hg)
def row3 : List Int := [6, 10, 14]
theorem row3_bnd : Bnd 1000000000000 row3 := by unfold Bnd row3; decide
theorem rep_bnd : Bnd 1048576 (List.replicate 3 10) := by unfold Bnd; decide
theorem adds_ok : ∀ p ∈ [(0, -4), ((2 : Nat), (4 : Int))], p.1 < (List.replicate 3 (10 : Int)).length ∧ -10000000 ≤ p.2 ∧ p.2 ≤ 10000000 := by decide
set_option maxRecDepth 100000 in
set_option maxHeartbeats 8000000 in
theorem fixedB_any {w : World} (hE : Env w) : Calls Tryd.prog 29 #[] w fun e w' => e = .returned (.bool true) ∧ Below w.heap.size w w' := by
  have HE := Lib.hid hE
  have HNE := Lib.hid (km_new w w (Below.refl _ _))
  clear hE
  go_enter Tryd.func29, Tryd.ntmps29
  go_wp2_with fail
  refine HNE.out.mono ?_
  rintro e w1 ⟨rfl, hk, hN⟩
  dsimp only
  have HK1 := Lib.hid hk
  have HE1 := Lib.hid (HE.out.new_ hN)
  clear hk hN HNE
  generalize w.heap.size + 1 = pb at *
  have HOP := Lib.hid (show Calls Tryd.prog 30 #[.int .i64 3, .int .i64 10] w1 _ from Open_any 3 10 (by omega) (by omega) (by decide) HE1.out)
  go_wp2_with fail
  refine HOP.out.mono ?_
  rintro e w2 ⟨A2, c2, rfl, hO, hN⟩
  dsimp only
  have HO2 := Lib.hid hO
  have HK2 := Lib.hid (HK1.out.new_ hN)
  have HE2 := Lib.hid (HE1.out.new_ hN)
  clear hO hN HOP HK1 HE1
  have HMV := Lib.hid (show Calls Tryd.prog 31 #[.int .i64 3, .int .i64 0, .int .i64 2, .int .i64 4] w2 _ from Move_any 3 0 2 4 w2)
  rw [fx_move, fx_move2.1] at HMV
  go_wp2_with fail
  refine HMV.out.mono ?_
  rintro e w3 ⟨A3, c3, rfl, hO, hN⟩
  dsimp only
  have HO3 := Lib.hid hO
  have HP3 := Lib.hid (HO2.out.new_ hN)
  have HK3 := Lib.hid (HK2.out.new_ hN)
  have HE3 := Lib.hid (HE2.out.new_ hN)
  clear hO hN HMV HK2 HE2 HO2
  have HAU := Lib.hid (show Calls Tryd.prog 33 #[.int .i64 3] w3 _ from Audit_any 3 (by omega) (by omega) w3)
  go_wp2_with fail
  refine HAU.out.mono ?_
  rintro e w4 ⟨A4, c4, rfl, hO, hN⟩
  dsimp only
  have HO4 := Lib.hid hO
  have HP4 := Lib.hid (HP3.out.new_ hN)
  have HM4 := Lib.hid (HO3.out.new_ hN)
  have HK4 := Lib.hid (HK3.out.new_ hN)
  have HE4 := Lib.hid (HE3.out.new_ hN)
  clear hO hN HAU HK3 HE3 HO3 HP3
  have HR1 := Lib.hid (run_open (c := c2) HK4.out (by omega) HE4.out (by omega) (by omega) HP4.out)
  go_wp2_with fail
  refine HR1.out.mono ?_
  rintro e w5 ⟨⟨A5, n5, c5, rfl⟩, hb, hc⟩
  dsimp only
  obtain ⟨mb, hmb⟩ := HK4.out.mblk
  have HB5 := Lib.hid hb
  have HM5 := Lib.hid (HM4.out.pb hmb hc)
  have HO5 := Lib.hid (HO4.out.pb hmb hc)
  have HE5 := Lib.hid (HE.out.below hb.below)
  clear hb hc hmb HR1 HK4 HE4 HO4 HP4 HM4
  have HR2 := Lib.hid (run_adds (c := c3) (M := 1048576) HB5.out (by omega) HE5.out rep_bnd (by decide) (by omega) adds_ok HM5.out)
  rw [fx_row] at HR2
  go_wp2_with fail
  refine HR2.out.mono ?_
  rintro e w6 ⟨⟨A6, n6, c6, rfl⟩, hb, hc⟩
  dsimp only
  obtain ⟨mb, hmb⟩ := HB5.out.mblk
  have HB6 := Lib.hid hb
  have HO6 := Lib.hid (HO5.out.pb hmb hc)
  have HE6 := Lib.hid (HE.out.below hb.below)
  clear hb hc hmb HR2 HB5 HE5 HO5 HM5
  have HR3 := Lib.hid (run_audit (c := c4) (k := 3) HB6.out (by omega) HE6.out rfl row3_bnd HO6.out)
  go_wp2_with fail
  refine HR3.out.mono ?_
  rintro e w7 ⟨⟨A7, c7, rfl, hp⟩, hb, hc⟩
  dsimp only
  have HPR := Lib.hid hp
  have HE7 := Lib.hid (HE.out.below hb.below)
  have HBL := Lib.hid hb.below
  clear hp hb hc HR3 HB6 HE6 HO6
  have HBA := Lib.hid (Balances_any (c := c7) HPR.out (by omega) (prs_size row3_bnd) HE7.out)
  rw [show bals (List.map prR (List.map (fun x => (some (txt x) : Res)) [6, 10, 14])) = row3 from bals_row row3_bnd] at HBA
  go_wp2_with fail
  refine HBA.out.mono ?_
  rintro e w8 ⟨A8, c8, rfl, ho, hN⟩
  dsimp only
  have HX8 := Lib.hid ho
  have HC8 := Lib.hid hN
  clear ho hN HBA
  have HMV := Lib.hid (show Calls Tryd.prog 31 #[.int .i64 3, .int .i64 0, .int .i64 3, .int .i64 1] w8 _ from Move_any 3 0 3 1 w8)
  rw [fx_move3, fx_move2.2] at HMV
  go_wp2_with fail
  refine HMV.out.mono ?_
  rintro e w9 ⟨A9, c9, rfl, hO, hN⟩
  dsimp only
  have HX9 := Lib.hid (own_ch HX8.out hN (fun _ _ h => h))
  have HC9 := Lib.hid (HC8.out.trans' hN)
  clear hO hN HMV HX8 HC8
  have HOB := Lib.hid (fun w' => Open_bad 0 1 (by decide) w')
  go_wp2_with fail
  refine (HOB.out _).mono ?_
  rintro e wa ⟨rfl, hN⟩
  dsimp only
  have HXa := Lib.hid (own_ch HX9.out hN (fun _ _ h => h))
  have HCa := Lib.hid (HC9.out.trans' hN)
  clear hN HOB HX9 HC9
  have HSH := Lib.hid (show Calls Tryd.prog 32 #[.int .i64 3, .int .i64 1, .int .i64 5] wa _ from Share_any 3 1 5 (by omega) (by omega) (by omega) wa)
  go_wp2_with fail
  refine HSH.out.mono ?_
  rintro e wb ⟨Ab, cb, rfl, hS, hN⟩
  dsimp only
  rw [show addsL (giftsOf (shareI 3 ((1 : Nat) : Int) 5)) = [addO 0 3, addO 1 (-5), addO 2 2] from fx_share] at hS
  have HXb := Lib.hid (own_ch HXa.out hN (fun _ _ h => h))
  have HSb := Lib.hid hS
  have HCb := Lib.hid (HCa.out.trans' hN)
  clear hN hS HSH HXa HCa
  obtain ⟨g, qq, hv, _, _⟩ := HXb.out.form (by omega)
  injection hv with hv _ hq
  subst hv hq
  have x0 := own_cell HXb.out (rowI_get (show row3[0]? = some 6 from rfl))
  have x1 := own_cell HXb.out (rowI_get (show row3[1]? = some 10 from rfl))
  have x2 := own_cell HXb.out (rowI_get (show row3[2]? = some 14 from rfl))
  have HTO := Lib.hid (Total_any (c := c7) (HPR.out.new_ HCb.out) (by omega) (prs_size row3_bnd) (HE7.out.new_ HCb.out))
  rw [show bals (List.map prR (List.map (fun x => (some (txt x) : Res)) [6, 10, 14])) = row3 from bals_row row3_bnd, show sumI row3 = 30 from by decide] at HTO
  go_wp2_with fail
  refine HTO.out.mono ?_
  rintro e wc ⟨rfl, hN⟩
  dsimp only
  have HSc := Lib.hid (HSb.out.new_ hN)
  have HCc := Lib.hid (HCb.out.trans' hN)
  clear hN x0 x1 x2 HXb HSb HCb HTO HPR
  have HK12 := Lib.hid (fun w' => Key_any 12 (by omega) (by omega) w')
  rw [fx_key] at HK12
  go_wp2_with fail
  refine (HK12.out _).mono ?_
  rintro e wd ⟨rfl, hN⟩
  dsimp only
  have HSd := Lib.hid (HSc.out.new_ hN)
  have HCd := Lib.hid (HCc.out.trans' hN)
  clear hN HSc HCc HK12
  have HK16 := Lib.hid (fun w' => Key_bad 16 (by omega) w')
  obtain ⟨bs, offs, rfl, _, _, _, s0⟩ := HSd.out.at_ (i := 0) rfl
  obtain ⟨bs', offs', hA', _, _, _, s1⟩ := HSd.out.at_ (i := 1) rfl
  injection hA' with hA'
  injection hA' with hb1 ho1 _
  subst hb1 ho1
  obtain ⟨bs', offs', hA', _, _, _, s2⟩ := HSd.out.at_ (i := 2) rfl
  injection hA' with hA'
  injection hA' with hb1 ho1 _
  subst hb1 ho1
  unfold addO at s0 s1 s2
  dsimp only at s0 s1 s2
  simp only [Nat.zero_mul, Nat.add_zero, Nat.one_mul] at s0 s1 s2
  go_wp2_with fail
  refine (HK16.out _).mono ?_
  rintro e we ⟨rfl, rfl⟩
  dsimp only [emp]
  go_wp2_with fail
  go_ret
  exact ⟨rfl, Ch.below HBL.out HCd.out (fun _ h => h.elim) HBL.out.size⟩
end Go.Proofs.YtbggadhaaphmcaaDoor
