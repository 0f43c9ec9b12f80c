/- WaitsOrder: the law's walk. -/
import Derived.Test.YtfcdplfnhjbdnabDoorYp
import Derived.Test.YtfcdplfnhjbdnabDoorEw
namespace Go.Proofs.YtfcdplfnhjbdnabDoor
open Go.RowKit Go.Sort
set_option linter.unusedVariables false

theorem edge_cells {w w' : World} {B n c : Nat} {A : Option Addr} {es : List (Int × Int)} (ho : w.ownsRow B 41 2 (.slice A n c) n (flatE es)) (hn : es.length = n) (hc : NewW w w') {k : Nat} {e : Int × Int} (he : es[k]? = some e) :
    ∃ g, A = some ⟨g, 0, none⟩ ∧ w'.cell? ⟨g, k * 2, none⟩ = some (.int .i64 e.1) ∧ w'.cell? ⟨g, k * 2 + 1, none⟩ = some (.int .i64 e.2) := by
  obtain ⟨g, q, hv, _, _⟩ := ho.form (by have := lt_of_some he; omega)
  injection hv with hv _ _
  subst hv
  obtain ⟨r0, r1⟩ := flatE_get es he
  have a := ho.cells (g := g) rfl _ _ r0
  have b := ho.cells (g := g) rfl _ _ r1
  rw [add_mk, Nat.zero_add] at a b
  exact ⟨g, rfl, new_cell hc a, new_cell hc b⟩
theorem row_cell {w : World} {B n c g : Nat} {L : List Int} (ho : w.ownsRow B 3 1 (.slice (some ⟨g, 0, none⟩) n c) n (ints L)) {j : Nat} {x : Int} (hx : L[j]? = some x) : w.cell? ⟨g, j, none⟩ = some (.int .i64 x) := by
  have hc := ho.cells (g := g) rfl j (.int .i64 x) (by rw [List.getElem?_map, hx]; rfl)
  rwa [add_mk, Nat.zero_add] at hc
set_option maxRecDepth 100000 in
set_option maxHeartbeats 8000000 in
theorem order_walk (A1 A2 : Option Addr) (n1 c1 n2 c2 : Nat) (w : World) (hT : Tab w) (h1 : ∃ ss, Ints .u8 w A1 n1 ss) (h2 : ∃ es, EdgesAt w A2 n2 es) :
    Calls Tryd.prog 5 #[.slice A1 n1 c1, .slice A2 n2 c2] w fun e w' => e = .returned (.bool true) ∧ Below w.heap.size w w' := by
  obtain ⟨ss, h1⟩ := h1
  obtain ⟨es, h2⟩ := h2
  obtain ⟨i1, hi1, hy0, hy1, hy2⟩ := info_parts int_info
  have hm1 : (n1 : Int) ≤ 9223372036854775807 := by have := h1.2.1; unfold maxLen at this; omega
  have hm2 : (n2 : Int) ≤ 9223372036854775807 := by have := h2.2.1; unfold maxLen at this; omega
  have HI := Lib.hid h1
  have HE := Lib.hid h2
  have HFX := Lib.hid (fixed_any w hT)
  have HTB := Lib.hid (fun w' (hb : Below w.heap.size w w') => (show Tab w' from fun j hj => (hb.cell (block_lt_of_cell (hT j hj))).trans (hT j hj)))
  clear h1 h2 hT
  go_enter Tryd.func5, Tryd.ntmps5
  go_wp2_with fail
  refine HFX.out.mono ?_
  rintro e w1 ⟨rfl, hb⟩
  dsimp only
  have HB := Lib.hid hb
  clear hb HFX
  by_cases hk1 : 40 < n1
  · have d : decide (40 < (n1 : Int)) = true := by simp; omega
    have d' : decide (40 < n1) = true := by simpa using hk1
    go_wp2_with fail
    go_ret
    exact ⟨rfl, HB.out⟩
  have d1 : decide (40 < (n1 : Int)) = false := by simp; omega
  have d1' : decide (40 < n1) = false := by simp; omega
  by_cases hk2 : 300 < n2
  · have d : decide (300 < (n2 : Int)) = true := by simp; omega
    have d' : decide (300 < n2) = true := by simpa using hk2
    go_wp2_with fail
    go_ret
    exact ⟨rfl, HB.out⟩
  have d2 : decide (300 < (n2 : Int)) = false := by simp; omega
  have d2' : decide (300 < n2) = false := by simp; omega
  have HMD := Lib.hid (made_any HB.out A1 A2 n1 c1 n2 c2 ss es HI.out HE.out)
  have HSH := Lib.hid (shape_made (fun x hx => bounds_u8 (HI.out.2.2.1 x hx)) (by have := HI.out.1; omega) es)
  have HGL := Lib.hid (show (madeG ss es).length = n1 from by rw [HSH.out.1, HI.out.1])
  generalize madeG ss es = G at *
  go_wp2_with fail
  refine HMD.out.mono ?_
  rintro e w2 ⟨gb, rfl, hK⟩
  dsimp only
  have HOK := Lib.hid hK.ok
  have HK2 := Lib.hid hK
  obtain ⟨vv, hm⟩ := hK.gm
  have HOR := Lib.hid (order_any hm (HTB.out _ hK.below))
  clear hK hm HMD HB HE
  go_wp2_with fail
  refine HOR.out.mono ?_
  rintro e w3 ⟨hcase, hN⟩
  have HK3 := Lib.hid (HK2.out.new_ hN)
  obtain ⟨vv, hm⟩ := HK3.out.gm
  have HCY := Lib.hid (cyclic_any hm (HTB.out _ HK3.out.below))
  clear hN hm HOR HK2
  rcases hcase with ⟨hcyc, rfl⟩ | ⟨hac, o, A, c, hOrd, rfl, ho⟩
  · have HC := Lib.hid hcyc
    clear hcyc
    dsimp only
    go_wp2_with fail
    refine HCY.out.mono ?_
    rintro e w4 ⟨⟨r, rfl, hr⟩, hN⟩
    obtain rfl : r = true := by
      rcases hr with ⟨h, _⟩ | ⟨_, hall⟩
      · exact h
      · obtain ⟨i, hi, hc⟩ := HC.out
        rw [hall i hi] at hc
        cases hc
    dsimp only
    have HK4 := Lib.hid (HK3.out.new_ hN)
    clear hr hN
    go_wp2_with fail
    go_ret
    exact ⟨rfl, HK4.out.below⟩
  · have hon : o.length = n1 := (ord_end hOrd).trans HGL.out
    rw [hon] at ho
    rw [hon]
    have HO := Lib.hid ho
    have HORD := Lib.hid hOrd
    have HON := Lib.hid hon
    have HAC := Lib.hid hac
    clear ho hOrd hon hac
    dsimp only
    go_wp2_with fail
    refine HCY.out.mono ?_
    rintro e w4 ⟨⟨r, rfl, hr⟩, hN⟩
    obtain rfl : r = false := by
      rcases hr with ⟨_, i, hi, hc⟩ | ⟨h, _⟩
      · rw [HAC.out i hi] at hc
        cases hc
      · exact h
    dsimp only
    have HK4 := Lib.hid (HK3.out.new_ hN)
    have HN4 := Lib.hid hN
    clear hr hN HAC HCY HK3
    have dn : ((n1 : Int) != (n1 : Int)) = false := by simp
    go_wp2_with (first
      | (at_make
         refine wpList_make_full _ rfl _ _ 31 rfl w4.heap.size 3 i1 (.int .i64 0) 1 Tryd.underlying31 hi1 hy0 hy1 _ _ _ _ n1 rfl rfl rfl rfl (by rw [hy2]; omega) (by unfold maxLen; omega) (by simp) ?_
         intro w5 hown5 hg5
         have HP5 := Lib.hid hown5
         have HG5 := Lib.hid hg5
         clear hown5 hg5))
    obtain ⟨gp, hgp⟩ : ∃ gp, w4.heap.size = gp := ⟨_, rfl⟩
    rw [hgp] at HP5
    simp only [hgp]
    have HGP := Lib.hid hgp
    clear hgp
    have HPR := Lib.hid (show w5.ownsRow gp 3 1 (.slice (some ⟨gp, 0, none⟩) n1 n1) n1 (ints (List.replicate n1 0)) from by
      have h := HP5.out
      rw [show (Value.int .i64 0).cells = #[Value.int .i64 0] from rfl, Nat.mul_one, toList_madeCells_one] at h
      have e : ints (List.replicate n1 0) = List.replicate n1 (.int .i64 0) := by simp [ints]
      rw [e]
      exact h)
    have HC5 := Lib.hid (show NewW w4 w5 from (Ch.refl _ _).grown HG5.out (fun x hx => by cases hx))
    clear HP5 HG5
    go_loopw [58] (fun i w' => ∃ (k : Nat) (row : List Int), k ≤ n1 ∧ i = .int .i64 k ∧ Pl n1 o k row ∧ w'.ownsRow gp 3 1 (.slice (some ⟨gp, 0, none⟩) n1 n1) n1 (ints row) ∧ NewW w4 w') (fun i _ => n1 - (intOf i).toNat)
    case atStart => exact ⟨0, _, by omega, rfl, pl_zero n1 o, HPR.out, HC5.out⟩
    case round =>
      obtain ⟨k, row, hk, rfl, hPl, hP, hC⟩ := hrel
      have HPL := Lib.hid hPl
      have HP := Lib.hid hP
      have HC := Lib.hid hC
      by_cases hlt : k < n1
      · obtain ⟨x, hx⟩ := some_of_lt (L := o) (i := k) (by rw [HON.out]; exact hlt)
        have hxn : x < n1 := by rw [← HGL.out]; exact HORD.out.lt x (mem_of_some hx)
        have hxI : (x : Int) < (n1 : Int) := by omega
        obtain ⟨gl, rfl, hcell⟩ := row_kp HO.out (KpT.new_ (HN4.out.trans' hC)) (ids_at HSH.out HORD.out hx)
        obtain ⟨v, hv⟩ := some_of_lt (L := row) (i := x) (by rw [hPl.len]; exact hxn)
        obtain rfl := pl_free hPl HORD.out.nd hx hv
        have hp0 := row_cell hP hv
        have hpf := hP.frozenAt x
        have HPL2 := Lib.hid (pl_snoc hPl hx)
        have dx0 : decide ((x : Int) < 0) = false := by simp
        have dx1 : decide ((n1 : Int) ≤ (x : Int)) = false := by simp; omega
        have dx1' : decide (n1 ≤ x) = false := by simp; omega
        have HP2 := Lib.hid (hP.stored x (.int .i64 ((k : Int) + 1))).1
        have HC2 := Lib.hid (hC.setCell (p := ⟨gp, x, none⟩) (.inr (Nat.le_of_eq HGP.out)) (.int .i64 ((k : Int) + 1)))
        clear hPl hP hC hx hv HC HP HPL
        go_wp2_with fail
        refine ⟨⟨k + 1, _, by omega, by go_num, by push_cast; exact HPL2.out, ?_, HC2.out⟩, by simp [intOf]; omega⟩
        have e : ints (row.set x ((k : Int) + 1)) = (ints row).set x (.int .i64 ((k : Int) + 1)) := by simp [ints, List.map_set]
        rw [e]
        exact HP2.out
      · obtain rfl : k = n1 := by omega
        have HK6 := Lib.hid (HK4.out.new_ hC)
        have HN6 := Lib.hid (HN4.out.trans' hC)
        obtain ⟨vv, hm⟩ := HK6.out.gm
        have HED := Lib.hid (edges_any hm)
        clear hPl hP hC hm hk hlt HC HK4 HN4 HPR HC5
        obtain ⟨ee, hee⟩ : ∃ ee, edgesG G = ee := ⟨_, rfl⟩
        have hel : ee.length ≤ 1600 := by
          rw [← hee]
          refine Nat.le_trans edgesG_len ?_
          rw [HGL.out]
          exact Nat.mul_le_mul (show k ≤ 40 by omega) (show k ≤ 40 by omega)
        rw [hee] at HED
        have HEE := Lib.hid hee
        clear hee
        generalize heN : ee.length = m3 at *
        have HEN := Lib.hid heN
        clear heN
        have hm3 : (m3 : Int) ≤ 1600 := by omega
        go_wp2_with fail
        refine HED.out.mono ?_
        rintro e w6 ⟨A3, c3, rfl, he3, hN⟩
        dsimp only
        have HE3 := Lib.hid he3
        have HP6 := Lib.hid (own_ch HP.out hN (fun _ _ h => h))
        have HK7 := Lib.hid (HK6.out.new_ hN)
        have HN7 := Lib.hid (HN6.out.trans' hN)
        clear he3 hN HED HP HK6 HN6
        go_wp2_with fail
        go_loopw [87] (fun i w' => ∃ q : Nat, q ≤ m3 ∧ i = .int .i64 q ∧ NewW w6 w') (fun i _ => m3 - (intOf i).toNat)
        case atStart => exact ⟨0, by omega, rfl, Ch.refl _ _⟩
        case round =>
          obtain ⟨q, hq, rfl, hC⟩ := hrel
          have HC := Lib.hid hC
          by_cases hlt : q < m3
          · obtain ⟨eg, heg⟩ := some_of_lt (L := ee) (i := q) (by rw [HEN.out]; exact hlt)
            obtain ⟨i, j, hij, hi, hj, hE⟩ := edge_at HOK.out HSH.out (by rw [HEE.out]; exact heg)
            subst hij
            rw [HGL.out] at hi hj
            obtain ⟨g3, rfl, x0, x1⟩ := edge_cells HE3.out HEN.out hC heg
            have hpl := HPL.out
            obtain ⟨u, hu⟩ := some_of_lt (L := row) (i := i) (by rw [hpl.len]; exact hi)
            obtain ⟨v, hv⟩ := some_of_lt (L := row) (i := j) (by rw [hpl.len]; exact hj)
            rw [← HGL.out] at hpl
            have hvu := pl_edge HOK.out HORD.out hpl hE hu hv
            have dv : decide (u ≤ v) = false := by simp; omega
            have hcb : NewW wr (wr.alloc (.cells #[.int .i64 (i : Int), .int .i64 (j : Int)] 41)) := (Ch.refl _ wr).alloc _
            have HCB := Lib.hid (hC.trans' hcb)
            have BX := Lib.hid (Blk.new wr 41 #[.int .i64 (i : Int), .int .i64 (j : Int)])
            have HPB := Lib.hid (own_ch HP6.out (hC.trans' hcb) (fun _ _ h => h))
            have HU := Lib.hid (row_cell HPB.out hu)
            have HV := Lib.hid (row_cell HPB.out hv)
            have hiI : (i : Int) < (k : Int) := by omega
            have hjI : (j : Int) < (k : Int) := by omega
            have hqI : (q : Int) < (m3 : Int) := by omega
            dsimp only at x0 x1
            clear hC heg hE hpl hu hv hvu hcb HC HPB
            go_upto_region 22 with (fail)
            generalize wr.alloc (.cells #[.int .i64 (i : Int), .int .i64 (j : Int)] 41) = wb at *
            generalize wr.heap.size = bx at *
            have y0 : wb.cell? ⟨bx, 0, none⟩ = some (.int .i64 (i : Int)) := by rw [BX.out.cell]; rfl
            have y1 : wb.cell? ⟨bx, 1, none⟩ = some (.int .i64 (j : Int)) := by rw [BX.out.cell]; rfl
            have yu := HU.out
            have yv := HV.out
            clear x0 x1 HU HV BX
            go_quiet (fail)
            go_wp2_with fail
            exact ⟨⟨q + 1, by omega, by go_num, by first | exact HCB.out | exact Ch.drewN HCB.out _ | exact Ch.drew HCB.out⟩, by simp [intOf]; omega⟩
          · obtain rfl : q = m3 := by omega
            clear hlt hq hC
            have HK8 := Lib.hid (HK7.out.new_ HC.out)
            have HN8 := Lib.hid (HN7.out.trans' HC.out)
            clear HK7 HN7 HC HP6 HE3 HPL
            obtain ⟨w8, hw8⟩ : ∃ w8, w8 = wr := ⟨_, rfl⟩
            subst hw8
            go_wp2_with fail
            go_loopw [13] (fun i w' => ∃ z : Nat, 1 ≤ z ∧ z ≤ k + 1 ∧ i = .int .i64 z ∧ NewW w8 w') (fun i _ => k + 1 - (intOf i).toNat)
            case atStart => exact ⟨1, by omega, by omega, rfl, Ch.refl _ _⟩
            case round =>
              obtain ⟨z, hz1, hz2, rfl, hC⟩ := hrel
              have HC := Lib.hid hC
              by_cases hlt : z < k
              · obtain ⟨p, hzp⟩ : ∃ p, z = p + 1 := ⟨z - 1, by omega⟩
                obtain ⟨x, hx⟩ := some_of_lt (L := o) (i := z) (by rw [HON.out]; exact hlt)
                obtain ⟨y, hy⟩ := some_of_lt (L := o) (i := p) (by rw [HON.out]; omega)
                have hxl := HORD.out.lt x (mem_of_some hx)
                have hyl := HORD.out.lt y (mem_of_some hy)
                obtain ⟨gl, hA, -⟩ := row_kp HO.out (KpT.new_ (HN8.out.trans' hC)) (ids_at HSH.out HORD.out hx)
                subst hA
                have HCL := Lib.hid (fun (w' : World) (hc : NewW w8 w') => And.intro (row_cell (own_ch HO.out (HN8.out.trans' hc) (fun _ _ h => h)) (ids_at HSH.out HORD.out hx)) (row_cell (own_ch HO.out (HN8.out.trans' hc) (fun _ _ h => h)) (ids_at HSH.out HORD.out hy)))
                obtain ⟨R, hR⟩ : ∃ R, elderB G (x : Int) (y : Int) = R := ⟨_, rfl⟩
                obtain ⟨vv, hm⟩ := (HK8.out.new_ hC).gm
                have HEL := Lib.hid (fun (w' : World) (hc : Ch (fun _ => False) wr w') => elder_any (hm.new_ hc) (x : Int) (y : Int))
                rw [hR] at HEL
                have HELD := Lib.hid (show R = true → ((x : Int), (y : Int)) ∈ ee from fun hr => by
                  rw [elder_at HSH.out hxl hyl, hr] at hR
                  rw [← HEE.out]
                  exact edge_in HOK.out HSH.out (ord_elder HOK.out HORD.out hy (by rw [← hzp]; exact hx) hR))
                have hz0 : (0 : Int) ≤ (z : Int) := by omega
                have hzI : (z : Int) < (k : Int) := by omega
                have hpI : (p : Int) < (k : Int) := by omega
                have hw1 : IntKind.i64.wrap ((z : Int) - 1) = (p : Int) := by rw [show (z : Int) - 1 = (p : Int) by omega]; exact IntWalk.i64_in _ (by omega)
                have hw2 : (z : Int) - 1 = (p : Int) := by omega
                have hw3 : IntKind.i64.wrap (p : Int) = (p : Int) := IntWalk.i64_in _ (by omega)
                obtain ⟨x0, y0⟩ := HCL.out wr hC
                have HST := Lib.hid (fun w' (hc : Ch (fun _ => False) wr w') => And.intro (new_cell hc x0) (new_cell hc y0))
                clear hC hx hy hxl hyl hR hm hzp
                obtain ⟨wo, hwo⟩ : ∃ wo, wo = wr := ⟨_, rfl⟩
                subst hwo
                go_wp2_with fail
                go_region_held3 (fun w' => w'.cell? ⟨gl, z, none⟩ = some (.int .i64 (x : Int)) ∧ w'.cell? ⟨gl, p, none⟩ = some (.int .i64 (y : Int))) (exact HST.out _ (by repeat (first | with_reducible exact hN5 | with_reducible exact Ch.refl _ _ | with_reducible refine Ch.drew ?_ | with_reducible refine Ch.drewN ?_ _ | with_reducible refine Ch.trans' ?_ hN5)))
                  (first
                    | (go_at_call 18; refine (HEL.out _ (by repeat (first | with_reducible exact Ch.refl _ _ | with_reducible refine Ch.drew ?_ | with_reducible refine Ch.drewN ?_ _))).mono ?_; rintro e w5 ⟨rfl, hN5⟩; have hN5 : Ch (fun _ => False) _ w5 := hN5))
                all_goals
                  have HC9 := Lib.hid (show NewW w8 w5 from HC.out.trans' ((Ch.refl (fun _ => False) wo).drew.trans' hN5))
                  clear hN5 HST HEL x0 y0
                  cases R
                  · clear HELD
                    go_wp2_with fail
                    exact ⟨⟨z + 1, by omega, by omega, by go_num, HC9.out⟩, by simp [intOf]; omega⟩
                  · have HM := Lib.hid (HELD.out rfl)
                    have HK9 := Lib.hid (HK8.out.new_ HC9.out)
                    obtain ⟨vv, hm⟩ := HK9.out.gm
                    have HED := Lib.hid (edges_any hm)
                    rw [HEE.out, HEN.out] at HED
                    clear hm HELD
                    go_wp2_with fail
                    refine HED.out.mono ?_
                    rintro e w10 ⟨A3, c3, rfl, he3, hN⟩
                    dsimp only
                    have HE3 := Lib.hid he3
                    have HC10 := Lib.hid (HC9.out.trans' hN)
                    clear he3 hN HED HK9
                    go_wp2_with fail
                    go_loopw [14, 123] (fun f i w' => ∃ m : Nat, m ≤ q ∧ i = .int .i64 m ∧ f = .bool (freeK ee (x : Int) (y : Int) m) ∧ NewW w10 w') (fun _ i _ => q - (intOf i).toNat)
                    case atStart => exact ⟨0, by omega, rfl, by rw [freeK_zero], Ch.refl _ _⟩
                    case round =>
                      obtain ⟨m, hm, rfl, rfl, hC⟩ := hrel
                      by_cases hlm : m < q
                      · obtain ⟨⟨ea, eb⟩, heg⟩ := some_of_lt (L := ee) (i := m) (by rw [HEN.out]; exact hlm)
                        obtain ⟨g3, rfl, e0, e1⟩ := edge_cells HE3.out HEN.out hC heg
                        have HFS := Lib.hid (freeK_step (a := (x : Int)) (b := (y : Int)) heg)
                        have hcb : NewW wr (wr.alloc (.cells #[.int .i64 ea, .int .i64 eb] 41)) := (Ch.refl _ wr).alloc _
                        have HCB := Lib.hid (hC.trans' hcb)
                        have BX := Lib.hid (Blk.new wr 41 #[.int .i64 ea, .int .i64 eb])
                        have HCW := Lib.hid (HCL.out _ (HC10.out.trans' (hC.trans' hcb)))
                        have hmI : (m : Int) < (q : Int) := by omega
                        obtain ⟨F, hF⟩ : ∃ F, freeK ee (x : Int) (y : Int) m = F := ⟨_, rfl⟩
                        rw [hF] at HFS ⊢
                        dsimp only at e0 e1
                        clear hC heg hcb hF
                        go_upto_region 33 with (fail)
                        generalize wr.alloc (.cells #[.int .i64 ea, .int .i64 eb] 41) = wb at *
                        generalize wr.heap.size = bx at *
                        have y0 : wb.cell? ⟨bx, 0, none⟩ = some (.int .i64 ea) := by rw [BX.out.cell]; rfl
                        have y1 : wb.cell? ⟨bx, 1, none⟩ = some (.int .i64 eb) := by rw [BX.out.cell]; rfl
                        obtain ⟨l0, l1⟩ := HCW.out
                        clear e0 e1 BX HCW
                        cases F
                        · go_quiet (fail)
                          go_wp2_with fail
                          exact ⟨⟨m + 1, by omega, by go_num, by rw [HFS.out]; rfl, by first | exact HCB.out | exact Ch.drewN HCB.out _ | exact Ch.drew HCB.out⟩, by simp [intOf]; omega⟩
                        · by_cases h1 : ea = (x : Int)
                          · have d1 : (ea != (x : Int)) = false := by simp [h1]
                            have HF2 := Lib.hid (show freeK ee (x : Int) (y : Int) (m + 1) = (eb != (y : Int)) from by rw [HFS.out]; simp [h1])
                            have d3 : decide (ea = (x : Int)) = true := by simp [h1]
                            clear h1
                            by_cases h2 : eb = (y : Int)
                            · have d2 : (eb != (y : Int)) = false := by simp [h2]
                              have d4 : decide (eb = (y : Int)) = true := by simp [h2]
                              clear h2
                              go_quiet (fail)
                              go_wp2_with fail
                              exact ⟨⟨m + 1, by omega, by go_num, by rw [HF2.out, d2], by first | exact HCB.out | exact Ch.drewN HCB.out _ | exact Ch.drew HCB.out⟩, by simp [intOf]; omega⟩
                            · have d2 : (eb != (y : Int)) = true := by simp [h2]
                              have d4 : decide (eb = (y : Int)) = false := by simp [h2]
                              clear h2
                              go_quiet (fail)
                              go_wp2_with fail
                              exact ⟨⟨m + 1, by omega, by go_num, by rw [HF2.out, d2], by first | exact HCB.out | exact Ch.drewN HCB.out _ | exact Ch.drew HCB.out⟩, by simp [intOf]; omega⟩
                          · have d1 : (ea != (x : Int)) = true := by simp [h1]
                            have d3 : decide (ea = (x : Int)) = false := by simp [h1]
                            clear h1
                            have HF2 := Lib.hid (show freeK ee (x : Int) (y : Int) (m + 1) = true from by rw [HFS.out]; simp [d1])
                            go_quiet (fail)
                            go_wp2_with fail
                            exact ⟨⟨m + 1, by omega, by go_num, by rw [HF2.out], by first | exact HCB.out | exact Ch.drewN HCB.out _ | exact Ch.drew HCB.out⟩, by simp [intOf]; omega⟩
                      · obtain rfl : m = q := by omega
                        have HC11 := Lib.hid (HC10.out.trans' hC)
                        have hfr : freeK ee (x : Int) (y : Int) m = false := by
                          unfold freeK
                          rw [← HEN.out, List.take_length]
                          simpa using HM.out
                        rw [hfr]
                        clear hlm hC hm hfr
                        go_wp2_with fail
                        exact ⟨⟨z + 1, by omega, by omega, by go_num, HC11.out⟩, by simp [intOf]; omega⟩
              · have hzk : decide ((z : Int) < (k : Int)) = false := by simp; omega
                have hzk' : decide (z < k) = false := by simp; omega
                clear hC
                go_wp2_with fail
                go_ret
                exact ⟨rfl, (HK8.out.new_ HC.out).below⟩
end Go.Proofs.YtfcdplfnhjbdnabDoor
