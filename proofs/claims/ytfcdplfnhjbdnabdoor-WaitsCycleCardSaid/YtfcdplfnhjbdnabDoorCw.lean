/- WaitsCycle: the law's walk. -/
import Derived.Test.YtfcdplfnhjbdnabDoorCp
namespace Go.Proofs.YtfcdplfnhjbdnabDoor
open Go.RowKit Go.Sort
set_option linter.unusedVariables false

/-- What is known of a graph that has the ring's first edges. -/
structure RG (G : List Nd) (ss rs : List Int) (k : Nat) : Prop where
  shape : Shape G ss
  edges : ∀ j, j < k → Eg G (rAt rs j) (rAt rs ((j + 1) % rs.length))
theorem rg_next {G : List Nd} {ss rs : List Int} {k : Nat} (h : RG G ss rs k) (hr : Ring rs ss.length) (hk : k < rs.length) (h2 : 2 ≤ rs.length) : RG (edgeL G (rAt rs k) (rAt rs ((k + 1) % rs.length))) ss rs (k + 1) := by
  have hm : (k + 1) % rs.length < rs.length := Nat.mod_lt _ (by omega)
  obtain ⟨x, hx⟩ := some_of_lt hk
  obtain ⟨y, hy⟩ := some_of_lt hm
  refine ⟨shape_edge h.shape _ _, fun j hj => ?_⟩
  by_cases e : j = k
  · subst e
    refine eg_new h.shape (rAt_of hr hx).2 (rAt_of hr hy).2 fun e' => ?_
    have := rAt_inj hr hk hm e'
    rcases Nat.lt_or_ge (j + 1) rs.length with hl | hl
    · rw [Nat.mod_eq_of_lt hl] at this; omega
    · have h8 : j + 1 = rs.length := by omega
      have h9 : (j + 1) % rs.length = 0 := by rw [h8, Nat.mod_self]
      omega
  · exact eg_mono (h.edges j (by omega))
set_option maxRecDepth 100000 in
set_option maxHeartbeats 8000000 in
theorem cycle_walk (A1 A2 A3 : Option Addr) (n1 c1 n2 c2 n3 c3 : Nat) (w : World) (hT : Tab w) (h1 : ∃ ss, Ints .u8 w A1 n1 ss) (h2 : ∃ es, EdgesAt w A2 n2 es) (h3 : (∃ rs, Ints .u8 w A3 n3 rs) ∧ n3 ≤ c3 ∧ c3 ≤ maxLen) :
    Calls Tryd.prog 3 #[.slice A1 n1 c1, .slice A2 n2 c2, .slice A3 n3 c3] w fun e w' => e = .returned (.bool true) ∧ Below w.heap.size w w' := by
  obtain ⟨ss, h1⟩ := h1
  obtain ⟨es, h2⟩ := h2
  obtain ⟨⟨rs, h3⟩, hc1, hc2⟩ := h3
  have hm1 : (n1 : Int) ≤ 9223372036854775807 := by have := h1.2.1; unfold maxLen at this; omega
  have hm2 : (n2 : Int) ≤ 9223372036854775807 := by have := h2.2.1; unfold maxLen at this; omega
  have hm3 : (n3 : Int) ≤ 9223372036854775807 := by have := h3.2.1; unfold maxLen at this; omega
  have hmc : (c3 : Int) ≤ 9223372036854775807 := by unfold maxLen at hc2; omega
  have hcI : (n3 : Int) ≤ (c3 : Int) := by omega
  have HI := Lib.hid h1
  have HE := Lib.hid h2
  have HR := Lib.hid h3
  have HFX := Lib.hid (fixed_any w hT)
  have HTB := Lib.hid (fun w' (hb : Below w.heap.size w w') => (show Tab w' from fun j hj => (hb.cell (block_lt_of_cell (hT j hj))).trans (hT j hj)))
  clear h1 h2 h3 hT hc2
  go_enter Tryd.func3, Tryd.ntmps3
  go_wp2_with fail
  refine HFX.out.mono ?_
  rintro e w1 ⟨rfl, hb⟩
  dsimp only
  have HB := Lib.hid hb
  clear hb HFX
  by_cases hk1 : 40 < n1
  · have d : decide (40 < (n1 : Int)) = true := by simp; omega
    have d' : decide (40 < n1) = true := by simpa using hk1
    go_wp2_with fail
    go_ret
    exact ⟨rfl, HB.out⟩
  have d1 : decide (40 < (n1 : Int)) = false := by simp; omega
  have d1' : decide (40 < n1) = false := by simp; omega
  by_cases hk2 : 200 < n2
  · have d : decide (200 < (n2 : Int)) = true := by simp; omega
    have d' : decide (200 < n2) = true := by simpa using hk2
    go_wp2_with fail
    go_ret
    exact ⟨rfl, HB.out⟩
  have d2 : decide (200 < (n2 : Int)) = false := by simp; omega
  have d2' : decide (200 < n2) = false := by simp; omega
  by_cases hk3 : n3 < 2
  · have d : decide ((n3 : Int) < 2) = true := by simp; omega
    have d' : decide (n3 < 2) = true := by simpa using hk3
    go_wp2_with fail
    go_ret
    exact ⟨rfl, HB.out⟩
  have d3 : decide ((n3 : Int) < 2) = false := by simp; omega
  have d3' : decide (n3 < 2) = false := by simp; omega
  by_cases hk4 : 40 < n3
  · have d : decide (40 < (n3 : Int)) = true := by simp; omega
    have d' : decide (40 < n3) = true := by simpa using hk4
    go_wp2_with fail
    go_ret
    exact ⟨rfl, HB.out⟩
  have d4 : decide (40 < (n3 : Int)) = false := by simp; omega
  have d4' : decide (40 < n3) = false := by simp; omega
  obtain ⟨rb, ro, rfl, hrb, hrc⟩ := HR.out.2.2.2 (by omega)
  have HRC := Lib.hid (fun (w' : World) (hb : Below w.heap.size w w') (i : Nat) (x : Int) (hx : rs[i]? = some x) => (show w'.cell? ⟨rb, ro + i, none⟩ = some (.int .u8 x) from (hb.cell hrb).trans (hrc i x hx)))
  have HRB := Lib.hid (fun (i : Nat) (x : Int) (hx : rs[i]? = some x) => (show 0 ≤ x ∧ x ≤ 255 from bounds_u8 (HR.out.2.2.1 x (mem_of_some hx))))
  have HRL := Lib.hid HR.out.1
  clear hrb hrc
  go_wp2_with fail
  go_loopw [44] (fun i w' => ∃ k : Nat, k ≤ n3 ∧ i = .int .i64 k ∧ (∀ (j : Nat) (x : Int), j < k → rs[j]? = some x → x < n1 ∧ ∀ j', j' < j → rs[j']? ≠ some x) ∧ w' = w1) (fun i _ => n3 - (intOf i).toNat)
  case atStart => exact ⟨0, by omega, rfl, fun j x hj => absurd hj (by omega), rfl⟩
  case round =>
    obtain ⟨k, hk, rfl, hpre, rfl⟩ := hrel
    have HP := Lib.hid hpre
    clear hpre
    by_cases hlt : k < n3
    · obtain ⟨x, hx⟩ := some_of_lt (L := rs) (i := k) (by rw [HRL.out]; exact hlt)
      have x0 := HRC.out _ HB.out k x hx
      obtain ⟨b0, b1⟩ := HRB.out k x hx
      have HX := Lib.hid hx
      clear hx
      by_cases hbig : (n1 : Int) ≤ x
      · have db : decide ((n1 : Int) ≤ x) = true := decide_eq_true hbig
        clear hbig
        go_wp2_with fail
        go_ret
        exact ⟨rfl, HB.out⟩
      · have db : decide ((n1 : Int) ≤ x) = false := decide_eq_false hbig
        have hkcI : (k : Int) ≤ (c3 : Int) := by omega
        go_wp2_with fail
        go_loopw [58] (fun i w' => ∃ j : Nat, j ≤ k ∧ i = .int .i64 j ∧ (∀ j', j' < j → rs[j']? ≠ some x) ∧ w' = wr) (fun i _ => k - (intOf i).toNat)
        case atStart => exact ⟨0, by omega, rfl, fun j hj => absurd hj (by omega), rfl⟩
        case round =>
          obtain ⟨j, hj, rfl, hpre, rfl⟩ := hrel
          have HP2 := Lib.hid hpre
          clear hpre
          by_cases hlt2 : j < k
          · obtain ⟨y, hy⟩ := some_of_lt (L := rs) (i := j) (by rw [HRL.out]; omega)
            have y0 := HRC.out _ HB.out j y hy
            have HY := Lib.hid hy
            clear hy
            by_cases hxy : x = y
            · have de : (x == y) = true := by simpa using hxy
              clear hxy
              go_wp2_with fail
              go_ret
              exact ⟨rfl, HB.out⟩
            · have de : (x == y) = false := by simpa using hxy
              have HNE := Lib.hid hxy
              clear hxy
              go_wp2_with fail
              refine ⟨⟨j + 1, by omega, by go_num, fun j' hj' e => ?_, trivial⟩, by simp [intOf]; omega⟩
              by_cases ej : j' = j
              · subst ej
                rw [HY.out] at e
                injection e with e
                exact HNE.out e.symm
              · exact HP2.out j' (by omega) e
          · obtain rfl : j = k := by omega
            have HBG := Lib.hid hbig
            clear hlt2 hj hbig
            go_wp2_with fail
            refine ⟨⟨j + 1, by omega, by go_num, fun j' x' hj' hx' => ?_, trivial⟩, by simp [intOf]; omega⟩
            by_cases ej : j' = j
            · subst ej
              rw [HX.out] at hx'
              injection hx' with hx'
              subst hx'
              exact ⟨by have := HBG.out; omega, HP2.out⟩
            · exact HP.out j' x' (by omega) hx'
    · obtain rfl : k = n3 := by omega
      have hring : Ring rs n1 := by
        have hjl : ∀ {j : Nat} {x : Int}, rs[j]? = some x → j < k := fun h => by have := lt_of_some h; rw [HRL.out] at this; exact this
        refine ⟨fun j x hx => ⟨(HRB.out j x hx).1, (HP.out j x (hjl hx) hx).1⟩, fun i j x hi hj => ?_⟩
        rcases Nat.lt_trichotomy i j with h | h | h
        · exact absurd hi ((HP.out j x (hjl hj) hj).2 i h)
        · exact h
        · exact absurd hj ((HP.out i x (hjl hi) hi).2 j h)
      have HRG := Lib.hid hring
      have hsl : ss.length = n1 := HI.out.1
      have HSL := Lib.hid hsl
      have HMD := Lib.hid (made_any HB.out A1 A2 n1 c1 n2 c2 ss es HI.out HE.out)
      have HSH := Lib.hid (shape_made (fun x hx => bounds_u8 (HI.out.2.2.1 x hx)) (by omega) es)
      generalize madeG ss es = G0 at *
      clear hring hsl hlt hk HP
      obtain ⟨y0, hy0⟩ := some_of_lt (L := rs) (i := 0) (by rw [HRL.out]; omega)
      obtain ⟨hya, hyl⟩ := rAt_of HRG.out hy0
      obtain ⟨sb, so, rfl, hsb, hsc⟩ := HI.out.2.2.2 (by omega)
      have HSC := Lib.hid (fun (w' : World) (hb : Below w.heap.size w w') (i : Nat) (hi : i < n1) => (show w'.cell? ⟨sb, so + i, none⟩ = some (.int .u8 (ss.getD i 0)) ∧ 0 ≤ ss.getD i 0 ∧ ss.getD i 0 ≤ 255 from by
        obtain ⟨x, hx⟩ := some_of_lt (L := ss) (i := i) (by rw [HSL.out]; exact hi)
        have e : ss.getD i 0 = x := by rw [List.getD_eq_getElem?_getD, hx]; rfl
        rw [e]
        exact ⟨(hb.cell hsb).trans (hsc i x hx), bounds_u8 (HI.out.2.2.1 x (mem_of_some hx))⟩))
      clear hsc hsb
      go_wp2_with fail
      refine HMD.out.mono ?_
      rintro e w2 ⟨gb, rfl, hK⟩
      dsimp only
      have z0 := HRC.out w2 hK.below 0 y0 hy0
      rw [Nat.add_zero] at z0
      obtain ⟨b0, b1⟩ := HRB.out 0 y0 hy0
      have hk0 : (0 : Int) < (k : Int) := by omega
      have HK2 := Lib.hid hK
      have HY0 := Lib.hid hy0
      clear hK HMD hy0
      go_wp2_with fail
      go_loopw [12, 76] (fun yv i w' => ∃ (j p : Nat) (y : Int) (G : List Nd), j ≤ k ∧ i = .int .i64 j ∧ yv = .int .i64 y ∧ rs[p]? = some y ∧ Yg ss rs j p ∧ RG G ss rs j ∧ KG w gb G w') (fun _ i _ => k - (intOf i).toNat)
      case atStart => exact ⟨0, 0, y0, G0, by omega, rfl, rfl, HY0.out, ⟨by rw [HRL.out]; omega, fun j hj => absurd hj (by omega)⟩, ⟨HSH.out, fun j hj => absurd hj (by omega)⟩, HK2.out⟩
      case round =>
        obtain ⟨j, p, y, G, hj, rfl, rfl, hyp, hYg, hRG, hK⟩ := hrel
        have HK := Lib.hid hK
        have HYG := Lib.hid hYg
        have HYP := Lib.hid hyp
        have HRGG := Lib.hid hRG
        obtain ⟨hyb, hybl⟩ := rAt_of HRG.out hyp
        by_cases hlt : j < k
        · obtain ⟨x, hx⟩ := some_of_lt (L := rs) (i := j) (by rw [HRL.out]; exact hlt)
          obtain ⟨nx, hnx⟩ : ∃ nx, nx = (j + 1) % k := ⟨_, rfl⟩
          have hnxl : nx < k := by rw [hnx]; exact Nat.mod_lt _ (by omega)
          obtain ⟨z, hz⟩ := some_of_lt (L := rs) (i := nx) (by rw [HRL.out]; exact hnxl)
          obtain ⟨hxa, hxl⟩ := rAt_of HRG.out hx
          obtain ⟨hza, hzl⟩ := rAt_of HRG.out hz
          have x0 := HRC.out wr hK.below j x hx
          have w0 := HRC.out wr hK.below nx z hz
          have HNG := Lib.hid (show RG (edgeL G (rAt rs j) (rAt rs nx)) ss rs (j + 1) from by
            have := rg_next hRG (by rw [HSL.out]; exact HRG.out) (by rw [HRL.out]; exact hlt) (by rw [HRL.out]; omega)
            rw [HRL.out, ← hnx] at this
            exact this)
          have HLX := Lib.hid (show lexB ss rs p j = (decide (ss.getD (rAt rs p) 0 < ss.getD (rAt rs j) 0) || ((ss.getD (rAt rs p) 0 == ss.getD (rAt rs j) 0) && decide (rAt rs p < rAt rs j))) from rfl)
          have HXJ := Lib.hid hx
          rw [← hxa] at x0 HXJ
          rw [← hza] at w0
          obtain ⟨y, rfl⟩ : ∃ yy : Nat, y = yy := ⟨rAt rs p, hyb.symm⟩
          have hyb' : rAt rs p = y := by omega
          rw [hyb'] at HLX hybl
          have hmE : ((j : Int) + 1) % (k : Int) = (nx : Int) := by rw [hnx]; simp
          have hmT : Int.tmod ((j : Int) + 1) (k : Int) = (nx : Int) := by rw [Int.tmod_eq_emod_of_nonneg (by omega)]; exact hmE
          have hw1 : IntKind.i64.wrap ((j : Int) + 1) = (j : Int) + 1 := IntWalk.i64_in _ (by omega)
          have hw2 : IntKind.i64.wrap (nx : Int) = (nx : Int) := IntWalk.i64_in _ (by omega)
          have hkne : ((k : Int) == 0) = false := by simp; omega
          have hkne' : ¬ ((k : Int) = 0) := by omega
          have HED := Lib.hid (edge_any hK (rAt rs j) (rAt rs nx))
          have HPJ := Lib.hid (Ne.symm (Nat.ne_of_lt hlt))
          clear hxa hza hx hz hyb hyb' hyp hYg hRG hK hnx
          obtain ⟨a, ha⟩ : ∃ a, rAt rs j = a := ⟨_, rfl⟩
          obtain ⟨c, hc⟩ : ∃ c, rAt rs nx = c := ⟨_, rfl⟩
          rw [ha] at x0 HXJ HNG HLX HED hxl
          rw [hc] at w0 HNG HED hzl
          have ha40 : (a : Int) ≤ 255 := by omega
          have hc40 : (c : Int) ≤ 255 := by omega
          have HSA := Lib.hid (fun (w' : World) (hb : Below w.heap.size w w') => HSC.out w' hb a hxl)
          have HSB := Lib.hid (fun (w' : World) (hb : Below w.heap.size w w') => HSC.out w' hb y hybl)
          obtain ⟨sx, hsx⟩ : ∃ sx, ss.getD a 0 = sx := ⟨_, rfl⟩
          obtain ⟨sy, hsy⟩ : ∃ sy, ss.getD y 0 = sy := ⟨_, rfl⟩
          rw [hsx] at HSA HLX
          rw [hsy] at HSB HLX
          have haI : (a : Int) < (n1 : Int) := by omega
          have hyI : (y : Int) < (n1 : Int) := by omega
          have hnxI : (nx : Int) < (k : Int) := by omega
          clear hsx hsy ha hc hnxl
          go_wp2_with fail
          refine HED.out.mono ?_
          rintro e w3 ⟨rfl, hK, _⟩
          dsimp only
          have HK3 := Lib.hid hK
          obtain ⟨s0, s1, s2⟩ := HSA.out w3 hK.below
          obtain ⟨t0, t1, t2⟩ := HSB.out w3 hK.below
          clear hK HED x0 w0
          go_wp2_with fail
          go_quiet (fail)
          have HK4 := Lib.hid (HK3.out.new_ ((Ch.refl (fun _ => False) w3).drewN nq))
          generalize w3.drewN nq = w4 at *
          clear s0 t0 HSA HSB
          by_cases hgt : sy < sx
          · have dg : decide (sy < sx) = true := decide_eq_true hgt
            have HGT := Lib.hid dg
            clear hgt
            go_wp2_with fail
            exact ⟨⟨j + 1, j, a, _, by omega, by go_num, rfl, HXJ.out, yg_new HYG.out (by rw [HRL.out]; exact hlt) (by rw [HLX.out]; rw [HGT.out]; rfl), HNG.out, HK4.out⟩, by simp [intOf]; omega⟩
          · have dg : decide (sy < sx) = false := decide_eq_false hgt
            by_cases heq : sx = sy
            · have de : (sx == sy) = true := by simpa using heq
              by_cases hya : y < a
              · have da : decide ((y : Int) < (a : Int)) = true := by simp; omega
                have da' : decide (y < a) = true := by simpa using hya
                have HGT := Lib.hid (show sy = sx ∧ y < a from ⟨heq.symm, hya⟩)
                clear hgt heq hya
                go_wp2_with fail
                exact ⟨⟨j + 1, j, a, _, by omega, by go_num, rfl, HXJ.out, yg_new HYG.out (by rw [HRL.out]; exact hlt) (by rw [HLX.out]; have hh := HGT.out; simp [hh.1, hh.2]), HNG.out, HK4.out⟩, by simp [intOf]; omega⟩
              · have da : decide ((y : Int) < (a : Int)) = false := by simp; omega
                have da' : decide (y < a) = false := by simpa using hya
                have HGT := Lib.hid (show sy = sx ∧ ¬ y < a from ⟨heq.symm, hya⟩)
                clear hgt heq hya
                go_wp2_with fail
                exact ⟨⟨j + 1, p, y, _, by omega, by go_num, rfl, HYP.out, yg_keep HRG.out HYG.out (by rw [HRL.out]; exact hlt) (by rw [HLX.out]; have hh := HGT.out; simp [hh.1]; omega), HNG.out, HK4.out⟩, by simp [intOf]; omega⟩
            · have de : (sx == sy) = false := by simpa using heq
              have HGT := Lib.hid (show ¬ sy < sx ∧ ¬ sy = sx from ⟨hgt, fun e => heq e.symm⟩)
              clear hgt heq
              go_wp2_with fail
              exact ⟨⟨j + 1, p, y, _, by omega, by go_num, rfl, HYP.out, yg_keep HRG.out HYG.out (by rw [HRL.out]; exact hlt) (by rw [HLX.out]; have hh := HGT.out; simp [hh.2]; omega), HNG.out, HK4.out⟩, by simp [intOf]; omega⟩
        · obtain rfl : j = k := by omega
          have hsh := hRG.shape
          have hGl := hsh.1
          rw [HSL.out] at hGl
          have hpl : p < j := by have := lt_of_some hyp; rw [HRL.out] at this; exact this
          have HVY := Lib.hid (show vict G (rAt rs p) = true from ring_vict hK.ok (n := j) (r := rAt rs) (fun i hi => by
              obtain ⟨u, hu⟩ := some_of_lt (L := rs) (i := i) (by rw [HRL.out]; exact hi)
              rw [hGl]; exact (rAt_of HRG.out hu).2) (fun i hi => by
              have := hRG.edges i hi
              rw [HRL.out] at this
              exact this) hpl (fun i hi => by
              rcases hYg.2 i hi with e | e
              · exact .inl e
              · obtain ⟨u, hu⟩ := some_of_lt (L := rs) (i := i) (by rw [HRL.out]; exact hi)
                exact .inr (by rw [lex_bef hsh (by rw [HSL.out]; exact (rAt_of HRG.out hu).2) (by rw [HSL.out]; exact hybl)]; exact e)))
          have HYN := Lib.hid (show ∃ u : Nd, G[rAt rs p]? = some u ∧ u.id = y from by
            obtain ⟨u, hu⟩ := some_of_lt (show rAt rs p < G.length by rw [hGl]; exact hybl)
            exact ⟨u, hu, (hsh.2 _ u hu).1.trans hyb⟩)
          have HOK := Lib.hid hK.ok
          obtain ⟨vv, hm⟩ := hK.gm
          have HOL := Lib.hid (oldest_any hm)
          clear hsh hGl hpl hyp hYg hRG hyb hybl hm hlt hj hK HYP HRGG HYG
          go_wp2_with fail
          refine HOL.out.mono ?_
          rintro e w5 ⟨ho, hN⟩
          obtain ⟨u, hu, rfl, hub⟩ : ∃ u : Nd, u ∈ G ∧ e = .returned (.tuple #[.int .i64 u.id, .bool true]) ∧ ∀ x : Nd, x ∈ G → bef x u = false := by
            rcases ho with ⟨h0, _⟩ | h0
            · obtain ⟨z, hz, _⟩ := HYN.out
              rw [h0] at hz
              simp at hz
            · exact h0
          dsimp only
          have HK5 := Lib.hid (HK.out.new_ hN)
          have HNO := Lib.hid (show ∀ v, v ∈ vicK G G.length → v ≠ u.id from fun v hv e => by
            obtain ⟨i, z, hz, hzv, hvi⟩ := vic_mem.1 hv
            obtain ⟨i', hi'⟩ := List.mem_iff_getElem?.1 hu
            have := ids_inj HOK.out hz hi' (hzv.trans e)
            subst this
            rw [oldest_not HOK.out hi' hub] at hvi
            cases hvi)
          obtain ⟨vv, hm⟩ := HK5.out.gm
          have HVC := Lib.hid (victims_any hm (HTB.out _ HK5.out.below))
          generalize u.id = uo at *
          clear ho hN hu hub hm HOL HK
          go_wp2_with fail
          refine HVC.out.mono ?_
          rintro e w6 ⟨A, c, rfl, ho, hN⟩
          dsimp only
          have HK6 := Lib.hid (HK5.out.new_ hN)
          obtain ⟨L, hL⟩ : ∃ L, sortI (vicK G G.length) = L := ⟨_, rfl⟩
          have HLP := Lib.hid (show L.Perm (vicK G G.length) from by rw [← hL]; exact List.mergeSort_perm _ _)
          rw [hL] at ho
          have hLn : (vicK G G.length).length = L.length := HLP.out.length_eq.symm
          rw [hLn] at ho
          rw [hLn]
          have HO := Lib.hid ho
          have hLm : L.length ≤ 64 := by rw [← hLn]; exact Nat.le_trans (vicK_len G G.length) HOK.out.len
          have HYL := Lib.hid (show y ∈ L from by
            obtain ⟨z, hz, hzi⟩ := HYN.out
            exact HLP.out.mem_iff.2 (vic_mem.2 ⟨_, z, hz, hzi, HVY.out⟩))
          obtain ⟨vv, hm⟩ := HK6.out.gm
          clear ho hN hLn hL HVC HK5
          generalize hmn : L.length = m at *
          have HM := Lib.hid hmn
          clear hmn
          have hmI : (m : Int) ≤ 64 := by omega
          clear hm
          go_wp2_with fail
          go_loopw [19, 127] (fun tv i w' => ∃ (q : Nat) (b : Bool), q ≤ m ∧ i = .int .i64 q ∧ tv = .bool b ∧ (b = true ↔ y ∈ L.take q) ∧ w' = w6) (fun _ i _ => m - (intOf i).toNat)
          case atStart => exact ⟨0, false, by omega, rfl, rfl, by simp, rfl⟩
          case round =>
            obtain ⟨q, b, hq, rfl, rfl, hb, rfl⟩ := hrel
            have HBV := Lib.hid hb
            clear hb
            by_cases hlt : q < m
            · obtain ⟨x, hx⟩ := some_of_lt (L := L) (i := q) (by rw [HM.out]; exact hlt)
              obtain ⟨g, rfl, hcell⟩ := row_kp HO.out (KpT.refl _) hx
              have hne := HNO.out x (HLP.out.mem_iff.1 (mem_of_some hx))
              have dne : (x == uo) = false := by simpa using hne
              have HTK := Lib.hid (show L.take (q + 1) = L.take q ++ [x] from by rw [List.take_add_one, hx]; rfl)
              clear hne hx
              cases b
              · by_cases hxy : x = y
                · have dxy : (x == y) = true := by simpa using hxy
                  have HXY := Lib.hid hxy
                  clear hxy
                  go_wp2_with fail
                  exact ⟨⟨q + 1, true, by omega, by go_num, rfl, by rw [HTK.out, HXY.out]; simp, by first | rfl | trivial⟩, by simp [intOf]; omega⟩
                · have dxy : (x == y) = false := by simpa using hxy
                  have HXY := Lib.hid hxy
                  clear hxy
                  go_wp2_with fail
                  refine ⟨⟨q + 1, false, by omega, by go_num, rfl, ?_, by first | rfl | trivial⟩, by simp [intOf]; omega⟩
                  rw [HTK.out, List.mem_append, ← HBV.out, List.mem_singleton]
                  have := HXY.out
                  simp
                  exact fun e => this e.symm
              · go_wp2_with fail
                refine ⟨⟨q + 1, true, by omega, by go_num, rfl, ?_, by first | rfl | trivial⟩, by simp [intOf]; omega⟩
                rw [HTK.out, List.mem_append, ← HBV.out]
                simp
            · obtain rfl : q = m := by omega
              obtain rfl : b = true := HBV.out.2 (by rw [← HM.out, List.take_length]; exact HYL.out)
              obtain ⟨vv, hm⟩ := HK6.out.gm
              have HCY := Lib.hid (cyclic_any hm (HTB.out _ HK6.out.below))
              clear hm hlt hq
              go_wp2_with fail
              refine HCY.out.mono ?_
              rintro e w7 ⟨⟨r, rfl, hr⟩, hN⟩
              obtain rfl : r = true := by
                rcases hr with ⟨h', _⟩ | ⟨_, hall⟩
                · exact h'
                · have := vict_cyc HOK.out HVY.out
                  rw [hall _ this.1] at this
                  cases this.2
              have HEND := Lib.hid (HK6.out.new_ hN).below
              clear hr hN HCY
              dsimp only
              go_wp2_with fail
              go_ret
              exact ⟨rfl, HEND.out⟩
end Go.Proofs.YtfcdplfnhjbdnabDoor
