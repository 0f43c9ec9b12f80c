/- SerialMade: the walk. -/
import Derived.Test.YtbggadhaaphmcaaDoorZwm
import Derived.Test.YtbggadhaaphmcaaDoorZj
namespace Go.Proofs.YtbggadhaaphmcaaDoor
open Go.Lib Go.RowKit
set_option linter.unusedVariables false
theorem deed_info : (Tryd.prog.info? 89).map (fun i => (i.zero, i.size, i.bytes)) = some (some (.agg #[.int .i64 0, .int .i64 0, .slice none 0 0, .slice none 0 0, .bool false]), 5, 72) := by kernel_rfl
theorem plan_info : (Tryd.prog.info? 31).map (fun i => (i.zero, i.size, i.bytes)) = some (some (.slice none 0 0), 1, 24) := by kernel_rfl
theorem reads_two (w : World) (o : Obj) (t : TypeId) (u : Value) : Reads ((w.alloc o).alloc (.cells #[u] t)) (w.heap.size + 1 + 1) 1 (some ⟨w.heap.size + 1, 0, none⟩) 1 [u] := by
  have h := reads_one (w.alloc o) t u
  rwa [World.size_alloc] at h
theorem own_blk_of {w : World} {base : Nat} {e : TypeId} {size n g : Nat} {v : Value} {xs : List Value} (h : w.ownsRow base e size v n xs) (hg : v.ownBlock = some g) : ∃ cs, v.ownBlock = some g ∧ Blk w g e cs := by
  rcases h.2 with ⟨ev, _⟩ | ⟨g', cap, cur, ev, _, hh, _⟩
  · rw [ev] at hg; simp [Value.ownBlock] at hg
  · rw [ev] at hg
    have : g' = g := by simpa [Value.ownBlock] using hg
    subst this
    exact ⟨cur, by rw [ev]; rfl, hh⟩
set_option maxRecDepth 100000 in
set_option maxHeartbeats 8000000 in
theorem made_walk (A : Option Addr) (n c : Nat) (l : List WasD) (w : World) (hE : Env w) (hW : Wass w A n l) (hS : SmallW l) :
    Calls Tryd.prog 11 #[.slice A n c] w fun e w' => e = .returned (.bool true) ∧ Below w.heap.size w w' := by
  have HFX := Lib.hid (fixedS_any hE)
  have HE := Lib.hid hE
  have H := Lib.hid hW
  have HL := Lib.hid hW.1
  have HSM := Lib.hid hS
  have hnm := hW.2.1
  have hnI : (n : Int) ≤ 9223372036854775807 := by unfold maxLen at hnm; omega
  obtain ⟨i1, hi1, hy0, hy1, hy2⟩ := info_parts plan_info
  obtain ⟨i2, hi2, hz0, hz1, hz2⟩ := info_parts deed_info
  obtain ⟨i3, hi3, hx0, hx1, hx2⟩ := info_parts int_info3
  clear hE hW hS hnm
  go_enter Tryd.func11, Tryd.ntmps11
  go_wp2_with fail
  refine HFX.out.mono ?_
  rintro e w1 ⟨rfl, hb⟩
  dsimp only
  have HB1 := Lib.hid hb
  have HE1 := Lib.hid (HE.out.below hb)
  have H1 := Lib.hid (H.out.below hb)
  have HBX := Lib.hid (fun w' (hc : NewW w1 w') => (show Below w.heap.size w w' from Ch.below HB1.out hc (fun _ h => h.elim) HB1.out.size))
  clear hb HFX
  by_cases h8 : 8 < n
  · have d : decide (8 < (n : Int)) = true := by simp; omega
    have d' : decide (8 < n) = true := by simpa using h8
    clear h8
    go_wp2_with fail
    go_ret
    exact ⟨rfl, HB1.out⟩
  have d : decide (8 < (n : Int)) = false := by simp; omega
  have d' : decide (8 < n) = false := by simpa using h8
  have hn8 : (n : Int) ≤ 8 := by omega
  have hn8N : n ≤ 8 := by omega
  have HN8 := Lib.hid hn8N
  clear h8 hn8N
  go_wp2_with fail
  go_loopw [3, 29] (fun pv i wr => ∃ (k : Nat) (vals : List Value), k ≤ n ∧ i = .int .i64 k ∧ NewW w1 wr ∧ wr.ownsRow w1.heap.size 31 1 pv k vals ∧ PlR w1 l k vals) (fun _ i _ => n - (intOf i).toNat)
  case atStart => exact ⟨0, [], by omega, rfl, Ch.refl _ _, own_nil, PlR.nil_ _ _⟩
  case round =>
    obtain ⟨k, vals, hk, rfl, hC, hO, hR⟩ := hrel
    obtain ⟨A7, q7, rfl⟩ := own_form hO
    have HC := Lib.hid hC
    have HO := Lib.hid hO
    have HR := Lib.hid hR
    clear hC hO hR
    by_cases hlt : k < n
    · obtain ⟨d9, hd⟩ := some_of_lt (show k < l.length by rw [HL.out]; exact hlt)
      obtain ⟨b, off, rfl, hat⟩ := H1.out.at_ hd
      obtain ⟨A2, c2, x0w, hOp⟩ := hat.c0
      have x0 := new_cell HC.out x0w
      have x1 := new_cell HC.out hat.c1
      have x2 := new_cell HC.out hat.c2
      have x3 := new_cell HC.out hat.c3
      have HD := Lib.hid hd
      have hlp := hat.lp
      obtain ⟨plan, ah, be, op⟩ := d9
      dsimp only at x0 x1 x2 x3 hOp hlp x0w
      obtain ⟨LP, hLP⟩ : ∃ LP, plan.length = LP := ⟨_, rfl⟩
      rw [hLP] at x0 hOp hlp
      have HS9 := Lib.hid (HR.out.snoc (c := c2) HD.out hLP hOp hlp)
      have HC6 := Lib.hid (show NewW w1 ((wr.alloc (.cells #[.slice A2 LP c2, .int .u8 ah, .int .u8 be, .bool op] 84)).alloc (.cells #[.slice A2 LP c2] 31)) from (HC.out.alloc _).alloc _)
      have HOW := Lib.hid (show ((wr.alloc (.cells #[.slice A2 LP c2, .int .u8 ah, .int .u8 be, .bool op] 84)).alloc (.cells #[.slice A2 LP c2] 31)).ownsRow w1.heap.size 31 1 (.slice A7 k q7) k vals from (HO.out.alloc _).alloc _)
      have HRD := Lib.hid (reads_two wr (.cells #[.slice A2 LP c2, .int .u8 ah, .int .u8 be, .bool op] 84) 31 (.slice A2 LP c2))
      clear hd hat x0w hOp hlp hLP HR HO
      go_wp2_with (first
        | (at_builtin
           refine wpList_append_any _ rfl (.tmp 33) (.tmp 36) _ rfl w1.heap.size 31 i1 _ 1 24 Tryd.underlying22 hi1 hy0 hy1 hy2 rfl (by omega) _ k vals rfl
             HOW.out (wr.heap.size + 1 + 1) (some ⟨wr.heap.size + 1, 0, none⟩) 1 1 [.slice A2 LP c2] rfl HRD.out (by simp [Value.oneCell']) (by simp only [maxLen]; omega) (by omega) HC6.out.size ?_
           intro v8 w8 hown8 hg8 hat8
           have HO8 := Lib.hid hown8
           have HC8 := Lib.hid (show NewW w1 w8 from HC6.out.grown hg8 (fun g hg => .inr (own_lt HOW.out hg).1))
           clear hown8 hg8 hat8))
      exact ⟨⟨k + 1, _, by omega, by go_num, HC8.out, HO8.out, HS9.out⟩, by simp [intOf]; omega⟩
    · obtain rfl : n = k := by omega
      have HPL := Lib.hid (plans_own HO.out (HR.out.new_ HC.out) HL.out (by have := HN8.out; unfold maxLen; omega))
      have HRP := Lib.hid (Replay_any (c := q7) HPL.out (by have := HN8.out; omega) (HE1.out.new_ HC.out))
      have HC2 := Lib.hid HC.out
      clear hlt hk HC HO HR
      go_wp2_with fail
      refine HRP.out.mono ?_
      rintro e wP ⟨A1, A2, c1, c2, vals2, M, rfl, ho, hr, hs, hw, hm, hN⟩
      dsimp only
      have HV := Lib.hid (show Rd wP A1 vals2 from Rd.own ho)
      have HR := Lib.hid (fun (k : Nat) (p : List OpD) (hk : k < n) (hp : (plansL l)[k]? = some p) => hr.at_ k p hk hp)
      have HCP := Lib.hid (HC2.out.trans' hN)
      clear ho hr hs hw hm hN HRP HPL
      generalize M.length = LM at *
      go_wp2_with fail
      go_loopw [8, 9, 51] (fun dv ov i wr => ∃ (k : Nat) (rs : List DRow), k ≤ n ∧ i = .int .i64 k ∧ NewW wP wr ∧ wr.ownsRow wP.heap.size 89 5 dv k (flatDD rs) ∧ wr.ownsRow wP.heap.size 3 1 ov k ((ordK n k).map (Value.int .i64)) ∧ MadeR wP l k rs) (fun _ _ i _ => n - (intOf i).toNat)
      case atStart => exact ⟨0, [], by omega, rfl, Ch.refl _ _, own_nil, own_nil, MadeR.nil_ _ _⟩
      case round =>
        obtain ⟨k, rs, hk, rfl, hC, hO, hI, hR⟩ := hrel
        obtain ⟨A8, q8, rfl⟩ := own_form hO
        obtain ⟨A9, q9, rfl⟩ := own_form hI
        have HC := Lib.hid hC
        have HO := Lib.hid hO
        have HI := Lib.hid hI
        have HRS := Lib.hid hR
        clear hC hO hI hR
        by_cases hlt : k < n
        · obtain ⟨d9, hd⟩ := some_of_lt (show k < l.length by rw [HL.out]; exact hlt)
          obtain ⟨b, off, rfl, hat⟩ := (H1.out.new_ HCP.out).at_ hd
          obtain ⟨A4, c4, x0w, hOp⟩ := hat.c0
          have x0 := new_cell HC.out x0w
          have x1 := new_cell HC.out hat.c1
          have x2 := new_cell HC.out hat.c2
          have x3 := new_cell HC.out hat.c3
          have hlp := hat.lp
          obtain ⟨s0, s1, s2, s3⟩ := HSM.out d9 (mem_of_some hd)
          have HDK := Lib.hid (deedK_of hd)
          obtain ⟨A3, c3, hv, hrow⟩ := HR.out k d9.plan hlt (by unfold plansL; rw [List.getElem?_map, hd]; rfl)
          obtain ⟨b3, off3, rfl, hb3, hc3⟩ := HV.out (ne_of_get hv)
          have y0 := new_cell HC.out (hc3 k _ hv)
          have yl : b3 < wr.heap.size := block_lt_of_cell y0
          have HROW := Lib.hid (HRS.out.cons (r := ⟨deedOf l k d9, A4, c4, A3, c3⟩) HDK.out.symm ⟨hOp, by
            have h := Prs.of_res (w := wP) (A := A3) (l := runO (fAt (plansL l) k) d9.plan) ⟨rfl, Rd.own hrow⟩
            show Prs wP A3 ((runO (fAt (plansL l) k) d9.plan).map prR).length _
            rw [List.length_map]
            exact h, hlp, by
            show ((runO (fAt (plansL l) k) d9.plan).map prR).length ≤ maxLen
            rw [List.length_map]
            exact runO_max _ _⟩)
          have HCELL := Lib.hid (show cellsD ⟨deedOf l k d9, A4, c4, A3, c3⟩ = [.int .i64 (1000 + 100 * (k : Int) - d9.ah), .int .i64 (1000 + 100 * (k : Int) + d9.be), .slice A4 d9.plan.length c4, .slice A3 (runO (fAt (plansL l) k) d9.plan).length c3, .bool d9.op] from by
            simp [cellsD, deedOf])
          generalize (DRow.mk (deedOf l k d9) A4 c4 A3 c3) = r9 at *
          generalize (runO (fAt (plansL l) k) d9.plan).length = LR at *
          obtain ⟨plan, ah, be, op⟩ := d9
          dsimp only at x0 x1 x2 x3 hOp hlp x0w s0 s1 s2 s3 HCELL
          generalize plan.length = LP at *
          have wk1 : IntKind.i64.wrap (100 * (k : Int)) = 100 * (k : Int) := IntWalk.i64_in _ ⟨by omega, by omega⟩
          have wk2 : IntKind.i64.wrap (1000 + 100 * (k : Int)) = 1000 + 100 * (k : Int) := IntWalk.i64_in _ ⟨by omega, by omega⟩
          have wk3 : IntKind.i64.wrap ah = ah := IntWalk.i64_in _ ⟨by omega, by omega⟩
          have wk4 : IntKind.i64.wrap be = be := IntWalk.i64_in _ ⟨by omega, by omega⟩
          have wk5 : IntKind.i64.wrap (1000 + 100 * (k : Int) - ah) = 1000 + 100 * (k : Int) - ah := IntWalk.i64_in _ ⟨by omega, by omega⟩
          have wk6 : IntKind.i64.wrap (1000 + 100 * (k : Int) + be) = 1000 + 100 * (k : Int) + be := IntWalk.i64_in _ ⟨by omega, by omega⟩
          clear hd hat x0w hOp hlp hv hrow hb3 hc3 HRS HDK
          go_upto_region 20 with (fail)
          go_region
          have HB6 := Lib.hid (show Blk (((wr.alloc (.cells #[.slice A4 LP c4, .int .u8 ah, .int .u8 be, .bool op] 84)).alloc (.cells #[.int .i64 (1000 + 100 * (k : Int) - ah), .int .i64 (1000 + 100 * (k : Int) + be), .slice A4 LP c4, .slice A3 LR c3, .bool op] 89)).drew) (wr.heap.size + 1) 89 #[.int .i64 (1000 + 100 * (k : Int) - ah), .int .i64 (1000 + 100 * (k : Int) + be), .slice A4 LP c4, .slice A3 LR c3, .bool op] from by
            have h := Blk.new (wr.alloc (.cells #[.slice A4 LP c4, .int .u8 ah, .int .u8 be, .bool op] 84)) 89 #[.int .i64 (1000 + 100 * (k : Int) - ah), .int .i64 (1000 + 100 * (k : Int) + be), .slice A4 LP c4, .slice A3 LR c3, .bool op]
            rw [World.size_alloc] at h
            exact h.drew)
          have HN6 := Lib.hid (show NewW wr (((wr.alloc (.cells #[.slice A4 LP c4, .int .u8 ah, .int .u8 be, .bool op] 84)).alloc (.cells #[.int .i64 (1000 + 100 * (k : Int) - ah), .int .i64 (1000 + 100 * (k : Int) + be), .slice A4 LP c4, .slice A3 LR c3, .bool op] 89)).drew) from (((Ch.refl _ wr).alloc _).alloc _).drew)
          generalize (((wr.alloc (.cells #[.slice A4 LP c4, .int .u8 ah, .int .u8 be, .bool op] 84)).alloc (.cells #[.int .i64 (1000 + 100 * (k : Int) - ah), .int .i64 (1000 + 100 * (k : Int) + be), .slice A4 LP c4, .slice A3 LR c3, .bool op] 89)).drew) = w6 at *
          have z0 := HB6.out.cell 0
          have z1 := HB6.out.cell 1
          have z2 := HB6.out.cell 2
          have z3 := HB6.out.cell 3
          have z4 := HB6.out.cell 4
          have zl := HB6.out.lt
          have HSZ := Lib.hid (show wP.heap.size ≤ w6.heap.size from Nat.le_trans HC.out.size HN6.out.size)
          have HWB := Lib.hid (show wr.heap.size ≤ w6.heap.size from HN6.out.size)
          generalize 1000 + 100 * (k : Int) - ah = FR at *
          generalize 1000 + 100 * (k : Int) + be = TT at *
          have HOW := Lib.hid (World.ownsRow_lit (base := wP.heap.size) (e := 89) (size := 5) w6 #[.int .i64 FR, .int .i64 TT, .slice A4 LP c4, .slice A3 LR c3, .bool op] 1 HSZ.out (by decide) rfl)
          have HRD := Lib.hid (show Reads (w6.alloc (.cells #[.int .i64 FR, .int .i64 TT, .slice A4 LP c4, .slice A3 LR c3, .bool op] 89)) (w6.alloc (.cells #[.int .i64 FR, .int .i64 TT, .slice A4 LP c4, .slice A3 LR c3, .bool op] 89)).heap.size 5 A8 k (flatDD rs) from Reads.of_own (own_ch HO.out (HN6.out.alloc _) (fun _ _ h => h)))
          have HON := Lib.hid (flatDD_one rs)
          have HIW := Lib.hid (own_ch HI.out (HN6.out.alloc (.cells #[.int .i64 FR, .int .i64 TT, .slice A4 LP c4, .slice A3 LR c3, .bool op] 89)) (fun _ _ h => h))
          have wk7 : IntKind.i64.wrap ((n : Int) - 1) = (n : Int) - 1 := IntWalk.i64_in _ ⟨by omega, by omega⟩
          have wk8 : IntKind.i64.wrap ((n : Int) - 1 - (k : Int)) = (n : Int) - 1 - (k : Int) := IntWalk.i64_in _ ⟨by omega, by omega⟩
          clear wk1 wk2 wk3 wk4 wk5 wk6 x0 x1 x2 x3 y0 yl s0 s1 s2 s3
          go_wp2_with (first
            | (at_builtin
               refine wpList_append_any _ rfl (.tmp 79) (.tmp 80) _ rfl wP.heap.size 89 i2 _ 5 72 Tryd.underlying70 hi2 hz0 hz1 hz2 rfl (by omega) (.slice (some ⟨w6.heap.size, 0, none⟩) 1 1) 1 _ rfl
                 HOW.out (w6.alloc (.cells #[.int .i64 FR, .int .i64 TT, .slice A4 LP c4, .slice A3 LR c3, .bool op] 89)).heap.size A8 k q8 (flatDD rs) rfl HRD.out HON.out (by simp only [maxLen]; omega) (by omega) (by have := HSZ.out; simp; omega) ?_
               intro v8 w8 hown8 hg8 hat8
               obtain ⟨A10, q10, rfl⟩ := own_form hown8
               have HC8 := Lib.hid (show NewW w6 w8 from ((Ch.refl _ w6).alloc _).grown hg8 (fun g hg => .inr (by simp [Value.ownBlock] at hg; omega)))
               have HO8 := Lib.hid hown8
               have HI8 := Lib.hid (own_ch HI.out (HN6.out.trans' HC8.out) (fun _ _ h => h))
               have HSZ8 := Lib.hid (show wP.heap.size ≤ w8.heap.size from Nat.le_trans HSZ.out HC8.out.size)
               have HOJ := Lib.hid (HI8.out.alloc (.cells #[.int .i64 ((n : Int) - 1 - (k : Int))] 3))
               have HRJ := Lib.hid (reads_one w8 3 (.int .i64 ((n : Int) - 1 - (k : Int))))
               clear hown8 hg8 hat8)
            | (at_builtin
               refine wpList_append_any _ rfl (.tmp 82) (.tmp 88) _ rfl wP.heap.size 3 i3 _ 1 8 Tryd.underlying58 hi3 hx0 hx1 hx2 rfl (by omega) (.slice A9 k q9) k _ rfl
                 HOJ.out (w8.heap.size + 1) (some ⟨w8.heap.size, 0, none⟩) 1 1 [.int .i64 ((n : Int) - 1 - (k : Int))] rfl HRJ.out (by simp [Value.oneCell']) (by simp only [maxLen]; omega) (by omega) (by have := HSZ8.out; simp; omega) ?_
               intro v9 w9 hown9 hg9 hat9
               have HI9 := Lib.hid hown9
               have HC9 := Lib.hid (show NewW wP w9 from (((HC.out.trans' HN6.out).trans' HC8.out).alloc _).grown hg9 (fun g hg => .inr (own_lt HI8.out hg).1))
               have HO9 := Lib.hid (own_ch (HO8.out.alloc (.cells #[.int .i64 ((n : Int) - 1 - (k : Int))] 3)) (Ch.of_grown hg9) (fun g hg e => by
                 obtain ⟨g2, h1, h2⟩ := own_blk_of HOJ.out e
                 exact own_blk_ne (HO8.out.alloc (.cells #[.int .i64 ((n : Int) - 1 - (k : Int))] 3)) h2 (by decide) hg))
               clear hown9 hg9 hat9))
          exact ⟨⟨k + 1, r9 :: rs, by omega, by go_num, HC9.out, by
            have h := HO9.out
            rw [Nat.add_comm 1 k] at h ⊢
            rw [← flatDD_cons, HCELL.out]
            exact h, by
            have h := HI9.out
            rw [ordK_snoc, List.map_append]
            exact h, HROW.out⟩, by simp [intOf]; omega⟩
        · obtain rfl : n = k := by omega
          have HDD := Lib.hid (deeds_own HO.out (HRS.out.new_ HC.out) (by have := HN8.out; unfold maxLen; omega))
          have HOO := Lib.hid (nums_own HI.out (ordK_len n n))
          have HCW := Lib.hid (HCP.out.trans' HC.out)
          have HFW := Lib.hid (fewD_any (c := q8) 8 HDD.out)
          clear HO HI HRS hlt hk
          rcases Bool.eq_false_or_eq_true (fewD (madeK l n) 8) with hf | hf
          · rw [hf] at HFW
            obtain ⟨hl12, hres, hpl⟩ := few_res hf
            have HRES := Lib.hid hres
            clear hf hl12 hres hpl
            go_wp2_with fail
            refine HFW.out.mono ?_
            rintro e w2 ⟨rfl, hN⟩
            dsimp only
            have HN2 := Lib.hid (show NewW wr w2 from hN)
            clear hN HFW
            have HCK := Lib.hid (fun w' (hc : NewW wr w') => Check_any (c := q8) (c2 := q9) (HDD.out.new_ hc) HRES.out (HOO.out.new_ hc) (by have := HN8.out; omega) (HE1.out.new_ (HCW.out.trans' hc)))
            have HEX := Lib.hid (fun w' (hc : NewW wr w') => Explain_any (c := q8) (HDD.out.new_ hc) HRES.out (HE1.out.new_ (HCW.out.trans' hc)))
            have HRR := Lib.hid (fun w' (hc : NewW wr w') => RightD_ref (c := q8) (HDD.out.new_ hc))
            by_cases h0 : rightD (madeK l n) = 0
            · obtain ⟨hck, o, hex, hcko, hol⟩ := made_law HSM.out HL.out h0
              have HCO := Lib.hid (fun w' (A' : Option Addr) (c' : Nat) (hn : Nums w' A' o.length (natL o)) (hc : NewW wr w') => Check_any (c := q8) (c2 := c') (HDD.out.new_ hc) HRES.out hn (by have := HN8.out; omega) (HE1.out.new_ (HCW.out.trans' hc)))
              unfold ExplP at HEX
              rw [hck] at HCK
              rw [hcko] at HCO
              rw [hex] at HEX
              rw [h0] at HCK HEX HRR HCO
              simp only [Option.getD_some, Option.isSome_some] at HEX
              generalize natL o = NO at *
              generalize o.length = LO at *
              clear h0 hck hex hcko hol
              go_wp2_with fail
              refine (HCK.out _ HN2.out).mono ?_
              rintro e w3 ⟨rfl, hN⟩
              dsimp only
              have HN3 := Lib.hid (HN2.out.trans' hN)
              clear hN HCK
              go_wp2_with fail
              refine (HEX.out _ HN3.out).mono ?_
              rintro e w4 ⟨A11, c11, rfl, hnum, hN⟩
              dsimp only
              have HN4 := Lib.hid (HN3.out.trans' hN)
              have HNUM := Lib.hid hnum
              clear hN hnum HEX
              go_wp2_with fail
              refine (HRR.out _ HN4.out).mono ?_
              rintro e w5 ⟨rfl, hN⟩
              dsimp only
              have HN5 := Lib.hid (HN4.out.trans' hN)
              have HNUM5 := Lib.hid (HNUM.out.new_ hN)
              clear hN HRR
              go_wp2_with fail
              refine (HCO.out _ _ c11 HNUM5.out HN5.out).mono ?_
              rintro e w6 ⟨rfl, hN⟩
              dsimp only
              have HBF := Lib.hid (HBX.out _ (HCW.out.trans' (HN5.out.trans' hN)))
              clear hN HCO
              go_wp2_with fail
              go_ret
              exact ⟨rfl, HBF.out⟩
            · obtain ⟨V, hV⟩ : ∃ V, rightD (madeK l n) = V := ⟨_, rfl⟩
              unfold ExplP at HEX
              rw [hV] at HCK HEX HRR h0
              generalize checkO (madeK l n) (ordK n n) = CK at *
              generalize ((explO (madeK l n)).getD []).length = LO at *
              generalize (explO (madeK l n)).isSome = IS at *
              have d1 : (V != 0) = true := by simpa using h0
              have d2 : decide (V = 0) = false := by simpa using h0
              have d3 : (V == 0) = false := by simpa using h0
              have d4 : (V == V) = true := by simp
              clear h0 hV
              go_wp2_with fail
              refine (HCK.out _ HN2.out).mono ?_
              rintro e w3 ⟨rfl, hN⟩
              dsimp only
              have HN3 := Lib.hid (HN2.out.trans' hN)
              clear hN HCK
              go_wp2_with fail
              refine (HEX.out _ HN3.out).mono ?_
              rintro e w4 ⟨A11, c11, rfl, hnum, hN⟩
              dsimp only
              have HN4 := Lib.hid (HN3.out.trans' hN)
              clear hN hnum HEX
              go_wp2_with fail
              refine (HRR.out _ HN4.out).mono ?_
              rintro e w5 ⟨rfl, hN⟩
              dsimp only
              have HBF := Lib.hid (HBX.out _ (HCW.out.trans' (HN4.out.trans' hN)))
              clear hN HRR
              go_wp2_with fail
              go_ret
              exact ⟨rfl, HBF.out⟩
          · rw [hf] at HFW
            clear hf
            go_wp2_with fail
            refine HFW.out.mono ?_
            rintro e w2 ⟨rfl, hN⟩
            dsimp only
            have HBF := Lib.hid (HBX.out _ (HCW.out.trans' hN))
            clear hN HFW
            go_wp2_with fail
            go_ret
            exact ⟨rfl, HBF.out⟩
end Go.Proofs.YtbggadhaaphmcaaDoor
