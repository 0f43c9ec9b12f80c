/- Order: the walk. -/
import Derived.Test.YtfcdplfnhjbdnabDoorOp
import Derived.Deep.RegionHeld3
namespace Go.Proofs.YtfcdplfnhjbdnabDoor
open Go.RowKit Go.Sort
set_option linter.unusedVariables false

def idsOf (l : List Nd) (o : List Nat) : List Int := o.map (idAt l)
theorem and64 {a b : Nat} (ha : a < 18446744073709551616) (hb : b < 18446744073709551616) : bits BinOp.and IntKind.u64 (a : Int) (b : Int) = ((a &&& b : Nat) : Int) := u64_and_nat a b ha hb
set_option maxHeartbeats 4000000 in
theorem order_any {w : World} {B b : Nat} {l : List Nd} {v : Value} (h : GM w B b l v) (hT : Tab w) :
    Calls Tryd.prog 16 #[.pointer (some ⟨b, 0, none⟩)] w fun e w' => (((∃ i, i < l.length ∧ cycAt l i = true) ∧ e = .returned (.tuple #[.slice none 0 0, .bool false])) ∨
      ((∀ i, i < l.length → cycAt l i = false) ∧ ∃ o A c, Ord l o 0 ∧ e = .returned (.tuple #[.slice A o.length c, .bool true]) ∧ w'.ownsRow w.heap.size 3 1 (.slice A o.length c) o.length (ints (idsOf l o)))) ∧ NewW w w' := by
  obtain ⟨A, q, rfl⟩ := own_form h.own
  have h64 := h.ok.len
  have HCY := Lib.hid (cyclic_any h hT)
  have HH := Lib.hid h
  obtain ⟨i1, hi1, hy0, hy1, hy2⟩ := info_parts int_info
  clear h hT
  generalize hn : l.length = n at *
  have HN := Lib.hid hn
  clear hn
  have hmax : (n : Int) ≤ 64 := by omega
  go_enter Tryd.func16, Tryd.ntmps16
  go_wp2_with fail
  refine HCY.out.mono ?_
  rintro e w2 ⟨⟨r, rfl, hr⟩, hN2⟩
  dsimp only
  have HN2 := Lib.hid hN2
  have HR := Lib.hid hr
  clear hN2 hr HCY
  cases r
  case true =>
    go_wp2_with fail
    go_ret2
    refine ⟨.inl ⟨?_, rfl⟩, HN2.out⟩
    rcases HR.out with ⟨_, i, hi, hc⟩ | ⟨h', _⟩
    · exact ⟨i, by rw [← HN.out]; exact hi, hc⟩
    · cases h'
  case false =>
    have hac : ∀ i, i < n → cycAt l i = false := by
      rcases HR.out with ⟨h', _⟩ | ⟨_, hc⟩
      · cases h'
      · intro i hi; exact hc i (by rw [HN.out]; exact hi)
    have HAC := Lib.hid hac
    have HAL := Lib.hid (all_any (HH.out.new_ HN2.out))
    have hALN := Lib.hid (show (2 ^ l.length - 1 : Nat) = allN l from rfl)
    rw [hALN.out] at HAL
    clear hac HR
    go_wp2_with fail
    refine HAL.out.mono ?_
    rintro e w3 ⟨rfl, hN3⟩
    dsimp only
    have HN3 := Lib.hid (HN2.out.trans' hN3)
    clear hN3 HAL HN2
    go_wp2_with fail
    go_loopw [4, 5] (fun ov lv w' => ∃ (o : List Nat) (left : Nat), lv = .int .u64 left ∧ Ord l o left ∧ w'.ownsRow w.heap.size 3 1 ov o.length (ints (idsOf l o)) ∧ NewW w w') (fun _ lv _ => (intOf lv).toNat)
    case atStart => exact ⟨[], _, rfl, ord_zero, ⟨rfl, .inl ⟨rfl, rfl⟩⟩, HN3.out⟩
    case round =>
      obtain ⟨o, left, rfl, hOrd, hO, hC⟩ := hrel
      obtain ⟨A', c', rfl⟩ := own_form hO
      obtain ⟨wo, hwo⟩ : ∃ wo, wo = wr := ⟨_, rfl⟩
      subst hwo
      have hol := ord_len hOrd
      rw [HN.out] at hol
      have hlt64 := len64 HH.out.ok (ord_lt hOrd)
      by_cases h0 : left = 0
      · subst h0
        have HF := Lib.hid hOrd
        have HO := Lib.hid hO
        have HC := Lib.hid hC
        clear hOrd hO hC hlt64
        go_wp2_with fail
        go_ret2
        exact ⟨.inr ⟨fun i hi => HAC.out i hi, o, A', c', HF.out, rfl, HO.out⟩, HC.out⟩
      · have d0 : ((left : Int) != 0) = true := by simp; omega
        have d0' : (left != 0) = true := by simp; omega
        have HOR := Lib.hid hOrd
        have HO := Lib.hid hO
        have HC := Lib.hid hC
        have HFS := Lib.hid (free_some HH.out.ok (fun i hi => HAC.out i (by rw [← HN.out]; exact hi)) (ord_lt hOrd) h0)
        have c0 := (HH.out.new_ hC).c0
        generalize hoN : o.length = on at *
        have HON := Lib.hid hoN
        clear hOrd hO hC hoN
        go_wp2_with fail
        go_loopw [6, 24] (fun bv i w' => ∃ (bb : Int) (k : Nat), k ≤ n ∧ i = .int .i64 k ∧ bv = .int .i64 bb ∧ Best l left k bb ∧ NewW wo w') (fun _ i _ => n - (intOf i).toNat)
        case atStart => exact ⟨-1, 0, by omega, rfl, rfl, best_zero _ _, Ch.refl _ _⟩
        case round =>
          obtain ⟨bb, k, hk, rfl, rfl, hBest, hC⟩ := hrel
          have HCC := Lib.hid (HC.out.trans' hC)
          have HCR := Lib.hid hC
          have HBST := Lib.hid hBest
          by_cases hlt : k < n
          · have hx := at_ndAt (l := l) (i := k) (by rw [HN.out]; exact hlt)
            obtain ⟨x, hxe⟩ : ∃ x, ndAt l k = x := ⟨_, rfl⟩
            rw [hxe] at hx
            have hgm := HH.out.new_ HCC.out
            obtain ⟨g, cap, hv, r0, r1, r2⟩ := hgm.at_ hx
            injection hv with hA hn hq
            subst hA
            have hto := toAt_of hx
            have t64 := bit64 HH.out.ok (mem_of_some hx)
            have HT64 := Lib.hid t64
            have HHA := Lib.hid (fun w' => has_any left k hlt64 (by omega) w')
            have hcb : NewW wr (wr.alloc (.cells #[.int .i64 x.id, .int .i64 x.st, .int .u64 x.to] 57)) := (Ch.refl _ wr).alloc _
            have BX := Lib.hid (Blk.new wr 57 #[.int .i64 x.id, .int .i64 x.st, .int .u64 x.to])
            have HCB := Lib.hid (hC.trans' hcb)
            have HGB := Lib.hid (hgm.new_ hcb)
            have HXE := Lib.hid hxe
            have HFREE := Lib.hid (show Free l left k ↔ left.testBit k = true ∧ x.to &&& left = 0 from by unfold Free; rw [hto])
            have HA6 := Lib.hid (and64 t64 hlt64)
            have HXX := Lib.hid hx
            clear hC hBest hx hxe hto t64 hn hq hgm hcb
            go_upto_region 10 with (fail)
            generalize wr.alloc (.cells #[.int .i64 x.id, .int .i64 x.st, .int .u64 x.to] 57) = wb at *
            generalize wr.heap.size = bx at *
            clear r0 r1 r2
            have c1 := HGB.out.c0
            have x0 : wb.cell? ⟨bx, 0, none⟩ = some (.int .i64 x.id) := by rw [BX.out.cell]; rfl
            have x1 : wb.cell? ⟨bx, 1, none⟩ = some (.int .i64 x.st) := by rw [BX.out.cell]; rfl
            have x2 : wb.cell? ⟨bx, 2, none⟩ = some (.int .u64 x.to) := by rw [BX.out.cell]; rfl
            obtain ⟨lb, hlb⟩ : ∃ lb, left.testBit k = lb := ⟨_, rfl⟩
            rw [hlb] at HHA HFREE
            clear hlb
            cases lb
            · have HNF := Lib.hid (best_not HBST.out (fun h => by have := (HFREE.out.1 h).1; cases this))
              go_wp2_with fail
              go_quiet ((first | (go_at_call 38; exact quiet_left (HHA.out _))))
              go_wp2_with fail
              exact ⟨⟨bb, k + 1, by omega, by go_num, rfl, HNF.out, by first | exact HCB.out | exact Ch.drewN HCB.out _ | exact Ch.drew HCB.out⟩, by simp [intOf]; omega⟩
            · by_cases hz : x.to &&& left = 0
              · have dz : (bits BinOp.and IntKind.u64 (x.to : Int) (left : Int) == 0) = true := by rw [HA6.out, hz]; rfl
                have HFR := Lib.hid (HFREE.out.2 ⟨rfl, hz⟩)
                clear hz
                by_cases hbb : bb < 0
                · have db : decide (bb < 0) = true := decide_eq_true hbb
                  have HNF := Lib.hid (best_first HBST.out hbb HFR.out)
                  clear hbb
                  go_wp2_with fail
                  go_quiet ((first | (go_at_call 38; exact quiet_left (HHA.out _))))
                  go_wp2_with fail
                  exact ⟨⟨_, k + 1, by omega, by go_num, rfl, HNF.out, by first | exact HCB.out | exact Ch.drewN HCB.out _ | exact Ch.drew HCB.out⟩, by simp [intOf]; omega⟩
                · obtain ⟨nn, rfl⟩ : ∃ nn : Nat, bb = nn := ⟨bb.toNat, by omega⟩
                  have db : decide ((nn : Int) < 0) = false := by simp
                  have hnn : nn < n := by
                    rcases HBST.out with ⟨h1, _⟩ | ⟨n', h1, h2, _⟩
                    · omega
                    · omega
                  have hnnI : (nn : Int) < (n : Int) := by omega
                  have hy := at_ndAt (l := l) (i := nn) (by rw [HN.out]; exact hnn)
                  obtain ⟨y, hye⟩ : ∃ y, ndAt l nn = y := ⟨_, rfl⟩
                  rw [hye] at hy
                  obtain ⟨y0, y1, y2⟩ := HGB.out.cel hy
                  have HYE := Lib.hid hye
                  have HBE := Lib.hid (fun w' => before_any x y w')
                  obtain ⟨be, hbe⟩ : ∃ be, bef x y = be := ⟨_, rfl⟩
                  rw [hbe] at HBE
                  have HBV := Lib.hid hbe
                  have HNC := Lib.hid (fun w' (hc : NewW wb w') => (show NewW wo w' from HCB.out.trans' hc))
                  have HST := Lib.hid (fun w' (hc : Ch (fun _ => False) wb w') => And.intro (new_cell hc x0) (And.intro (new_cell hc x1) (And.intro (new_cell hc x2) (And.intro (new_cell hc c1) (And.intro (new_cell hc y0) (And.intro (new_cell hc y1) (new_cell hc y2)))))))
                  clear hye hbe hy hbb
                  go_wp2_with fail
                  go_region_held3 (fun w' => w'.cell? ⟨bx, 0, none⟩ = some (.int .i64 x.id) ∧ w'.cell? ⟨bx, 1, none⟩ = some (.int .i64 x.st) ∧ w'.cell? ⟨bx, 2, none⟩ = some (.int .u64 x.to) ∧ w'.cell? ⟨b, 0, none⟩ = some (.slice (some ⟨g, 0, none⟩) n q) ∧ w'.cell? ⟨g, nn * 3, none⟩ = some (.int .i64 y.id) ∧ w'.cell? ⟨g, nn * 3 + 1, none⟩ = some (.int .i64 y.st) ∧ w'.cell? ⟨g, nn * 3 + 2, none⟩ = some (.int .u64 y.to)) (exact HST.out _ (by repeat (first | with_reducible exact hN5 | with_reducible exact Ch.refl _ _ | with_reducible refine Ch.drew ?_ | with_reducible refine Ch.drewN ?_ _ | with_reducible refine Ch.trans' ?_ hN5)))
                    (first
                      | (go_at_call 38; refine (HHA.out _).mono ?_; rintro e w5 ⟨rfl, rfl⟩)
                      | (go_at_call 35; refine (HBE.out _).mono ?_; rintro e w5 ⟨rfl, hN5⟩; have hN5 : Ch (fun _ => False) _ w5 := hN5))
                  all_goals
                    have HE := Lib.hid (HNC.out _ ((Ch.refl (fun _ => False) wb).drew.trans' hN5))
                    clear hN5 x0 x1 x2 y0 y1 y2 c1 HST HBE HHA HNC
                    cases be
                    · have HNF := Lib.hid (best_old HBST.out (by rw [HXE.out, HYE.out]; exact HBV.out))
                      go_wp2_with fail
                      exact ⟨⟨_, k + 1, by omega, by go_num, rfl, HNF.out, HE.out⟩, by simp [intOf]; omega⟩
                    · have HNF := Lib.hid (best_new HBST.out HFR.out (by rw [HXE.out, HYE.out]; exact HBV.out))
                      go_wp2_with fail
                      exact ⟨⟨_, k + 1, by omega, by go_num, rfl, HNF.out, HE.out⟩, by simp [intOf]; omega⟩
              · have dz : (bits BinOp.and IntKind.u64 (x.to : Int) (left : Int) == 0) = false := by rw [HA6.out]; simp; omega
                have HNF := Lib.hid (best_not HBST.out (fun h => hz (HFREE.out.1 h).2))
                clear hz
                go_wp2_with fail
                go_quiet ((first | (go_at_call 38; exact quiet_left (HHA.out _))))
                go_wp2_with fail
                exact ⟨⟨bb, k + 1, by omega, by go_num, rfl, HNF.out, by first | exact HCB.out | exact Ch.drewN HCB.out _ | exact Ch.drew HCB.out⟩, by simp [intOf]; omega⟩
          · obtain rfl : k = n := by omega
            obtain ⟨nn, hbn, hnn⟩ : ∃ nn : Nat, bb = nn ∧ nn < k := by
              rcases hBest with ⟨_, h2⟩ | ⟨n', h1, h2, _⟩
              · obtain ⟨i, hi1, hi2⟩ := HFS.out
                exact absurd ⟨hi1, hi2⟩ (h2 i (by have := ((HOR.out.left_ i).1 hi1).1; rw [HN.out] at this; exact this))
              · exact ⟨n', h1, h2⟩
            subst hbn
            obtain ⟨hSN1, hSN2⟩ := ord_snoc HH.out.ok HOR.out (by rw [HN.out]; exact HBST.out) hlt64
            have HSN := Lib.hid hSN1
            have hx := at_ndAt (l := l) (i := nn) (by rw [HN.out]; exact hnn)
            have hid := idAt_of hx
            have hgm := HH.out.new_ HCC.out
            obtain ⟨g, cap, hv, r0, r1, r2⟩ := hgm.at_ hx
            injection hv with hA hn hq
            subst hA
            rw [← hid] at r0
            have hnnI : (nn : Int) < (k : Int) := by omega
            have c1 := hgm.c0
            have EB := Lib.hid (b_not (i := nn) hlt64 (by omega))
            have HOW := Lib.hid (own_ch HO.out hC (fun _ _ h => h))
            have hszw : w.heap.size ≤ wr.heap.size := HCC.out.size
            have HIDS := Lib.hid (show ints (idsOf l (o ++ [nn])) = ints (idsOf l o) ++ [.int .i64 (idAt l nn)] from by simp [idsOf, ints])
            clear hSN1 hx hid hgm hn hq r1 r2 hC hBest hlt hk
            go_wp2_with (first
              | (at_builtin
                 refine wpList_append_any _ rfl (.tmp 56) (.tmp 65) _ rfl w.heap.size 3 i1 _ 1 8 Tryd.underlying31 hi1 hy0 hy1 hy2 rfl (by omega) _ on (ints (idsOf l o)) rfl
                   (own_ch HOW.out ((Ch.refl (fun _ => False) _).alloc _) (fun _ _ h => h)) (wr.heap.size + 1) (some ⟨wr.heap.size, 0, none⟩) 1 1 [.int .i64 (idAt l nn)] rfl (reads_new wr 3 #[.int .i64 (idAt l nn)] 1 1 rfl) (by simp [Value.oneCell']) (by simp only [maxLen]; omega) (by omega) (by simp; omega) ?_
                 intro v7 w7 hown7 hg7 hat7
                 have HO7 := Lib.hid hown7
                 have HG7 := Lib.hid hg7
                 clear hown7 hg7 hat7))
            rw [EB.out]
            refine ⟨⟨o ++ [nn], _, rfl, HSN.out, ?_, ((HCC.out : Ch (fun _ => False) w wr).alloc _).grown HG7.out (fun g hg => .inr (own_lt HOW.out hg).1)⟩, by simp only [intOf, Int.toNat_natCast]; exact hSN2⟩
            rw [List.length_append, HON.out, HIDS.out]
            exact HO7.out
end Go.Proofs.YtfcdplfnhjbdnabDoor
