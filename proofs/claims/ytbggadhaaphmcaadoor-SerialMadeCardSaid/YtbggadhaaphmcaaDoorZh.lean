/- serial: the document's Explains. -/
import Derived.Test.YtbggadhaaphmcaaDoorZu
import Derived.Test.YtbggadhaaphmcaaDoorRn
import Derived.Test.YtbggadhaaphmcaaDoorKc
namespace Go.Proofs.YtbggadhaaphmcaaDoor
open Go.Lib Go.RowKit
set_option linter.unusedVariables false

theorem all_take_snoc {f : Int → Bool} {o : List Int} {q : Nat} {y : Int} (h : o[q]? = some y) : (o.take (q + 1)).all f = ((o.take q).all f && f y) := allS h
def pairB (l : Hist) (x y : Int) : Bool := !(decide (x = y)) && !lateB (l.get x.toNat) (l.get y.toNat)
theorem okAt_eq {l : Hist} {o : List Int} {i k : Nat} (hi : i < l.length) : okAt l o (i : Int) k = (o.take k).all (pairB l (i : Int)) := by
  unfold okAt
  rw [show decide (0 ≤ (i : Int)) = true by simp, show decide ((i : Int) < (l.length : Int)) = true by simp; omega]
  rfl
theorem okAt_out {l : Hist} {o : List Int} {x : Int} {k : Nat} (h : x < 0 ∨ (l.length : Int) ≤ x) : okAt l o x k = false := by
  unfold okAt
  rcases h with h | h
  · rw [show decide (0 ≤ x) = false by simp; omega]; rfl
  · rw [show decide (x < (l.length : Int)) = false by simp; omega, Bool.and_false]; rfl
def pairF (l : Hist) (o : List Int) (k : Nat) : Bool := okAt l o ((o[k]?).getD 0) k
theorem pairsB_F (l : Hist) (o : List Int) : pairsB l o = (List.range o.length).all (pairF l o) := rfl
theorem pairF_at {l : Hist} {o : List Int} {k : Nat} {x : Int} (h : o[k]? = some x) : pairF l o k = okAt l o x k := by unfold pairF; rw [h]; rfl
def coverF (l : Hist) (o : List Int) (i : Nat) : Bool := (l.get i).op || decide ((i : Int) ∈ o)
theorem range_of {l : Hist} {o : List Int} {k q : Nat} {y : Int} (h : (List.range k).all (pairF l o) = true) (hq : q < k) (hy : o[q]? = some y) : 0 ≤ y ∧ y < l.length := by
  have h1 := List.all_eq_true.1 h q (List.mem_range.2 hq)
  rw [pairF_at hy] at h1
  refine Classical.byContradiction fun hn => ?_
  rw [okAt_out (by omega)] at h1
  cases h1
theorem mem_snoc_b {o : List Int} {q : Nat} {x i : Int} (b : Bool) (h : o[q]? = some x) : (b || decide (i ∈ o.take (q + 1))) = ((b || decide (i ∈ o.take q)) || decide (x = i)) := by
  have hk := lt_of_some h
  rw [List.take_succ_eq_append_getElem hk]
  rw [List.getElem?_eq_getElem hk] at h
  injection h with h
  rw [h]
  by_cases h1 : i ∈ o.take q <;> by_cases h2 : x = i
  · simp [h1, h2]
  · simp [h1]
  · subst h2; simp
  · have : ¬ i = x := fun e => h2 e.symm
    simp [h1, h2, this]
set_option maxRecDepth 100000 in
set_option maxHeartbeats 8000000 in
theorem Explains_ref {w : World} {A A2 : Option Addr} {n c n2 c2 : Nat} {l : Hist} {o : List Int} (h : Deeds w A n l) (hr : ∀ d ∈ l, d.res.length ≤ 1000) (hn : n ≤ 50) (hO : Nums w A2 n2 o) (hn2 : n2 ≤ 50) (hc2 : n2 ≤ c2) (hcm : c2 ≤ 9223372036854775807) :
    Calls Tryd.prog 49 #[.slice A n c, .slice A2 n2 c2] w fun e w' => e = .returned (.bool (explB l o)) ∧ NewW w w' := by
  have hnI : (n : Int) ≤ 50 := by omega
  have hn2I : (n2 : Int) ≤ 50 := by omega
  have hc2I : (c2 : Int) ≤ 9223372036854775807 := by omega
  obtain ⟨R, hRR⟩ : ∃ R, explB l o = R := ⟨_, rfl⟩
  have HD := Lib.hid h
  have HLN := Lib.hid h.1
  have HRES := Lib.hid hr
  have HOO := Lib.hid hO
  have HOL := Lib.hid hO.1
  have HP := Lib.hid (fun (hp : pairsB l o = false) => (show R = false from by rw [← hRR]; unfold explB; rw [hp]; rfl))
  have HCV := Lib.hid (fun (hp : coverB l o = false) => (show R = false from by rw [← hRR]; unfold explB; rw [hp]; simp))
  have HT := Lib.hid (fun (hp : pairsB l o = true) (hc : coverB l o = true) => (show tellsB l none0 o = R from by rw [← hRR]; unfold explB; rw [hp, hc]; rfl))
  rw [hRR]
  clear h hr hO hRR
  go_enter Tryd.func49, Tryd.ntmps49
  go_wp2_with fail
  go_loopw [21] (fun i wr => ∃ k : Nat, k ≤ n2 ∧ i = .int .i64 k ∧ (List.range k).all (pairF l o) = true ∧ NewW w wr) (fun i _ => n2 - (intOf i).toNat)
  case atStart => exact ⟨0, by omega, rfl, by simp, Ch.refl _ _⟩
  case round =>
    obtain ⟨k, hk, rfl, hall, hC⟩ := hrel
    have HC := Lib.hid hC
    have HALL := Lib.hid hall
    clear hC hall
    by_cases hlt : k < n2
    · obtain ⟨x, hx⟩ := some_of_lt (show k < o.length by rw [HOL.out]; exact hlt)
      obtain ⟨b2, off2, rfl, y0⟩ := (HOO.out.new_ HC.out).at_ hx
      have HX := Lib.hid hx
      have HPF := Lib.hid (pairF_at (l := l) hx)
      have HBAD := Lib.hid (fun (hb : okAt l o x k = false) => HP.out (by rw [pairsB_F]; exact all_no (by rw [HOL.out]; exact hlt) (by rw [HPF.out]; exact hb)))
      clear hx
      by_cases x0 : x < 0
      · have d0 : decide (x < 0) = true := by simpa using x0
        obtain rfl : R = false := HBAD.out (okAt_out (.inl x0))
        clear x0
        go_wp2_with fail
        go_ret
        exact ⟨rfl, HC.out⟩
      have d0 : decide (x < 0) = false := by simpa using x0
      by_cases x1 : (n : Int) ≤ x
      · have d1 : decide ((n : Int) ≤ x) = true := by simpa using x1
        obtain rfl : R = false := HBAD.out (okAt_out (.inr (by rw [HLN.out]; exact x1)))
        clear x0 x1
        go_wp2_with fail
        go_ret
        exact ⟨rfl, HC.out⟩
      have d1 : decide ((n : Int) ≤ x) = false := by simpa using x1
      obtain ⟨i, rfl⟩ : ∃ i : Nat, x = i := ⟨x.toNat, by omega⟩
      have hi : i < n := by omega
      have HOK := Lib.hid (okAt_eq (l := l) (o := o) (k := k) (show i < l.length by rw [HLN.out]; exact hi))
      obtain ⟨di, hdi⟩ := some_of_lt (show i < l.length by rw [HLN.out]; exact hi)
      have HDI := Lib.hid hdi
      have HGI := Lib.hid (Hist.get_of hdi)
      have hiI : (i : Int) < (n : Int) := by omega
      have hkc : (k : Int) ≤ (c2 : Int) := by omega
      have d2 : decide (n ≤ i) = false := by simp; omega
      clear x0 x1 hdi
      go_wp2_with fail
      obtain ⟨wo, rfl⟩ : ∃ wo : World, wo = wr := ⟨_, rfl⟩
      go_loopw [38] (fun i' wr => ∃ q : Nat, q ≤ k ∧ i' = .int .i64 q ∧ (o.take q).all (pairB l (i : Int)) = true ∧ NewW w wr) (fun i _ => k - (intOf i).toNat)
      case atStart => exact ⟨0, by omega, rfl, by simp, HC.out⟩
      case round =>
        obtain ⟨q, hq, rfl, hqa, hC2⟩ := hrel
        have HC2 := Lib.hid hC2
        have HQA := Lib.hid hqa
        clear hC2 hqa
        by_cases hqk : q < k
        · obtain ⟨y, hy⟩ := some_of_lt (show q < o.length by rw [HOL.out]; omega)
          obtain ⟨b3, off3, hb3, z0⟩ := (HOO.out.new_ HC2.out).at_ hy
          injection hb3 with hb3
          injection hb3 with e1 e2 _
          subst e1 e2
          obtain ⟨hyr0, hyr1⟩ := range_of HALL.out hqk hy
          obtain ⟨j, rfl⟩ : ∃ j : Nat, y = j := ⟨y.toNat, by omega⟩
          have hj : j < n := by rw [HLN.out] at hyr1; omega
          obtain ⟨dj, hdj⟩ := some_of_lt (show j < l.length by rw [HLN.out]; exact hj)
          have HSN := Lib.hid (all_take_snoc (f := pairB l (i : Int)) hy)
          have HNO := Lib.hid (fun (hb : pairB l (i : Int) (j : Int) = false) => (show R = false from HBAD.out (by
            rw [HOK.out, List.all_eq_false]
            exact ⟨(j : Int), mem_of_some (show (o.take k)[q]? = some (j : Int) by rw [List.getElem?_take, if_pos hqk]; exact hy), by rw [hb]; simp⟩)))
          have HPE := Lib.hid (show pairB l (i : Int) (j : Int) = (!(decide ((i : Int) = (j : Int))) && !(!di.op && decide (di.to < dj.fr))) from by
            unfold pairB lateB
            rw [Int.toNat_natCast, Int.toNat_natCast, HGI.out, Hist.get_of hdj])
          obtain ⟨b, off, rfl, hat⟩ := (HD.out.new_ HC2.out).at_ HDI.out
          obtain ⟨b', off', hb', hat'⟩ := (HD.out.new_ HC2.out).at_ hdj
          injection hb' with hb'
          injection hb' with e1 e2 _
          subst e1 e2
          have i1 := hat.c1
          have i4 := hat.c4
          have j0 := hat'.c0
          have hjI : (j : Int) < (n : Int) := by omega
          have hbl := block_lt_of_cell i1
          clear hat hat' hy hdj hyr0 hyr1
          by_cases hij : (i : Int) = (j : Int)
          · have dij : decide ((i : Int) = (j : Int)) = true := by simpa using hij
            have dij' : ((i : Int) == (j : Int)) = true := by simpa using hij
            obtain rfl : R = false := HNO.out (by rw [HPE.out, dij]; rfl)
            clear hij
            go_wp2_with fail
            go_quiet (fail)
            go_wp2_with fail
            go_ret
            exact ⟨rfl, HC2.out.drewN nq⟩
          · have dij : decide ((i : Int) = (j : Int)) = false := by simpa using hij
            have dij' : ((i : Int) == (j : Int)) = false := by simpa using hij
            by_cases hop : di.op = true
            · rw [hop] at i4
              have HY := Lib.hid (show pairB l (i : Int) (j : Int) = true by rw [HPE.out, dij, hop]; rfl)
              clear hij hop
              go_wp2_with fail
              go_quiet (fail)
              go_wp2_with fail
              refine ⟨?_, by simp [intOf]; omega⟩
              have HQ1 := Lib.hid (show (o.take (q + 1)).all (pairB l (i : Int)) = true by rw [HSN.out, HQA.out, HY.out]; rfl)
              first
                | exact ⟨q + 1, by omega, by go_num, HQ1.out, HC2.out.drewN nq⟩
                | ((repeat apply Exists.intro); exact ⟨⟨q + 1, by omega, by go_num, HQ1.out, HC2.out.drewN nq⟩, rfl⟩)
            · have hop : di.op = false := by simpa using hop
              rw [hop] at i4
              by_cases hl : di.to < dj.fr
              · have dl : decide (di.to < dj.fr) = true := by simpa using hl
                obtain rfl : R = false := HNO.out (by rw [HPE.out, dij, hop, dl]; rfl)
                clear hij hop hl
                go_wp2_with fail
                go_quiet (fail)
                go_wp2_with fail
                go_ret
                exact ⟨rfl, HC2.out.drewN nq⟩
              · have dl : decide (di.to < dj.fr) = false := by simpa using hl
                have HY := Lib.hid (show pairB l (i : Int) (j : Int) = true by rw [HPE.out, dij, hop, dl]; rfl)
                clear hij hop hl
                go_wp2_with fail
                go_quiet (fail)
                go_wp2_with fail
                refine ⟨?_, by simp [intOf]; omega⟩
                have HQ1 := Lib.hid (show (o.take (q + 1)).all (pairB l (i : Int)) = true by rw [HSN.out, HQA.out, HY.out]; rfl)
                first
                  | exact ⟨q + 1, by omega, by go_num, HQ1.out, HC2.out.drewN nq⟩
                  | ((repeat apply Exists.intro); exact ⟨⟨q + 1, by omega, by go_num, HQ1.out, HC2.out.drewN nq⟩, rfl⟩)
        · obtain rfl : k = q := by omega
          have HNX := Lib.hid (show (List.range (k + 1)).all (pairF l o) = true from all_go HALL.out (by rw [HPF.out, HOK.out]; exact HQA.out))
          clear hqk hq
          go_wp2_with fail
          exact ⟨⟨k + 1, by omega, by go_num, HNX.out, HC2.out⟩, by simp [intOf]; omega⟩
    · obtain rfl : n2 = k := by omega
      have HPT := Lib.hid (show pairsB l o = true by rw [pairsB_F, HOL.out]; exact HALL.out)
      clear hlt hk
      go_wp2_with fail
      obtain ⟨w1, rfl⟩ : ∃ w1 : World, w1 = wr := ⟨_, rfl⟩
      go_loopw [70] (fun i wr => ∃ k : Nat, k ≤ n ∧ i = .int .i64 k ∧ (List.range k).all (coverF l o) = true ∧ NewW w wr) (fun i _ => n - (intOf i).toNat)
      case atStart => exact ⟨0, by omega, rfl, by simp, HC.out⟩
      case round =>
        obtain ⟨k, hk, rfl, hall, hC⟩ := hrel
        have HC1 := Lib.hid hC
        have HCA := Lib.hid hall
        clear hC hall
        by_cases hlt : k < n
        · obtain ⟨dd, hp⟩ := some_of_lt (show k < l.length by rw [HLN.out]; exact hlt)
          have HGK := Lib.hid (Hist.get_of hp)
          obtain ⟨b, off, rfl, hat⟩ := (HD.out.new_ HC1.out).at_ hp
          have x0 := hat.c0
          have x1 := hat.c1
          obtain ⟨A3, c3, x2, _⟩ := hat.c2
          obtain ⟨A4, c4, x3, _⟩ := hat.c3
          have x4 := hat.c4
          have hkI : (k : Int) < (n : Int) := by omega
          obtain ⟨fr, tt, plan, res, op⟩ := dd
          dsimp only at x0 x1 x2 x3 x4
          generalize hLP : plan.length = LP at *
          generalize hLR : res.length = LR at *
          have HCB := Lib.hid (HC1.out.alloc (.cells #[.int .i64 fr, .int .i64 tt, .slice A3 LP c3, .slice A4 LR c4, .bool op] 89))
          have HCF := Lib.hid (show coverF l o k = (op || decide ((k : Int) ∈ o)) from by unfold coverF; rw [HGK.out])
          have HBAD := Lib.hid (fun (hb : coverF l o k = false) => HCV.out (show coverB l o = false from all_no (by rw [HLN.out]; exact hlt) hb))
          clear hat hp hLP hLR
          go_wp2_with fail
          generalize wr.alloc (.cells #[.int .i64 fr, .int .i64 tt, .slice A3 LP c3, .slice A4 LR c4, .bool op] 89) = w2 at *
          go_loopw [11, 79] (fun s11 i' wr => ∃ q : Nat, q ≤ n2 ∧ i' = .int .i64 q ∧ s11 = .bool (op || decide ((k : Int) ∈ o.take q)) ∧ NewW w wr) (fun _ i _ => n2 - (intOf i).toNat)
          case atStart => exact ⟨0, by omega, rfl, by simp, HCB.out⟩
          case round =>
            obtain ⟨q, hq, rfl, rfl, hC2⟩ := hrel
            have HC2 := Lib.hid hC2
            clear hC2
            by_cases hqk : q < n2
            · obtain ⟨y, hy⟩ := some_of_lt (show q < o.length by rw [HOL.out]; exact hqk)
              obtain ⟨b3, off3, rfl, z0⟩ := (HOO.out.new_ HC2.out).at_ hy
              have HMS := Lib.hid (mem_snoc_b (i := (k : Int)) op hy)
              obtain ⟨IN, hIN⟩ : ∃ IN, (op || decide ((k : Int) ∈ o.take q)) = IN := ⟨_, rfl⟩
              rw [hIN] at HMS ⊢
              clear hy hIN
              by_cases hyk : y = (k : Int)
              · have dy : decide (y = (k : Int)) = true := by simpa using hyk
                have dy' : (y == (k : Int)) = true := by simpa using hyk
                have HM2 := Lib.hid (show (op || decide ((k : Int) ∈ o.take (q + 1))) = true by rw [HMS.out, dy]; simp)
                cases IN
                · clear hyk
                  go_wp2_with fail
                  refine ⟨?_, by simp [intOf]; omega⟩
                  first
                    | exact ⟨q + 1, by omega, by go_num, by rw [HM2.out], HC2.out⟩
                    | ((repeat apply Exists.intro); exact ⟨⟨q + 1, by omega, by go_num, by rw [HM2.out], HC2.out⟩, rfl⟩)
                · clear hyk
                  go_wp2_with fail
                  refine ⟨?_, by simp [intOf]; omega⟩
                  first
                    | exact ⟨q + 1, by omega, by go_num, by rw [HM2.out], HC2.out⟩
                    | ((repeat apply Exists.intro); exact ⟨⟨q + 1, by omega, by go_num, by rw [HM2.out], HC2.out⟩, rfl⟩)
              · have dy : decide (y = (k : Int)) = false := by simpa using hyk
                have dy' : (y == (k : Int)) = false := by simpa using hyk
                have HM2 := Lib.hid (show (op || decide ((k : Int) ∈ o.take (q + 1))) = IN by rw [HMS.out, dy]; simp)
                cases IN
                · clear hyk
                  go_wp2_with fail
                  refine ⟨?_, by simp [intOf]; omega⟩
                  first
                    | exact ⟨q + 1, by omega, by go_num, by rw [HM2.out], HC2.out⟩
                    | ((repeat apply Exists.intro); exact ⟨⟨q + 1, by omega, by go_num, by rw [HM2.out], HC2.out⟩, rfl⟩)
                · clear hyk
                  go_wp2_with fail
                  refine ⟨?_, by simp [intOf]; omega⟩
                  first
                    | exact ⟨q + 1, by omega, by go_num, by rw [HM2.out], HC2.out⟩
                    | ((repeat apply Exists.intro); exact ⟨⟨q + 1, by omega, by go_num, by rw [HM2.out], HC2.out⟩, rfl⟩)
            · obtain rfl : n2 = q := by omega
              have hall : o.take n2 = o := by rw [← HOL.out, List.take_length]
              rw [hall]
              rw [← HCF.out]
              rcases Bool.eq_false_or_eq_true (coverF l o k) with hcf | hcf
              · rw [hcf]
                have HNX := Lib.hid (show (List.range (k + 1)).all (coverF l o) = true from all_go HCA.out hcf)
                clear hqk hq hall hcf
                go_wp2_with fail
                exact ⟨⟨k + 1, by omega, by go_num, HNX.out, HC2.out⟩, by simp [intOf]; omega⟩
              · rw [hcf]
                obtain rfl : R = false := HBAD.out hcf
                clear hqk hq hall hcf
                go_wp2_with fail
                go_ret
                exact ⟨rfl, HC2.out⟩
        · obtain rfl : n = k := by omega
          have HCT := Lib.hid (show coverB l o = true by unfold coverB; rw [HLN.out]; exact HCA.out)
          have HTL := Lib.hid (HT.out HPT.out HCT.out)
          clear hlt hk
          have HKF := Lib.hid (kf_new w wr (HC1.out.to_below (fun _ h => h.elim) (Nat.le_refl _)))
          go_wp2_with fail
          obtain ⟨rb, hrb⟩ : ∃ rb, wr.heap.size = rb := ⟨_, rfl⟩
          rw [hrb] at HKF
          try simp only [hrb]
          generalize wr.alloc (.cells #[.slice none 0 0] 30) = w2 at *
          clear hrb
          go_loopw [97] (fun i wr => ∃ (k : Nat) (f : Has) (L : Wl), k ≤ n2 ∧ i = .int .i64 k ∧ KF w rb L wr ∧ SortedW L f ∧ L.length ≤ 16 * k ∧ Sm f ∧ tellsB l f (o.drop k) = R) (fun i _ => n2 - (intOf i).toNat)
          case atStart => exact ⟨0, none0, [], by omega, rfl, HKF.out, sorted_nil, by simp, sm_zero, HTL.out⟩
          case round =>
            obtain ⟨k, f, L, hk, rfl, hkf, hS, hl, hsm, ht⟩ := hrel
            have HK := Lib.hid hkf
            have HTK := Lib.hid ht
            have HSM := Lib.hid hsm
            by_cases hlt : k < n2
            · obtain ⟨x, hx⟩ := some_of_lt (show k < o.length by rw [HOL.out]; exact hlt)
              obtain ⟨hr0, hr1⟩ := range_of (show (List.range n2).all (pairF l o) = true from by have := HPT.out; rwa [pairsB_F, HOL.out] at this) hlt hx
              obtain ⟨i, rfl⟩ : ∃ i : Nat, x = i := ⟨x.toNat, by omega⟩
              have hi : i < n := by rw [HLN.out] at hr1; omega
              obtain ⟨dd, hdd⟩ := some_of_lt (show i < l.length by rw [HLN.out]; exact hi)
              obtain ⟨b2, off2, rfl, y0⟩ := (HOO.out.below hkf.below).at_ hx
              obtain ⟨b, off, rfl, hat⟩ := (HD.out.below hkf.below).at_ hdd
              obtain ⟨A3, c3, x2, hOp⟩ := hat.c2
              have hiI : (i : Int) < (n : Int) := by omega
              have hdr : o.drop k = (i : Int) :: o.drop (k + 1) := by
                rw [List.drop_eq_getElem_cons (lt_of_some hx)]
                have hx2 := hx
                rw [List.getElem?_eq_getElem (lt_of_some hx)] at hx2
                injection hx2 with hx2
                rw [hx2]
              have HTC := Lib.hid (show (tellB dd f && tellsB l (runF f dd.plan) (o.drop (k + 1))) = R from by
                have := HTK.out
                rw [hdr, tellsB, Int.toNat_natCast, Hist.get_of hdd] at this
                exact this)
              have hdr2 := HRES.out dd (mem_of_some hdd)
              have HDD := Lib.hid hdd
              have HRQ := Lib.hid (Run_ref (c := c3) hkf hS hl (by omega) hsm hOp)
              generalize hLP : dd.plan.length = LP at *
              clear hx hr0 hr1 hdd hat hOp hdr hkf hS hl hsm ht hLP
              go_wp2_with fail
              refine HRQ.out.mono ?_
              rintro e w6 ⟨⟨A6, c6, rfl, hr6⟩, ⟨L6, hf6, hs6, hl6⟩, hc6⟩
              dsimp only
              obtain ⟨b', off', hb', hat⟩ := (HD.out.below hf6.below).at_ HDD.out
              injection hb' with hb'
              injection hb' with e1 e2 _
              subst e1 e2
              obtain ⟨A4, c4, x3, hP⟩ := hat.c3
              have x4 := hat.c4
              have HSR := Lib.hid (SameResults_any (c := c6) (d := c4) (Prs.of_res ⟨rfl, Rd.own hr6⟩) hP (by have := runO_le f dd.plan; omega) (by omega))
              have HF6 := Lib.hid hf6
              have HS6 := Lib.hid hs6
              have HL6 := Lib.hid hl6
              have HTE := Lib.hid (show tellB dd f = (dd.op || decide ((runO f dd.plan).map prR = dd.res)) from rfl)
              generalize decide ((runO f dd.plan).map prR = dd.res) = EQ at *
              generalize (runO f dd.plan).length = LO at *
              generalize dd.res.length = LR at *
              have HSN := Lib.hid (sm_run HSM.out dd.plan)
              clear hr6 hf6 hs6 hl6 hc6 hat hP HRQ y0 x2
              rcases Bool.eq_false_or_eq_true dd.op with hop | hop
              · rw [hop] at x4 HTE
                have HNX := Lib.hid (show tellsB l (runF f dd.plan) (o.drop (k + 1)) = R from by
                  have := HTC.out
                  rw [HTE.out] at this
                  simpa using this)
                clear hop
                go_wp2_with fail
                exact ⟨⟨k + 1, _, L6, by omega, by go_num, HF6.out, HS6.out, by have := HL6.out; omega, HSN.out, HNX.out⟩, by simp [intOf]; omega⟩
              · rw [hop] at x4 HTE
                clear hop
                cases EQ
                · obtain rfl : R = false := by rw [← HTC.out, HTE.out]; rfl
                  go_wp2_with fail
                  refine HSR.out.mono ?_
                  rintro e w7 ⟨rfl, hN⟩
                  dsimp only
                  have HB7 := Lib.hid (HF6.out.new_ hN).below
                  clear hN
                  go_wp2_with fail
                  go_ret
                  exact ⟨rfl, HB7.out.os, HB7.out.tape, HB7.out.output, HB7.out.size, fun g hg _ => HB7.out.block g hg⟩
                · have HNX := Lib.hid (show tellsB l (runF f dd.plan) (o.drop (k + 1)) = R from by
                    have := HTC.out
                    rw [HTE.out] at this
                    simpa using this)
                  go_wp2_with fail
                  refine HSR.out.mono ?_
                  rintro e w7 ⟨rfl, hN⟩
                  dsimp only
                  have HF7 := Lib.hid (HF6.out.new_ hN)
                  clear hN
                  go_wp2_with fail
                  exact ⟨⟨k + 1, _, L6, by omega, by go_num, HF7.out, HS6.out, by have := HL6.out; omega, HSN.out, HNX.out⟩, by simp [intOf]; omega⟩
            · obtain rfl : n2 = k := by omega
              obtain rfl : R = true := by
                rw [← HTK.out, List.drop_of_length_le (by rw [HOL.out]; omega), tellsB]
              have HB7 := Lib.hid hkf.below
              clear hlt hk hkf hS hl hsm ht
              go_wp2_with fail
              go_ret
              exact ⟨rfl, HB7.out.os, HB7.out.tape, HB7.out.output, HB7.out.size, fun g hg _ => HB7.out.block g hg⟩
end Go.Proofs.YtbggadhaaphmcaaDoor
