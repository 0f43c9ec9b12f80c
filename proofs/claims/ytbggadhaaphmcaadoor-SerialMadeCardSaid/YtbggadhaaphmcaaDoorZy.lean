/- serial: Explain, Check. -/
import Derived.Test.YtbggadhaaphmcaaDoorZn
namespace Go.Proofs.YtbggadhaaphmcaaDoor
open Go.Lib Go.RowKit
set_option linter.unusedVariables false

theorem from_any {w0 : World} (hE : Env w0) {sb db n c : Nat} {A : Option Addr} {l : Hist} (hr : ∀ d ∈ l, d.res.length ≤ 1000) : ∀ r, FromIH w0 sb db n c A l r (10 ^ r)
  | 0 => fun w ps L f B m q mm F hps h hnd hlow hL hS hF hm hmm =>
    from_all h hlow (all_of_full hnd (by rw [h.sr.dd.1]; exact hlow) (by rw [h.sr.dd.1]; exact hps)) _ f
  | r + 1 => fun w ps L f B m q mm F hps h hnd hlow hL hS hF hm hmm => by
    rcases Bool.eq_false_or_eq_true (allB l ps) with ha | ha
    · exact from_all h hlow ha _ f
    · rw [Nat.pow_succ] at hmm ⊢
      exact from_step hE hr r (10 ^ r) (from_any hE hr r) hps h hnd hlow hL hS hF hm hmm (Nat.pow_pos (by decide)) ha
noncomputable def explO (l : Hist) : Option (List Nat) := if rightD l = 0 then findS l l.length [] none0 else none
theorem planE_nn : ∀ {l : Hist}, planE l = 0 → ∀ d ∈ l, rightE d.plan = 0
  | [], _, d, hd => by simp at hd
  | a :: r, h, d, hd => by
    rw [planE] at h
    split at h
    · rename_i ha
      rcases List.mem_cons.1 hd with e | hd
      · subst e; exact ha
      · exact planE_nn h d hd
    · rename_i ha
      exact absurd h ha
theorem right_hist {l : Hist} (h : rightD l = 0) : l.length ≤ 8 ∧ Fine l ∧ ∀ d ∈ l, rightE d.plan = 0 := by
  unfold rightD at h
  split at h
  · cases h
  · split at h
    · cases h
    · rename_i h1 h2
      refine ⟨by omega, fun j hj => ?_, planE_nn h⟩
      obtain ⟨d, hd⟩ := some_of_lt hj
      rw [Hist.get_of hd]
      have h3 : l.any rangeB = false := by simpa using h2
      rw [List.any_eq_false] at h3
      have := h3 d (mem_of_some hd)
      unfold rangeB at this
      simp at this
      omega
def ExplP (w : World) (l : Hist) (e : Ending) (w' : World) : Prop :=
  ∃ (A' : Option Addr) (c' : Nat), e = .returned (.tuple #[.slice A' ((explO l).getD []).length c', .bool (explO l).isSome, .int .i64 (rightD l)]) ∧ Nums w' A' ((explO l).getD []).length (natL ((explO l).getD [])) ∧ NewW w w'
set_option maxRecDepth 100000 in
set_option maxHeartbeats 4000000 in
theorem Explain_any {w : World} {A : Option Addr} {n c : Nat} {l : Hist} (h : Deeds w A n l) (hr : ∀ d ∈ l, d.res.length ≤ 1000) (hE : Env w) :
    Calls Tryd.prog 43 #[.slice A n c] w (ExplP w l) := by
  have HR := Lib.hid (RightD_any (c := c) h)
  have hmm := @run_makeMap Tryd.prog
  by_cases h0 : rightD l = 0
  · have h8 := (right_hist h0).1
    have hn8 : n ≤ 8 := by rw [← h.1]; exact h8
    have HO := Lib.hid (show explO l = findS l n [] none0 by unfold explO; rw [if_pos h0, h.1])
    have H0 := Lib.hid h0
    rw [h0] at HR
    have HD := Lib.hid h
    have HFI := Lib.hid (fun sb db => from_any hE (sb := sb) (db := db) (n := n) (c := c) (A := A) hr n)
    have HP := Lib.hid (show (10 : Nat) ^ n ≤ 100000000 from Nat.pow_le_pow_right (by decide) hn8)
    clear h hr hE h0 h8
    go_enter Tryd.func43, Tryd.ntmps43
    go_wp2_with fail
    refine HR.out.mono ?_
    rintro e w1 ⟨rfl, hN⟩
    dsimp only
    have HN1 := Lib.hid (show NewW w w1 from hN)
    clear hN HR
    have HB2 := Lib.hid (Blk.new (w1.alloc (.map #[] 0)) 119 #[.slice A n c, .map (some w1.heap.size)])
    have HN2 := Lib.hid (show NewW w ((w1.alloc (.map #[] 0)).alloc (.cells #[.slice A n c, .map (some w1.heap.size)] 119)) from (HN1.out.alloc _).alloc _)
    have HDM := Lib.hid (show DMap ((w1.alloc (.map #[] 0)).alloc (.cells #[.slice A n c, .map (some w1.heap.size)] 119)) w1.heap.size 0 (.map []) (fun _ _ => 0) from (dmap_made w1).ch ((Ch.refl (fun _ => False) _).alloc _) (fun h => h))
    rw [World.size_alloc] at HB2
    have HFS := Lib.hid (show FS w ((w1.alloc (.map #[] 0)).alloc (.cells #[.slice A n c, .map (some w1.heap.size)] 119)) (w1.heap.size + 1) w1.heap.size n c A l 0 (fun _ _ => 0) from
      ⟨⟨HB2.out, HD.out.new_ HN2.out, hn8⟩, ⟨_, HDM.out⟩, dead_zero l, HN2.out.to_below (fun _ h => h.elim) (Nat.le_refl _), HN1.out.size⟩)
    have HC := Lib.hid (show Calls Tryd.prog 69 #[.pointer (some ⟨w1.heap.size + 1, 0, none⟩), .int .u64 0, .slice none 0 0] ((w1.alloc (.map #[] 0)).alloc (.cells #[.slice A n c, .map (some w1.heap.size)] 119)) (FromP w ((w1.alloc (.map #[] 0)).alloc (.cells #[.slice A n c, .map (some w1.heap.size)] 119)) (w1.heap.size + 1) w1.heap.size n c A l 0 (10 ^ n) (findS l n [] none0)) from HFI.out (w1.heap.size + 1) w1.heap.size _ [] [] none0 none 0 0 0 _ (by simp) HFS.out List.nodup_nil (fun i hi => by simp at hi) ⟨rfl, fun h => absurd rfl h⟩ sorted_nil fit_zero (by omega) (by have := HP.out; omega))
    have HSZ := Lib.hid (show w.heap.size ≤ w1.heap.size from HN1.out.size)
    clear HFI HB2 HDM
    go_wp2_with fail
    refine HC.out.mono ?_
    rintro e w9 ⟨⟨A', c', rfl, hnum⟩, m9, F9, hm9, hF9, hC9⟩
    dsimp only
    have HFIN := Lib.hid (show ExplP w l (.returned (.tuple #[.slice A' ((findS l n [] none0).getD []).length c', .bool (findS l n [] none0).isSome, .int .i64 0])) w9 from by
      refine ⟨A', c', by rw [HO.out, H0.out], by rw [HO.out]; exact hnum, ?_⟩
      have hb := hF9.below
      exact ⟨hb.os, hb.tape, hb.output, hb.size, fun g hg _ => hb.block g hg⟩)
    generalize (findS l n [] none0).getD [] = OL at *
    generalize (findS l n [] none0).isSome = OB at *
    generalize OL.length = OLL at *
    clear hnum hm9 hF9 hC9 HC HO
    go_wp2_with fail
    go_ret3
    exact HFIN.out
  · have HO := Lib.hid (show explO l = none from if_neg h0)
    obtain ⟨V, hV⟩ : ∃ V, rightD l = V := ⟨_, rfl⟩
    have HV := Lib.hid hV
    rw [hV] at HR h0
    have d1 : (V != 0) = true := by simpa using h0
    have d2 : decide (V = 0) = false := by simpa using h0
    have d3 : (V == 0) = false := by simpa using h0
    clear h hr hE h0 hV
    go_enter Tryd.func43, Tryd.ntmps43
    go_wp2_with fail
    refine HR.out.mono ?_
    rintro e w1 ⟨rfl, hN⟩
    dsimp only
    have HN1 := Lib.hid (show NewW w w1 from hN)
    clear hN HR
    go_wp2_with fail
    go_ret3
    refine ⟨none, 0, by rw [HO.out, HV.out]; rfl, by rw [HO.out]; exact ⟨rfl, fun h => absurd rfl h⟩, HN1.out⟩
/-! ### Check -/
/-- A search without a memory. -/
structure CS (w0 w : World) (sb n c : Nat) (A : Option Addr) (l : Hist) (v : Value) (k : Nat) (ps : List Nat) (f : Has) : Prop where
  sr : SrB w sb A n c (.map none) l
  wr : ∃ B m q L, v = .slice B m q ∧ Wrs w B m L ∧ SortedW L f ∧ m ≤ 16 * k
  fit : FitF f
  low : Low n ps
  new : NewW w0 w
theorem CS.new_ {w0 w w' : World} {sb n c k : Nat} {A : Option Addr} {l : Hist} {v : Value} {ps : List Nat} {f : Has} (h : CS w0 w sb n c A l v k ps f) (hc : NewW w w') : CS w0 w' sb n c A l v k ps f := by
  obtain ⟨B, m, q, L, h1, h2, h3, h4⟩ := h.wr
  exact ⟨h.sr.new_ hc, ⟨B, m, q, L, h1, h2.new_ hc, h3, h4⟩, h.fit, h.low, h.new.trans' hc⟩
noncomputable def checkO (l : Hist) (o : List Int) : Bool := decide (rightD l = 0) && chkB l [] none0 o
set_option maxRecDepth 100000 in
set_option maxHeartbeats 8000000 in
theorem Check_any {w : World} {A A2 : Option Addr} {n c n2 c2 : Nat} {l : Hist} {o : List Int} (h : Deeds w A n l) (hr : ∀ d ∈ l, d.res.length ≤ 1000) (hO : Nums w A2 n2 o) (hn2 : n2 ≤ 50) (hE : Env w) :
    Calls Tryd.prog 47 #[.slice A n c, .slice A2 n2 c2] w fun e w' => e = .returned (.tuple #[.bool (checkO l o), .int .i64 (rightD l)]) ∧ NewW w w' := by
  have HR := Lib.hid (RightD_any (c := c) h)
  have hn2I : (n2 : Int) ≤ 50 := by omega
  by_cases h0 : rightD l = 0
  · have h8 := (right_hist h0).1
    have hn8 : n ≤ 8 := by rw [← h.1]; exact h8
    have hnI : (n : Int) ≤ 8 := by omega
    obtain ⟨R, hRR⟩ : ∃ R, chkB l [] none0 o = R := ⟨_, rfl⟩
    have HRR := Lib.hid hRR
    have HCO := Lib.hid (show checkO l o = R by unfold checkO; rw [h0, hRR]; rfl)
    have H0 := Lib.hid h0
    rw [h0] at HR
    have HD := Lib.hid h
    have HLN := Lib.hid h.1
    have HE := Lib.hid hE
    have HRES := Lib.hid hr
    have HOO := Lib.hid hO
    have HOL := Lib.hid hO.1
    rw [HCO.out, H0.out]
    clear h hr hE h0 h8 hRR hO
    go_enter Tryd.func47, Tryd.ntmps47
    go_wp2_with fail
    refine HR.out.mono ?_
    rintro e w1 ⟨rfl, hN⟩
    dsimp only
    have HN1 := Lib.hid (show NewW w w1 from hN)
    clear hN HR
    have HB2 := Lib.hid (Blk.new w1 119 #[.slice A n c, .map none])
    have HN2 := Lib.hid (show NewW w (w1.alloc (.cells #[.slice A n c, .map none] 119)) from HN1.out.alloc _)
    have HCS := Lib.hid (show CS w (w1.alloc (.cells #[.slice A n c, .map none] 119)) w1.heap.size n c A l (.slice none 0 0) 0 [] none0 from
      ⟨⟨HB2.out, HD.out.new_ HN2.out, hn8⟩, ⟨none, 0, 0, [], rfl, ⟨rfl, fun h => absurd rfl h⟩, sorted_nil, by omega⟩, fit_zero, (fun i hi => by simp at hi), HN2.out⟩)
    clear HB2
    go_wp2_with fail
    obtain ⟨sb, hsb⟩ : ∃ sb, w1.heap.size = sb := ⟨_, rfl⟩
    rw [hsb] at HCS
    try simp only [hsb]
    clear hsb
    go_loopw [8, 9, 24] (fun pv hv i wr => ∃ (k : Nat) (ps : List Nat) (f : Has), k ≤ n2 ∧ i = .int .i64 k ∧ pv = .int .u64 (maskN ps) ∧ CS w wr sb n c A l hv k ps f ∧ chkB l ps f (o.drop k) = R) (fun _ _ i _ => n2 - (intOf i).toNat)
    case atStart => exact ⟨0, [], none0, by omega, rfl, rfl, HCS.out, HRR.out⟩
    case round =>
      obtain ⟨k, ps, f, hk, rfl, rfl, hcs, hchk⟩ := hrel
      have HC := Lib.hid hcs
      have HCH := Lib.hid hchk
      obtain ⟨B, m, q, L, rfl, hW, hS, hm⟩ := hcs.wr
      have HW := Lib.hid hW
      have HS := Lib.hid hS
      clear hcs hchk hW hS HCS
      by_cases hlt : k < n2
      · obtain ⟨x, hx⟩ := some_of_lt (show k < o.length by rw [HOL.out]; exact hlt)
        obtain ⟨b2, off2, rfl, y0⟩ := (HOO.out.new_ HC.out.new).at_ hx
        have hdr : o.drop k = x :: o.drop (k + 1) := by
          rw [List.drop_eq_getElem_cons (lt_of_some hx)]
          rw [List.getElem?_eq_getElem (lt_of_some hx)] at hx
          injection hx with hx
          rw [hx]
        have HCC := Lib.hid (show ((decide (0 ≤ x) && decide (x < l.length)) && (mayB l ps x.toNat && (tellB (l.get x.toNat) f && chkB l (ps ++ [x.toNat]) (runF f (l.get x.toNat).plan) (o.drop (k + 1))))) = R from by
          have := HCH.out
          rw [hdr, chkB] at this
          exact this)
        clear hx hdr HCH
        by_cases x0 : x < 0
        · have d0 : decide (x < 0) = true := by simpa using x0
          obtain rfl : R = false := by rw [← HCC.out, show decide (0 ≤ x) = false by simp; omega]; rfl
          clear x0
          go_wp2_with fail
          go_ret2
          exact ⟨rfl, HC.out.new⟩
        have d0 : decide (x < 0) = false := by simpa using x0
        by_cases x1 : (n : Int) ≤ x
        · have d1 : decide ((n : Int) ≤ x) = true := by simpa using x1
          obtain rfl : R = false := by rw [← HCC.out, HLN.out, show decide (x < (n : Int)) = false by simp; omega]; simp
          clear x0 x1
          go_wp2_with fail
          go_ret2
          exact ⟨rfl, HC.out.new⟩
        have d1 : decide ((n : Int) ≤ x) = false := by simpa using x1
        obtain ⟨i, rfl⟩ : ∃ i : Nat, x = i := ⟨x.toNat, by omega⟩
        have hi : i < n := by omega
        have HCC := Lib.hid (show (mayB l ps i && (tellB (l.get i) f && chkB l (ps ++ [i]) (runF f (l.get i).plan) (o.drop (k + 1)))) = R from by
          have := HCC.out
          rw [HLN.out, show decide (0 ≤ (i : Int)) = true by simp, show decide ((i : Int) < (n : Int)) = true by simp; omega, Int.toNat_natCast] at this
          simpa using this)
        have HMY := Lib.hid (may_walk HC.out.sr HC.out.low hi)
        obtain ⟨M, hM⟩ : ∃ M, maskN ps = M := ⟨_, rfl⟩
        have hor := mask_or (ps := ps) (HC.out.low.lt hn8) (show i < 64 by omega)
        rw [hM] at HMY hor ⊢
        have HOR := Lib.hid hor
        clear x0 x1 hM hor
        rcases Bool.eq_false_or_eq_true (mayB l ps i) with hmay | hmay
        · rw [hmay] at HMY
          have HMAY := Lib.hid hmay
          clear hmay
          go_wp2_with fail
          refine HMY.out.mono ?_
          rintro e w5 ⟨rfl, hN⟩
          dsimp only
          have HC5 := Lib.hid (HC.out.new_ hN)
          have HAF5 := Lib.hid (after_any (q := q) HC5.out.sr (HW.out.new_ hN) HS.out HC.out.fit (by omega) (HE.out.new_ HC5.out.new) hi HRES.out)
          clear hN HMY
          go_wp2_with fail
          refine HAF5.out.mono ?_
          rintro e w6 ⟨A6, c6, M6, rfl, hW6, hS6, hl6, hN6⟩
          dsimp only
          have HC6 := Lib.hid (HC5.out.new_ hN6)
          have HW6 := Lib.hid hW6
          have HS6 := Lib.hid hS6
          have hm6 : M6.length ≤ 16 * (k + 1) := by omega
          have HM6 := Lib.hid hm6
          clear hW6 hS6 hl6 hN6 hm6 HAF5
          rcases Bool.eq_false_or_eq_true (tellB (l.get i) f) with ht | ht
          · rw [ht]
            have HNX := Lib.hid (show chkB l (ps ++ [i]) (runF f (l.get i).plan) (o.drop (k + 1)) = R from by
              have := HCC.out
              rw [HMAY.out, ht] at this
              simpa using this)
            have HCN := Lib.hid (show CS w w6 sb n c A l (.slice A6 M6.length c6) (k + 1) (ps ++ [i]) (runF f (l.get i).plan) from
              ⟨HC6.out.sr, ⟨A6, _, c6, M6, rfl, HW6.out, HS6.out, HM6.out⟩, HC.out.fit.run _, fun x hx => by
                rcases List.mem_append.1 hx with hx | hx
                · exact HC.out.low x hx
                · simp only [List.mem_singleton] at hx
                  subst hx; exact hi, HC6.out.new⟩)
            have hor := HOR.out
            clear ht
            go_wp2_with fail
            exact ⟨⟨k + 1, ps ++ [i], _, by omega, by go_num, by first | rfl | rw [hor], HCN.out, HNX.out⟩, by simp [intOf]; omega⟩
          · obtain rfl : R = false := by
              rw [← HCC.out, ht]
              simp
            rw [ht]
            clear ht
            go_wp2_with fail
            go_ret2
            exact ⟨rfl, HC6.out.new⟩
        · obtain rfl : R = false := by
            rw [← HCC.out, hmay]
            rfl
          rw [hmay] at HMY
          clear hmay
          go_wp2_with fail
          refine HMY.out.mono ?_
          rintro e w5 ⟨rfl, hN⟩
          dsimp only
          have HC5 := Lib.hid (HC.out.new_ hN)
          clear hN
          go_wp2_with fail
          go_ret2
          exact ⟨rfl, HC5.out.new⟩
      · obtain rfl : n2 = k := by omega
        have hfin : allB l ps = R := by
          rw [← HCH.out, List.drop_of_length_le (by rw [HOL.out]; omega), chkB]
        have HAL := Lib.hid (all_walk HC.out.sr HC.out.low)
        rw [hfin] at HAL
        clear hfin hlt hk
        go_wp2_with fail
        refine HAL.out.mono ?_
        rintro e w5 ⟨rfl, hN⟩
        dsimp only
        have HN5 := Lib.hid (HC.out.new.trans' hN)
        clear hN
        go_wp2_with fail
        go_ret2
        exact ⟨rfl, HN5.out⟩
  · have HO := Lib.hid (show checkO l o = false from by unfold checkO; rw [show decide (rightD l = 0) = false by simpa using h0]; rfl)
    obtain ⟨V, hV⟩ : ∃ V, rightD l = V := ⟨_, rfl⟩
    rw [hV] at HR h0 ⊢
    rw [HO.out]
    have d1 : (V != 0) = true := by simpa using h0
    have d2 : decide (V = 0) = false := by simpa using h0
    have d3 : (V == 0) = false := by simpa using h0
    clear h hr hE h0 hV hO
    go_enter Tryd.func47, Tryd.ntmps47
    go_wp2_with fail
    refine HR.out.mono ?_
    rintro e w1 ⟨rfl, hN⟩
    dsimp only
    have HN1 := Lib.hid (show NewW w w1 from hN)
    clear hN HR
    go_wp2_with fail
    go_ret2
    exact ⟨rfl, HN1.out⟩
end Go.Proofs.YtbggadhaaphmcaaDoor
