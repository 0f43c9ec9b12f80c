/- BankBalances: the law's walk (fixed's contract is a premise here, to be paid at the join). -/
import Derived.Test.YtbggadhaaphmcaaDoorBt
import Derived.Test.YtbggadhaaphmcaaDoorNr
import Derived.Test.YtbggadhaaphmcaaDoorFe
namespace Go.Proofs.YtbggadhaaphmcaaDoor
open Go.Lib Go.RowKit
set_option linter.unusedVariables false

theorem bals_at {l : List Pr} {k : Nat} {p : Pr} (h : l[k]? = some p) : (bals l)[k]? = some (balI p) := by
  unfold bals
  rw [List.getElem?_map, h]
  rfl
set_option maxRecDepth 100000 in
set_option maxHeartbeats 8000000 in
theorem balances_walk (A : Option Addr) (n c : Nat) (l : List Pr) (w : World) (hE : Env w) (hP : Prs w A n l) (hs : ∀ p ∈ l, p.1.size ≤ 281474976710656) (hnm : n ≤ maxLen)
    (hfx : Calls Tryd.prog 29 #[] w fun e w' => e = .returned (.bool true) ∧ Below w.heap.size w w') :
    Calls Tryd.prog 8 #[.slice A n c] w fun e w' => e = .returned (.bool true) ∧ Below w.heap.size w w' := by
  have HFX := Lib.hid hfx
  have HE := Lib.hid hE
  have H := Lib.hid hP
  have HL := Lib.hid hP.1
  have HS := Lib.hid hs
  have hnI : (n : Int) ≤ 9223372036854775807 := by unfold maxLen at hnm; omega
  clear hE hP hs hfx hnm
  go_enter Tryd.func8, Tryd.ntmps8
  go_wp2_with fail
  refine HFX.out.mono ?_
  rintro e w1 ⟨rfl, hb⟩
  dsimp only
  have HB1 := Lib.hid hb
  clear hb HFX
  by_cases h60 : 60 < n
  · have d : decide (60 < (n : Int)) = true := by simp; omega
    have d' : decide (60 < n) = true := by simpa using h60
    clear h60
    go_wp2_with fail
    go_ret
    exact ⟨rfl, HB1.out⟩
  have d : decide (60 < (n : Int)) = false := by simp; omega
  have d' : decide (60 < n) = false := by simpa using h60
  have hn60 : (n : Int) ≤ 60 := by omega
  have HE1 := Lib.hid (HE.out.below HB1.out)
  have HP1 := Lib.hid (H.out.below HB1.out)
  have HBA := Lib.hid (Balances_any (c := c) HP1.out (by omega) HS.out HE1.out)
  clear h60
  go_wp2_with fail
  refine HBA.out.mono ?_
  rintro e w2 ⟨A2, c2, rfl, ho, hN⟩
  dsimp only
  have HO := Lib.hid ho
  have HN2 := Lib.hid hN
  have HBX := Lib.hid (fun w' (hc : NewW w1 w') => (show Below w.heap.size w w' from Ch.below HB1.out hc (fun _ h => h.elim) HB1.out.size))
  clear ho hN HBA
  have e0 : ((n : Int) != (n : Int)) = false := by simp
  go_wp2_with fail
  go_loopw [4, 26] (fun s i wr => ∃ k : Nat, k ≤ n ∧ i = .int .i64 k ∧ s = .int .i64 (sumI ((bals l).take k)) ∧ NewW w2 wr) (fun _ i _ => n - (intOf i).toNat)
  case atStart => exact ⟨0, by omega, rfl, rfl, Ch.refl _ _⟩
  case round =>
    obtain ⟨k, hk, rfl, rfl, hC⟩ := hrel
    have HC := Lib.hid hC
    have HC1 := Lib.hid (HN2.out.trans' hC)
    clear hC
    by_cases hlt : k < n
    · obtain ⟨p, hp⟩ := some_of_lt (show k < l.length by rw [HL.out]; exact hlt)
      have hrow := own_ch HO.out HC.out (fun _ _ h => h)
      obtain ⟨g, qq, hv, _, _⟩ := hrow.form (by omega)
      injection hv with hv _ hq
      subst hv hq
      have z0 := hrow.cells (g := g) rfl k _ (rowI_get (bals_at hp))
      rw [add_mk, Nat.zero_add] at z0
      have hbk := bals_at hp
      have hst := sumI_take hbk
      have b1 := sumI_bound (l := (bals l).take k) (fun y hy => bals_bound (List.mem_of_mem_take hy))
      have b2 := bals_bound (mem_of_some hbk)
      have b3 : ((bals l).take k).length = k := by rw [List.length_take, bals_len, HL.out]; omega
      rw [b3] at b1
      obtain ⟨b, off, rfl, x0, x1⟩ := (HP1.out.new_ HC1.out).at_ hp
      obtain ⟨V, B⟩ := p
      dsimp only at x0 x1
      have hbl := block_lt_of_cell z0
      have HG := Lib.hid z0
      have HCA := Lib.hid ((Ch.refl (fun _ => False) wr).alloc (.cells #[.string V, .bool B] 45))
      by_cases h100 : 100 < V.size
      · have q1 : decide (100 < (V.size : Int)) = true := by simp; omega
        have q1' : decide (100 < V.size) = true := by simpa using h100
        have HBE := Lib.hid (HBX.out _ (HC1.out.trans' HCA.out))
        clear h100 hst b1 b2 b3 hrow z0 hbk hp
        go_wp2_with fail
        go_ret
        exact ⟨rfl, HBE.out⟩
      have q1 : decide (100 < (V.size : Int)) = false := by simp; omega
      have q1' : decide (100 < V.size) = false := by simpa using h100
      have HNR := Lib.hid (fun w' => Number_ref V (by omega) w')
      have HST := Lib.hid hst
      generalize hS : sumI ((bals l).take k) = S at *
      clear h100 hst hrow hbk hp hbl b3 hS
      cases B
      · have HST := Lib.hid (show sumI ((bals l).take (k + 1)) = S + 0 from HST.out)
        have zz := cell_new (show wr.cell? ⟨g, k, none⟩ = some (.int .i64 0) from HG.out) HCA.out
        have hS1 : IntKind.i64.wrap (S + 0) = S + 0 := IntWalk.i64_in _ ⟨by omega, by omega⟩
        have hS2 : IntKind.i64.wrap S = S := IntWalk.i64_in _ ⟨by omega, by omega⟩
        have HCZ := Lib.hid (HC.out.trans' HCA.out)
        clear z0 HG b2
        go_wp2_with fail
        exact ⟨⟨k + 1, by omega, by go_num, by rw [HST.out]; simp, HCZ.out⟩, by simp [intOf]; omega⟩
      · have HST := Lib.hid (show sumI ((bals l).take (k + 1)) = S + numR V from HST.out)
        have hg := cell_new (show wr.cell? ⟨g, k, none⟩ = some (.int .i64 (numR V)) from HG.out) HCA.out
        have HGG := Lib.hid hg
        have b4 : -1125899906842624 ≤ numR V ∧ numR V ≤ 1125899906842624 := numR_bound V
        generalize numR V = X at *
        have hS1 : IntKind.i64.wrap (S + X) = S + X := IntWalk.i64_in _ ⟨by omega, by omega⟩
        have e1 : (X != X) = false := by simp
        clear z0 HG b2 hg
        go_wp2_with fail
        refine (HNR.out _).mono ?_
        rintro e w5 ⟨rfl, hN⟩
        dsimp only
        have zz := cell_new HGG.out hN
        have HCZ := Lib.hid ((HC.out.trans' HCA.out).trans' hN)
        clear hN HNR x0 x1
        go_wp2_with fail
        exact ⟨⟨k + 1, by omega, by go_num, by rw [HST.out], HCZ.out⟩, by simp [intOf]; omega⟩
    · obtain rfl : k = n := by omega
      have ht : (bals l).take k = bals l := by rw [← HL.out, ← bals_len, List.take_length]
      rw [ht]
      clear hlt hk ht
      have HPO := Lib.hid (Poor_any (c := c) (HP1.out.new_ HC1.out) (by omega) HS.out (HE1.out.new_ HC1.out))
      have HTO := Lib.hid (fun w' (hc : NewW w1 w') => Total_any (c := c) (HP1.out.new_ hc) (by omega) HS.out (HE1.out.new_ hc))
      have HBL := Lib.hid (show (bals l).length = k by rw [bals_len]; exact HL.out)
      generalize bals l = bs at *
      generalize sumI bs = S at *
      obtain ⟨R, hR⟩ : ∃ R, poorI bs 0 = R := ⟨_, rfl⟩
      have HR := Lib.hid hR
      rw [hR] at HPO
      clear hR
      have eS : (S == S) = true := by simp
      go_wp2_with fail
      refine HPO.out.mono ?_
      rintro e w5 ⟨rfl, hN⟩
      dsimp only
      have HN5 := Lib.hid (HC1.out.trans' hN)
      have HO5 := Lib.hid (own_ch (own_ch HO.out HC.out (fun _ _ h => h)) hN (fun _ _ h => h))
      clear hN HPO HC HC1 HO
      go_wp2_with fail
      go_loopw [57] (fun i wr => ∃ j : Nat, j ≤ k ∧ i = .int .i64 j ∧ (∀ y ∈ bs.take j, ¬ y < 0) ∧ NewW w5 wr) (fun i _ => k - (intOf i).toNat)
      case atStart => exact ⟨0, by omega, rfl, by simp, Ch.refl _ _⟩
      case round =>
        obtain ⟨j, hj, rfl, hal, hC⟩ := hrel
        have HC := Lib.hid hC
        have HA := Lib.hid hal
        clear hC hal
        by_cases hlt : j < k
        · obtain ⟨x, hx⟩ := some_of_lt (show j < bs.length by rw [HBL.out]; exact hlt)
          have hrow := own_ch HO5.out HC.out (fun _ _ h => h)
          obtain ⟨g, qq, hv, _, _⟩ := hrow.form (by omega)
          injection hv with hv _ hq
          subst hv hq
          have x0 := hrow.cells (g := g) rfl j _ (rowI_get hx)
          rw [add_mk, Nat.zero_add] at x0
          have HX := Lib.hid hx
          clear hrow hx
          by_cases hneg : x < 0
          · have d : decide (x < 0) = true := by simpa using hneg
            have hr : R = some j := by
              rw [← HR.out, poor_some HA.out HX.out hneg, Nat.zero_add]
            subst hr
            have eJ : ((j : Int) == (j : Int)) = true := by simp
            have HTT := Lib.hid (HTO.out _ (HN5.out.trans' HC.out))
            clear hneg HTO
            go_wp2_with fail
            refine HTT.out.mono ?_
            rintro e w6 ⟨rfl, hN⟩
            dsimp only
            have HBE := Lib.hid (HBX.out _ ((HN5.out.trans' HC.out).trans' hN))
            clear hN HTT
            go_wp2_with fail
            go_ret
            exact ⟨rfl, HBE.out⟩
          · have d : decide (x < 0) = false := by simpa using hneg
            have HA2 := Lib.hid (show ∀ y ∈ bs.take (j + 1), ¬ y < 0 by
              have hkl := lt_of_some HX.out
              rw [List.take_succ_eq_append_getElem hkl]
              intro y hy
              rcases List.mem_append.1 hy with hy | hy
              · exact HA.out y hy
              · have h0 := HX.out
                rw [List.getElem?_eq_getElem hkl] at h0
                injection h0 with h0
                simp at hy
                subst hy
                rw [h0]; exact hneg)
            clear hneg
            go_wp2_with fail
            exact ⟨⟨j + 1, by omega, by go_num, HA2.out, HC.out⟩, by simp [intOf]; omega⟩
        · obtain rfl : j = k := by omega
          have hr : R = none := by
            rw [← HR.out]
            have := HA.out
            rw [← HBL.out, List.take_length] at this
            exact poor_none this
          subst hr
          have HTT := Lib.hid (HTO.out _ (HN5.out.trans' HC.out))
          clear hlt hj HTO
          go_wp2_with fail
          refine HTT.out.mono ?_
          rintro e w6 ⟨rfl, hN⟩
          dsimp only
          have HBE := Lib.hid (HBX.out _ ((HN5.out.trans' HC.out).trans' hN))
          clear hN HTT
          go_wp2_with fail
          go_ret
          exact ⟨rfl, HBE.out⟩
end Go.Proofs.YtbggadhaaphmcaaDoor
