/- bank: the document's Parts. -/
import Derived.Test.YtbggadhaaphmcaaDoorBq
namespace Go.Proofs.YtbggadhaaphmcaaDoor
open Go.Lib Go.RowKit
set_option linter.unusedVariables false

structure PtI (n : Nat) (f : Nat) (s part rest U : Int) (k : Nat) (row : List Int) (left : Int) : Prop where
  len : row.length = n
  run : shRun f s part rest k = (U * left, row.take k)
  far : ∀ j, k ≤ j → j < n → row[j]? = some (if j = f then -s else 0)
  pos : 0 ≤ left ∧ left ≤ 1048576
section
variable {n f : Nat} {s part rest U : Int} {k : Nat} {row : List Int} {left : Int}
theorem pt_zero (hf : f < n) (hp : 0 ≤ left ∧ left ≤ 1048576) : PtI n f s part (U * left) U 0 ((List.replicate n 0).set f (-s)) left := by
  refine ⟨by simp, by rw [shRun_zero]; simp, fun j _ hj => ?_, hp⟩
  rw [List.getElem?_set]
  by_cases e : f = j
  · subst e
    rw [if_pos rfl, if_pos (by simpa using hf), if_pos rfl]
  · rw [if_neg e, if_neg (fun h => e h.symm), List.getElem?_replicate, if_pos hj]
theorem PtI.at_ (h : PtI n f s part rest U k row left) (hk : k < n) : row[k]? = some (if k = f then -s else 0) := h.far k (Nat.le_refl _) hk
theorem pt_from (h : PtI n f s part rest U k row left) (hk : k < n) (e : k = f) : PtI n f s part rest U (k + 1) row left := by
  refine ⟨h.len, ?_, fun j hj => h.far j (by omega), h.pos⟩
  have h1 := h.at_ hk
  rw [if_pos e] at h1
  rw [shRun_succ, h.run, take_snoc_ h1]
  unfold shStep
  rw [if_pos (by rw [e])]
 where
  take_snoc_ {row : List Int} {k : Nat} {x : Int} (h : row[k]? = some x) : row.take (k + 1) = row.take k ++ [x] := by
    have hk := lt_of_some h
    rw [List.take_succ_eq_append_getElem hk]
    rw [List.getElem?_eq_getElem hk] at h
    injection h with h
    rw [h]
theorem take_set_snoc {row : List Int} {k : Nat} (hk : k < row.length) (x : Int) : (row.set k x).take (k + 1) = row.take k ++ [x] := by
  rw [List.take_succ_eq_append_getElem (by simpa using hk)]
  rw [List.take_set_of_le (Nat.le_refl _)]
  simp
theorem set_far (h : PtI n f s part rest U k row left) (x : Int) : ∀ j, k + 1 ≤ j → j < n → (row.set k x)[j]? = some (if j = f then -s else 0) := fun j hj hn => by
  rw [List.getElem?_set_ne (by omega)]
  exact h.far j (by omega) hn
theorem pt_none (hU : U = 1 ∨ U = -1) (h : PtI n f s part rest U k row left) (hk : k < n) (e : ¬ k = f) (hl : ¬ 0 < left) : PtI n f s part rest U (k + 1) (row.set k part) left := by
  refine ⟨by simp [h.len], ?_, set_far h part, h.pos⟩
  rw [shRun_succ, h.run, take_set_snoc (by rw [h.len]; exact hk), shStep_unit hU h.pos.1 _ _ (by omega), if_neg hl]
theorem pt_some (hU : U = 1 ∨ U = -1) (h : PtI n f s part rest U k row left) (hk : k < n) (e : ¬ k = f) (hl : 0 < left) : PtI n f s part rest U (k + 1) (row.set k (part + U)) (left - 1) := by
  refine ⟨by simp [h.len], ?_, set_far h _, by have := h.pos; omega⟩
  rw [shRun_succ, h.run, take_set_snoc (by rw [h.len]; exact hk), shStep_unit hU h.pos.1 _ _ (by omega), if_pos hl]
theorem pt_end (h : PtI n f s part rest U n row left) : (shRun f s part rest n).2 = row := by
  rw [h.run, ← h.len]
  exact List.take_length
end
theorem rowI_set (row : List Int) (k : Nat) (x : Int) : rowI (row.set k x) = (rowI row).set k (.int .i64 x) := by simp [rowI, List.map_set]
theorem own_cell {w : World} {B g n c : Nat} {xs : List Value} {i : Nat} {v : Value} (h : w.ownsRow B 3 1 (.slice (some ⟨g, 0, none⟩) n c) n xs) (hv : xs[i]? = some v) : w.cell? ⟨g, i, none⟩ = some v := by
  have := h.cells (g := g) rfl i v hv
  rwa [add_mk, Nat.zero_add] at this
def PartsP (w : World) (n f : Nat) (s : Int) (e : Ending) (w' : World) : Prop :=
  ∃ g, e = .returned (.slice (some ⟨g, 0, none⟩) n n) ∧ w'.ownsRow w.heap.size 3 1 (.slice (some ⟨g, 0, none⟩) n n) n (rowI (shareI n f s)) ∧ NewW w w'
set_option maxRecDepth 100000 in
set_option maxHeartbeats 8000000 in
theorem Parts_ref (n f : Nat) (s : Int) (h1 : 1 ≤ n) (h2 : n ≤ 16) (hf : f < n) (hs : -1048576 ≤ s ∧ s ≤ 1048576) (w : World) :
    Calls Tryd.prog 37 #[.int .i64 n, .int .i64 f, .int .i64 s] w (PartsP w n f s) := by
  obtain ⟨i1, hi1, hy0, hy1, hy2⟩ := info_parts int_info
  have hfI : (f : Int) < (n : Int) := by omega
  have hnI : (n : Int) ≤ 16 := by omega
  have HMK := Lib.hid (fun (w5 : World) (h : w5.ownsRow w.heap.size 3 1 (.slice (some ⟨w.heap.size, 0, none⟩) n n) n (madeCells (Value.int .i64 0).cells (n * 1)).toList) =>
    (show w5.ownsRow w.heap.size 3 1 (.slice (some ⟨w.heap.size, 0, none⟩) n n) n (rowI (List.replicate n 0)) from by
      have e : rowI (List.replicate n 0) = List.replicate n (.int .i64 0) := by simp [rowI]
      rw [e]
      rw [show (Value.int .i64 0).cells = #[Value.int .i64 0] from rfl, Nat.mul_one, toList_madeCells_one] at h
      exact h))
  by_cases e1 : n = 1
  · have d : decide ((n : Int) = 1) = true := by simp; omega
    have d' : ((n : Int) == 1) = true := by simp; omega
    have HSH := Lib.hid (show shareI n f s = List.replicate n 0 by unfold shareI; rw [if_pos e1, e1]; rfl)
    clear e1
    go_enter Tryd.func37, Tryd.ntmps37
    go_wp2_with (first
      | (at_make
         refine wpList_make_full _ rfl _ _ 58 rfl w.heap.size 3 i1 (.int .i64 0) 1 Tryd.underlying58 hi1 hy0 hy1 _ _ _ _ n rfl rfl rfl rfl (by rw [hy2]; omega) (by unfold maxLen; omega) (by simp) ?_
         intro w5 hown5 hg5
         have HP5 := Lib.hid hown5
         have HG5 := Lib.hid hg5
         clear hown5 hg5))
    go_ret
    refine ⟨_, rfl, ?_, (Ch.refl _ _).grown HG5.out (fun x hx => by cases hx)⟩
    rw [HSH.out]
    exact HMK.out _ HP5.out
  have d : decide ((n : Int) = 1) = false := by simp; omega
  have d' : ((n : Int) == 1) = false := by simp; omega
  have dx0 : decide ((f : Int) < 0) = false := by simp
  have dx1 : decide ((n : Int) ≤ (f : Int)) = false := by simp; omega
  have dx1' : decide (n ≤ f) = false := by simp; omega
  have hn2 : (2 : Int) ≤ (n : Int) := by omega
  have HSG := Lib.hid (share_signs s ((n : Int) - 1) (by omega))
  have HSH := Lib.hid (show shareI n f s = (shRun f s (s.tdiv ((n : Int) - 1)) (s.tmod ((n : Int) - 1)) n).2 by unfold shareI; rw [if_neg e1])
  have hneg : IntKind.i64.wrap (-s) = -s := IntWalk.i64_in _ ⟨by omega, by omega⟩
  clear e1
  by_cases hsg : s < 0
  · obtain ⟨t, rfl⟩ : ∃ t, s = -t := ⟨-s, by omega⟩
    have hnn : (- -t) = t := by omega
    rw [hnn] at hneg
    have HNN := Lib.hid hnn
    clear hnn
    have dS : decide (-t < 0) = true := by simp; omega
    obtain ⟨q1, q2⟩ := HSG.out.2 hsg
    rw [HNN.out] at q1 q2
    have HQ1 := Lib.hid q1
    have HQ2 := Lib.hid q2
    have b1 : 0 ≤ (t) / ((n : Int) - 1) ∧ (t) / ((n : Int) - 1) ≤ 1048576 := ⟨Int.ediv_nonneg (by omega) (by omega), Int.le_trans (Int.ediv_le_self _ (by omega)) (by omega)⟩
    have b2 : 0 ≤ (t) % ((n : Int) - 1) ∧ (t) % ((n : Int) - 1) ≤ 1048576 := ⟨Int.emod_nonneg _ (by omega), by have := Int.emod_lt_of_pos (t) (show (0 : Int) < (n : Int) - 1 by omega); omega⟩
    have HB1 := Lib.hid b1
    have HB2 := Lib.hid b2
    clear q1 q2 b1 b2
    go_enter Tryd.func37, Tryd.ntmps37
    go_wp2_with (first
      | (at_make
         refine wpList_make_full _ rfl _ _ 58 rfl w.heap.size 3 i1 (.int .i64 0) 1 Tryd.underlying58 hi1 hy0 hy1 _ _ _ _ n rfl rfl rfl rfl (by rw [hy2]; omega) (by unfold maxLen; omega) (by simp) ?_
         intro w5 hown5 hg5
         have hrow := HMK.out _ hown5
         have hp0 := own_cell hrow (rowI_get (show (List.replicate n (0 : Int))[f]? = some 0 by rw [List.getElem?_replicate, if_pos hf]))
         have hpf := hrow.frozenAt f
         have HC5 := Lib.hid (show NewW w w5 from (Ch.refl _ _).grown hg5 (fun x hx => by cases hx))
         have HP5 := Lib.hid hrow
         clear hown5 hg5 hrow))
    obtain ⟨g, hg⟩ : ∃ g, w.heap.size = g := ⟨_, rfl⟩
    rw [hg] at HP5 hp0 hpf
    simp only [hg]
    have HGP := Lib.hid hg
    have HPR := Lib.hid (show (w5.setCell ⟨g, f, none⟩ (.int .i64 t)).ownsRow g 3 1 (.slice (some ⟨g, 0, none⟩) n n) n (rowI ((List.replicate n 0).set f t)) from by
      rw [rowI_set]
      exact (HP5.out.stored f (.int .i64 t)).1)
    have HCR := Lib.hid (HC5.out.setCell (p := ⟨g, f, none⟩) (.inr (Nat.le_of_eq hg)) (.int .i64 t))
    clear hg HP5 HC5 hp0 hpf
    generalize hWH : (t) / ((n : Int) - 1) = WH at *
    generalize hLF : (t) % ((n : Int) - 1) = LF at *
    obtain ⟨bw0, bw1⟩ := HB1.out
    obtain ⟨bl0, bl1⟩ := HB2.out
    clear hWH hLF HB1 HB2 HSG
    have hz := pt_zero (s := -t) (part := (-t).tdiv ((n : Int) - 1)) (U := (-1)) hf ⟨bl0, bl1⟩
    rw [HNN.out] at hz
    have HZ := Lib.hid hz
    clear hz
    have HRE := Lib.hid (show (-t).tmod ((n : Int) - 1) = (-1) * LF from HQ2.out)
    have HPA := Lib.hid (show (-t).tdiv ((n : Int) - 1) = (-1) * WH from HQ1.out)
    generalize (-t).tdiv ((n : Int) - 1) = PA at *
    generalize (-t).tmod ((n : Int) - 1) = RE at *
    generalize w5.setCell ⟨g, f, none⟩ (.int .i64 t) = w6 at *
    clear HQ1 HQ2
    go_loopw [9, 37] (fun lv i wr => ∃ (k : Nat) (row : List Int) (left : Int), k ≤ n ∧ i = .int .i64 k ∧ lv = .int .i64 left ∧ PtI n f (-t) PA RE (-1) k row left ∧ wr.ownsRow g 3 1 (.slice (some ⟨g, 0, none⟩) n n) n (rowI row) ∧ NewW w wr) (fun _ i _ => n - (intOf i).toNat)
    case atStart => exact ⟨0, _, LF, by omega, rfl, rfl, by rw [HRE.out]; exact HZ.out, HPR.out, HCR.out⟩
    case round =>
      obtain ⟨k, row, left, hk, rfl, rfl, hPt, hP, hC⟩ := hrel
      have HPT := Lib.hid hPt
      have HC := Lib.hid hC
      have hlp := hPt.pos
      obtain ⟨hlp0, hlp1⟩ := hlp
      by_cases hlt : k < n
      · have dk1 : decide ((n : Int) ≤ (k : Int)) = false := by simp; omega
        have dk1' : decide (n ≤ k) = false := by simp; omega
        have dk0 : decide ((k : Int) < 0) = false := by simp
        by_cases ekf : k = f
        · have t1 : ((k : Int) != (f : Int)) = false := by simp; omega
          have t2 : decide ((k : Int) = (f : Int)) = true := by simp; omega
          have t3 : (k != f) = false := by simp; omega
          have HPN := Lib.hid (pt_from hPt hlt ekf)
          have HP := Lib.hid hP
          clear ekf hPt hP hC HPT
          go_wp2_with fail
          exact ⟨⟨k + 1, row, left, by omega, by go_num, rfl, HPN.out, HP.out, HC.out⟩, by simp [intOf]; omega⟩
        · have t1 : ((k : Int) != (f : Int)) = true := by simp; omega
          have t2 : decide ((k : Int) = (f : Int)) = false := by simp; omega
          have t3 : (k != f) = true := by simp; omega
          have hk0 := own_cell hP (rowI_get (hPt.at_ hlt))
          rw [if_neg ekf] at hk0
          have hkf := hP.frozenAt k
          have hlk : g < wr.heap.size := block_lt_of_cell hk0
          have hw1 : IntKind.i64.wrap (-WH) = -WH := IntWalk.i64_in _ ⟨by omega, by omega⟩
          by_cases hl : 0 < left
          · have dl : decide (0 < left) = true := by simp; omega
            have HPN := Lib.hid (pt_some (by omega) hPt hlt ekf hl)
            have HP2 := Lib.hid (show ((wr.setCell ⟨g, k, none⟩ (.int .i64 (-WH))).setCell ⟨g, k, none⟩ (.int .i64 (-WH + -1))).ownsRow g 3 1 (.slice (some ⟨g, 0, none⟩) n n) n (rowI (row.set k (PA + (-1)))) from by
              have h := ((hP.stored k (.int .i64 (-WH))).1.stored k (.int .i64 (-WH + -1))).1
              rw [List.set_set] at h
              rw [rowI_set, HPA.out, show (-1) * WH + (-1) = -WH + -1 by omega]
              exact h)
            have HC2 := Lib.hid ((HC.out.setCell (p := ⟨g, k, none⟩) (.inr (Nat.le_of_eq HGP.out)) (.int .i64 (-WH))).setCell (p := ⟨g, k, none⟩) (.inr (Nat.le_of_eq HGP.out)) (.int .i64 (-WH + -1)))
            clear hPt hP hC ekf HPT hl
            go_wp2_with fail
            exact ⟨⟨k + 1, _, left - 1, by omega, by go_num, rfl, HPN.out, HP2.out, HC2.out⟩, by simp [intOf]; omega⟩
          · have dl : decide (0 < left) = false := by simp; omega
            have HPN := Lib.hid (pt_none (by omega) hPt hlt ekf hl)
            have HP2 := Lib.hid (show (wr.setCell ⟨g, k, none⟩ (.int .i64 (-WH))).ownsRow g 3 1 (.slice (some ⟨g, 0, none⟩) n n) n (rowI (row.set k PA)) from by
              have h := (hP.stored k (.int .i64 (-WH))).1
              rw [rowI_set, HPA.out, show (-1) * WH = -WH by omega]
              exact h)
            have HC2 := Lib.hid (HC.out.setCell (p := ⟨g, k, none⟩) (.inr (Nat.le_of_eq HGP.out)) (.int .i64 (-WH)))
            clear hPt hP hC ekf HPT hl
            go_wp2_with fail
            exact ⟨⟨k + 1, _, left, by omega, by go_num, rfl, HPN.out, HP2.out, HC2.out⟩, by simp [intOf]; omega⟩
      · obtain rfl : k = n := by omega
        have HP := Lib.hid hP
        have HEN := Lib.hid (pt_end hPt)
        clear hPt hP hC hlt hk HPT
        go_wp2_with fail
        go_ret
        refine ⟨g, rfl, ?_, HC.out⟩
        rw [HSH.out, HEN.out, HGP.out]
        exact HP.out
  · have dS : decide (s < 0) = false := by simp; omega
    obtain ⟨q1, q2⟩ := HSG.out.1 (by omega)
    have HQ1 := Lib.hid q1
    have HQ2 := Lib.hid q2
    have b1 : 0 ≤ (s) / ((n : Int) - 1) ∧ (s) / ((n : Int) - 1) ≤ 1048576 := ⟨Int.ediv_nonneg (by omega) (by omega), Int.le_trans (Int.ediv_le_self _ (by omega)) (by omega)⟩
    have b2 : 0 ≤ (s) % ((n : Int) - 1) ∧ (s) % ((n : Int) - 1) ≤ 1048576 := ⟨Int.emod_nonneg _ (by omega), by have := Int.emod_lt_of_pos (s) (show (0 : Int) < (n : Int) - 1 by omega); omega⟩
    have HB1 := Lib.hid b1
    have HB2 := Lib.hid b2
    clear q1 q2 b1 b2
    go_enter Tryd.func37, Tryd.ntmps37
    go_wp2_with (first
      | (at_make
         refine wpList_make_full _ rfl _ _ 58 rfl w.heap.size 3 i1 (.int .i64 0) 1 Tryd.underlying58 hi1 hy0 hy1 _ _ _ _ n rfl rfl rfl rfl (by rw [hy2]; omega) (by unfold maxLen; omega) (by simp) ?_
         intro w5 hown5 hg5
         have hrow := HMK.out _ hown5
         have hp0 := own_cell hrow (rowI_get (show (List.replicate n (0 : Int))[f]? = some 0 by rw [List.getElem?_replicate, if_pos hf]))
         have hpf := hrow.frozenAt f
         have HC5 := Lib.hid (show NewW w w5 from (Ch.refl _ _).grown hg5 (fun x hx => by cases hx))
         have HP5 := Lib.hid hrow
         clear hown5 hg5 hrow))
    obtain ⟨g, hg⟩ : ∃ g, w.heap.size = g := ⟨_, rfl⟩
    rw [hg] at HP5 hp0 hpf
    simp only [hg]
    have HGP := Lib.hid hg
    have HPR := Lib.hid (show (w5.setCell ⟨g, f, none⟩ (.int .i64 (-s))).ownsRow g 3 1 (.slice (some ⟨g, 0, none⟩) n n) n (rowI ((List.replicate n 0).set f (-s))) from by
      rw [rowI_set]
      exact (HP5.out.stored f (.int .i64 (-s))).1)
    have HCR := Lib.hid (HC5.out.setCell (p := ⟨g, f, none⟩) (.inr (Nat.le_of_eq hg)) (.int .i64 (-s)))
    clear hg HP5 HC5 hp0 hpf
    generalize hWH : (s) / ((n : Int) - 1) = WH at *
    generalize hLF : (s) % ((n : Int) - 1) = LF at *
    obtain ⟨bw0, bw1⟩ := HB1.out
    obtain ⟨bl0, bl1⟩ := HB2.out
    clear hWH hLF HB1 HB2 HSG
    have HZ := Lib.hid (pt_zero (s := s) (part := s.tdiv ((n : Int) - 1)) (U := 1) hf ⟨bl0, bl1⟩)
    have HRE := Lib.hid (show s.tmod ((n : Int) - 1) = 1 * LF from HQ2.out)
    have HPA := Lib.hid (show s.tdiv ((n : Int) - 1) = 1 * WH from HQ1.out)
    generalize s.tdiv ((n : Int) - 1) = PA at *
    generalize s.tmod ((n : Int) - 1) = RE at *
    generalize w5.setCell ⟨g, f, none⟩ (.int .i64 (-s)) = w6 at *
    clear HQ1 HQ2
    go_loopw [9, 37] (fun lv i wr => ∃ (k : Nat) (row : List Int) (left : Int), k ≤ n ∧ i = .int .i64 k ∧ lv = .int .i64 left ∧ PtI n f s PA RE 1 k row left ∧ wr.ownsRow g 3 1 (.slice (some ⟨g, 0, none⟩) n n) n (rowI row) ∧ NewW w wr) (fun _ i _ => n - (intOf i).toNat)
    case atStart => exact ⟨0, _, LF, by omega, rfl, rfl, by rw [HRE.out]; exact HZ.out, HPR.out, HCR.out⟩
    case round =>
      obtain ⟨k, row, left, hk, rfl, rfl, hPt, hP, hC⟩ := hrel
      have HPT := Lib.hid hPt
      have HC := Lib.hid hC
      have hlp := hPt.pos
      obtain ⟨hlp0, hlp1⟩ := hlp
      by_cases hlt : k < n
      · have dk1 : decide ((n : Int) ≤ (k : Int)) = false := by simp; omega
        have dk1' : decide (n ≤ k) = false := by simp; omega
        have dk0 : decide ((k : Int) < 0) = false := by simp
        by_cases ekf : k = f
        · have t1 : ((k : Int) != (f : Int)) = false := by simp; omega
          have t2 : decide ((k : Int) = (f : Int)) = true := by simp; omega
          have t3 : (k != f) = false := by simp; omega
          have HPN := Lib.hid (pt_from hPt hlt ekf)
          have HP := Lib.hid hP
          clear ekf hPt hP hC HPT
          go_wp2_with fail
          exact ⟨⟨k + 1, row, left, by omega, by go_num, rfl, HPN.out, HP.out, HC.out⟩, by simp [intOf]; omega⟩
        · have t1 : ((k : Int) != (f : Int)) = true := by simp; omega
          have t2 : decide ((k : Int) = (f : Int)) = false := by simp; omega
          have t3 : (k != f) = true := by simp; omega
          have hk0 := own_cell hP (rowI_get (hPt.at_ hlt))
          rw [if_neg ekf] at hk0
          have hkf := hP.frozenAt k
          have hlk : g < wr.heap.size := block_lt_of_cell hk0
          have hw1 : IntKind.i64.wrap (-WH) = -WH := IntWalk.i64_in _ ⟨by omega, by omega⟩
          by_cases hl : 0 < left
          · have dl : decide (0 < left) = true := by simp; omega
            have HPN := Lib.hid (pt_some (by omega) hPt hlt ekf hl)
            have HP2 := Lib.hid (show ((wr.setCell ⟨g, k, none⟩ (.int .i64 (WH))).setCell ⟨g, k, none⟩ (.int .i64 (WH + 1))).ownsRow g 3 1 (.slice (some ⟨g, 0, none⟩) n n) n (rowI (row.set k (PA + 1))) from by
              have h := ((hP.stored k (.int .i64 (WH))).1.stored k (.int .i64 (WH + 1))).1
              rw [List.set_set] at h
              rw [rowI_set, HPA.out, show 1 * WH + 1 = WH + 1 by omega]
              exact h)
            have HC2 := Lib.hid ((HC.out.setCell (p := ⟨g, k, none⟩) (.inr (Nat.le_of_eq HGP.out)) (.int .i64 (WH))).setCell (p := ⟨g, k, none⟩) (.inr (Nat.le_of_eq HGP.out)) (.int .i64 (WH + 1)))
            clear hPt hP hC ekf HPT hl
            go_wp2_with fail
            exact ⟨⟨k + 1, _, left - 1, by omega, by go_num, rfl, HPN.out, HP2.out, HC2.out⟩, by simp [intOf]; omega⟩
          · have dl : decide (0 < left) = false := by simp; omega
            have HPN := Lib.hid (pt_none (by omega) hPt hlt ekf hl)
            have HP2 := Lib.hid (show (wr.setCell ⟨g, k, none⟩ (.int .i64 (WH))).ownsRow g 3 1 (.slice (some ⟨g, 0, none⟩) n n) n (rowI (row.set k PA)) from by
              have h := (hP.stored k (.int .i64 (WH))).1
              rw [rowI_set, HPA.out, show 1 * WH = WH by omega]
              exact h)
            have HC2 := Lib.hid (HC.out.setCell (p := ⟨g, k, none⟩) (.inr (Nat.le_of_eq HGP.out)) (.int .i64 (WH)))
            clear hPt hP hC ekf HPT hl
            go_wp2_with fail
            exact ⟨⟨k + 1, _, left, by omega, by go_num, rfl, HPN.out, HP2.out, HC2.out⟩, by simp [intOf]; omega⟩
      · obtain rfl : k = n := by omega
        have HP := Lib.hid hP
        have HEN := Lib.hid (pt_end hPt)
        clear hPt hP hC hlt hk HPT
        go_wp2_with fail
        go_ret
        refine ⟨g, rfl, ?_, HC.out⟩
        rw [HSH.out, HEN.out, HGP.out]
        exact HP.out
end Go.Proofs.YtbggadhaaphmcaaDoor
