/- right: whether a cell may be one of a store's. -/
import Derived.Test.YtfcdplfnhjbdnaaFp
namespace Go.Proofs.Ytfcdplfnhjbdnaa
open Go.RowKit Go.Maps
set_option linter.unusedVariables false

theorem versOK_next {l : List Ver} {j : Nat} {v : Ver} (h : l[j]? = some v) (a : Int) : versOK a (l.drop j) = (verOK a v && versOK v.t (l.drop (j + 1))) := by
  obtain ⟨hl, he⟩ := List.getElem?_eq_some_iff.1 h
  rw [List.drop_eq_getElem_cons hl, he]
  rfl
set_option maxRecDepth 100000 in
set_option maxHeartbeats 8000000 in
theorem right_any (kb : ByteArray) (A : Option Addr) (l : List Ver) (c : Nat) (m : Int) (w : World) (h : RdV w A l) (hkm : kb.size ≤ maxLen) (hl : l.length ≤ 1000000) (hvm : ∀ v ∈ l, v.val.size ≤ maxLen) :
    Calls Try.prog 32 #[.agg #[.string kb, .slice A l.length c], .int .i64 m] w fun e w' => e = .returned (.bool (rightB (kb.data.toList, l) m)) ∧ NewW w w' := by
  have HC1 := Lib.hid (show NewW w (w.alloc (.cells #[.string kb, .slice A l.length c] 58)) from (Ch.refl _ w).alloc _)
  have BX := Lib.hid (Blk.new w 58 #[.string kb, .slice A l.length c])
  have HR := Lib.hid (h.new_ HC1.out)
  have e0 : (w.alloc (.cells #[.string kb, .slice A l.length c] 58)).cell? ⟨w.heap.size, 0, none⟩ = some (.string kb) := by rw [BX.out.cell]; rfl
  have e1 : (w.alloc (.cells #[.string kb, .slice A l.length c] 58)).cell? ⟨w.heap.size, 1, none⟩ = some (.slice A l.length c) := by rw [BX.out.cell]; rfl
  have HVM := Lib.hid hvm
  obtain ⟨RB, hRB⟩ : ∃ RB, rightB (kb.data.toList, l) m = RB := ⟨_, rfl⟩
  rw [hRB]
  have HRB := Lib.hid hRB
  have HKM := Lib.hid hkm
  have hkk : (kb.size : Int) ≤ 9223372036854775807 := by unfold maxLen at hkm; omega
  clear h hvm hRB hkm
  generalize hNN : l.length = NN at *
  have HNN := Lib.hid hNN
  clear hNN
  go_enter Try.func32, Try.ntmps32
  go_wp2_with fail
  generalize w.alloc (.cells #[.string kb, .slice A NN c] 58) = w1 at *
  generalize w.heap.size = bx at *
  go_loopw [5, 11] (fun a i w' => ∃ (j : Nat) (a0 : Int), j ≤ NN ∧ i = .int .i64 j ∧ a = .int .i64 a0 ∧ versOK (-1) l = versOK a0 (l.drop j) ∧ NewW w1 w') (fun _ i _ => NN - (intOf i).toNat)
  case atStart => exact ⟨0, -1, by omega, rfl, rfl, rfl, Ch.refl _ _⟩
  case round =>
    obtain ⟨j, a0, hj, rfl, rfl, hok, hC⟩ := hrel
    by_cases hlt : j < NN
    · obtain ⟨v, hv⟩ := some_of_lt (L := l) (i := j) (by have := HNN.out; omega)
      obtain ⟨g, off, rfl, x0, x1, x2⟩ := (HR.out.new_ hC).at_ hv
      rw [versOK_next hv] at hok
      have hvs := HVM.out v (mem_of_some hv)
      have hmo := Lib.hid (moment_any v.t (wr.alloc (.cells #[.int .i64 v.t, .string v.val, .bool v.has] 66)))
      have HCA := Lib.hid (show NewW w1 (wr.alloc (.cells #[.int .i64 v.t, .string v.val, .bool v.has] 66)) from Ch.alloc hC _)
      have HF := Lib.hid (fun (e : verOK a0 v = false) => (show RB = false from by
        rw [← HRB.out]; unfold rightB; simp only; rw [hok, e]; simp))
      have HT := Lib.hid (fun (e : verOK a0 v = true) => hok.trans (by rw [e, Bool.true_and]))
      obtain ⟨vt, vv, vh⟩ := v
      simp only at x0 x1 x2 hvs hmo HCA HF HT
      have hvv : (vv.size : Int) ≤ 9223372036854775807 := by unfold maxLen at hvs; omega
      clear hv hC hok hvs
      by_cases h1 : vt ≤ a0
      · have hf := HF.out (by unfold verOK; simp only; rw [decide_eq_false (show ¬ a0 < vt by omega)]; simp)
        have d1 : decide (vt ≤ a0) = true := by simpa using h1
        clear h1 HF HT
        go_wp2_with fail
        go_ret
        exact ⟨by rw [hf]; rfl, HC1.out.trans' HCA.out⟩
      · have d1 : decide (vt ≤ a0) = false := by simpa using h1
        by_cases h2 : 0 ≤ vt ∧ vt ≤ 1099511627776
        · rw [decide_eq_true h2.1, decide_eq_true h2.2, Bool.true_and] at hmo
          by_cases h3 : 32 < vv.size
          · have hf := HF.out (by unfold verOK; simp only; rw [decide_eq_false (show ¬ vv.size ≤ 32 by omega)]; simp)
            have d3 : decide (32 < (vv.size : Int)) = true := by simp; omega
            have d3' : decide (32 < vv.size) = true := by simp; omega
            clear h1 h2 h3 HF HT
            go_wp2_with (go_at_call 29; refine hmo.out.mono ?_; rintro e w2 ⟨rfl, rfl⟩)
            go_ret
            exact ⟨by rw [hf]; rfl, HC1.out.trans' HCA.out⟩
          · have d3 : decide (32 < (vv.size : Int)) = false := by simp; omega
            have d3' : decide (32 < vv.size) = false := by simp; omega
            cases vh
            · by_cases h4 : vv = ⟨#[]⟩
              · have ht := HT.out (by unfold verOK; simp only; rw [decide_eq_true (show a0 < vt by omega), decide_eq_true h2.1, decide_eq_true h2.2, decide_eq_true (show vv.size ≤ 32 by omega), decide_eq_true h4]; rfl)
                subst h4
                have HT2 := Lib.hid ht
                clear h1 h2 h3 HF HT ht
                go_wp2_with (go_at_call 29; refine hmo.out.mono ?_; rintro e w2 ⟨rfl, rfl⟩)
                exact ⟨⟨j + 1, vt, by omega, by go_num, rfl, HT2.out, HCA.out⟩, by simp [intOf]; omega⟩
              · have hf := HF.out (by unfold verOK; simp only; rw [decide_eq_false h4]; simp)
                have hb := beq_key vv ⟨#[]⟩
                rw [decide_eq_false h4] at hb
                rw [show ((⟨#[]⟩ : ByteArray).toList) = [] from by rw [ByteArray.toList_eq]] at hb
                have hb2 : (vv.toList == []) = false := hb
                have hb3 : (vv.toList != []) = true := by rw [bne, hb2]; rfl
                clear h1 h2 h3 h4 HF HT
                go_wp2_with (go_at_call 29; refine hmo.out.mono ?_; rintro e w2 ⟨rfl, rfl⟩)
                go_ret
                exact ⟨by rw [hf]; rfl, HC1.out.trans' HCA.out⟩
            · have ht := HT.out (by unfold verOK; simp only; rw [decide_eq_true (show a0 < vt by omega), decide_eq_true h2.1, decide_eq_true h2.2, decide_eq_true (show vv.size ≤ 32 by omega)]; rfl)
              have HT2 := Lib.hid ht
              clear h1 h2 h3 HF HT ht
              go_wp2_with (go_at_call 29; refine hmo.out.mono ?_; rintro e w2 ⟨rfl, rfl⟩)
              exact ⟨⟨j + 1, vt, by omega, by go_num, rfl, HT2.out, HCA.out⟩, by simp [intOf]; omega⟩
        · have hm0 : (decide (0 ≤ vt) && decide (vt ≤ 1099511627776)) = false := by
            rw [Bool.eq_false_iff]; intro e; simp only [Bool.and_eq_true, decide_eq_true_eq] at e; exact h2 e
          rw [hm0] at hmo
          have hf := HF.out (by unfold verOK; simp only; rw [hm0]; simp)
          clear h1 h2 hm0 HF HT
          go_wp2_with (go_at_call 29; refine hmo.out.mono ?_; rintro e w2 ⟨rfl, rfl⟩)
          go_ret
          exact ⟨by rw [hf]; rfl, HC1.out.trans' HCA.out⟩
    · obtain rfl : j = NN := by omega
      rw [← HNN.out, List.drop_length] at hok
      have hvo : versOK (-1) l = true := hok
      obtain ⟨_, q2, _⟩ := versOK_facts _ _ hvo
      have y0 := new_cell hC e0
      have y1 := new_cell hC e1
      have HCC := Lib.hid (HC1.out.trans' hC)
      have hR := HR.out.new_ hC
      have HRB2 := Lib.hid (show RB = (decide (kb.data.toList.length ≤ 16) && decide (0 < l.length) && decide (goneN l m = 0)) from by
        rw [← HRB.out]; unfold rightB; simp only; rw [hvo, Bool.true_and])
      have hg := gone_any A c l m wr hR q2 (by have := HNN.out; omega)
      rw [HNN.out] at hg
      have HG := Lib.hid hg
      clear hg hlt hj hok hvo q2 hR hC HVM e0 e1
      by_cases h1 : kb.size ≤ 16
      · have d1 : decide ((kb.size : Int) ≤ 16) = true := by simp; omega
        have d1' : decide (kb.size ≤ 16) = true := by simpa using h1
        by_cases h2 : 0 < j
        · have d2 : decide (0 < (j : Int)) = true := by simp; omega
          have d2' : decide (0 < j) = true := by simpa using h2
          have hr := HRB2.out
          rw [size_list, d1', HNN.out, d2', Bool.true_and, Bool.true_and] at hr
          by_cases h3 : goneN l m = 0
          · rw [decide_eq_true h3] at hr
            rw [h3] at HG
            have HRR := Lib.hid hr
            clear h1 h2 h3 hr
            go_wp2_with (go_at_call 31; refine HG.out.mono ?_; rintro e w2 ⟨rfl, hN⟩; have HN := Lib.hid hN; clear hN)
            go_ret
            exact ⟨by rw [HRR.out]; rfl, HCC.out.trans' HN.out⟩
          · rw [decide_eq_false h3] at hr
            obtain ⟨gn, hgn⟩ : ∃ gn, goneN l m = gn := ⟨_, rfl⟩
            rw [hgn] at HG h3
            have hgI : ((gn : Int) == 0) = false := by simp; omega
            have HRR := Lib.hid hr
            clear h1 h2 h3 hr hgn
            go_wp2_with (go_at_call 31; refine HG.out.mono ?_; rintro e w2 ⟨rfl, hN⟩; have HN := Lib.hid hN; clear hN)
            go_ret
            exact ⟨by rw [HRR.out]; rfl, HCC.out.trans' HN.out⟩
        · have d2 : decide (0 < (j : Int)) = false := by simp; omega
          have d2' : decide (0 < j) = false := by simp; omega
          have hr := HRB2.out
          rw [HNN.out, d2', Bool.and_false, Bool.false_and] at hr
          have HRR := Lib.hid hr
          clear h1 h2 hr
          go_wp2_with fail
          go_ret
          exact ⟨by rw [HRR.out]; rfl, HCC.out⟩
      · have d1 : decide ((kb.size : Int) ≤ 16) = false := by simp; omega
        have d1' : decide (kb.size ≤ 16) = false := by simpa using h1
        have hr := HRB2.out
        rw [size_list, d1', Bool.false_and, Bool.false_and] at hr
        have HRR := Lib.hid hr
        clear h1 hr
        go_wp2_with fail
        go_ret
        exact ⟨by rw [HRR.out]; rfl, HCC.out⟩
end Go.Proofs.Ytfcdplfnhjbdnaa
