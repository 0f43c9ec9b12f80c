/- The plain reads' Ask: looks through those that wait, then lays one behind them. -/
import Derived.Test.YtdbbnkibdibpkabRp
namespace Go.Proofs.Ytdbbnkibdibpkab
open Go.RowKit
set_option linter.unusedVariables false

theorem Rp.at_ {w : World} {B b : Nat} {s : RS} {ks : List (Int × Int)} {W : List Rdg} {va : Value} {g off cap : Nat} (h : Rp w B b s ks W va (.slice (some ⟨g, off, none⟩) W.length cap)) {i : Nat} {x : Rdg} (hx : W[i]? = some x) :
    w.cell? ⟨g, off + i * 3, none⟩ = some (.int .i64 x.1) ∧ w.cell? ⟨g, off + i * 3 + 1, none⟩ = some (.int .i64 x.2.1) ∧ w.cell? ⟨g, off + i * 3 + 2, none⟩ = some (.int .i64 x.2.2) := by
  obtain ⟨h0, h1, h2⟩ := flatW_get W hx
  exact ⟨h.row.cells h0, h.row.cells h1, h.row.cells h2⟩
set_option maxRecDepth 100000 in
set_option maxHeartbeats 8000000 in
theorem r_ask (B b : Nat) (s : RS) (ks : List (Int × Int)) (W : List Rdg) (va vl : Value) (w : World) (h : Rp w B b s ks W va vl) (hB : B ≤ w.heap.size) (h64 : W.length ≤ 64) (id : Int) :
    Calls Try.prog 13 #[.pointer (some ⟨b, 0, none⟩), .int .i64 id] w fun e w' => e = .returned (.int .i64 (askE W id)) ∧ PP B b s ks (askW s W id) va vl w w' := by
  have c6 := h.c6
  by_cases hid : id < 0
  · have e1 : askE W id = 1 := by unfold askE; rw [if_pos hid]
    have e2 : askW s W id = W := by unfold askW; rw [e1]; rfl
    rw [e1, e2]
    have HF := Lib.hid (PP.refl h)
    have hd : decide (id < 0) = true := by simpa using hid
    clear h e1 e2
    go_enter Try.func13, Try.ntmps13
    go_wp2_with fail
    go_ret
    exact ⟨rfl, HF.out⟩
  · have hd : decide (id < 0) = false := by simpa using hid
    obtain ⟨A, q, rfl⟩ := h.row.form_
    have HH := Lib.hid h
    have H64 := Lib.hid h64
    obtain ⟨R, hR⟩ : ∃ R, firstIdx (fun x => x.1 == id) W = R := ⟨_, rfl⟩
    have HE := Lib.hid (show askE W id = if 0 ≤ R then 8 else if 64 ≤ W.length then 7 else 0 from by unfold askE; rw [if_neg hid, hR])
    have HR := Lib.hid hR
    have HB := Lib.hid hB
    clear h hR hB hid
    go_enter Try.func13, Try.ntmps13
    go_wp2_with fail
    go_loopw [14] (fun i w' => ∃ k : Nat, k ≤ W.length ∧ i = .int .i64 k ∧ (∀ j y, j < k → W[j]? = some y → (fun x : Rdg => x.1 == id) y = false) ∧ NewW w w') (fun i _ => W.length - (intOf i).toNat)
    case atStart => exact ⟨0, by omega, rfl, fun j y hj => absurd hj (by omega), Ch.refl _ _⟩
    case round =>
      obtain ⟨k, hk, rfl, hpre, hC⟩ := hrel
      by_cases hlt : k < W.length
      · obtain ⟨x, hx⟩ := some_of_lt hlt
        have h := HH.out
        obtain ⟨g, off, cap, hv, hg, hgl⟩ := h.row.some_ (by omega)
        injection hv with hA hn hq
        subst hA
        obtain ⟨r0, r1, r2⟩ := h.at_ hx
        have e0 := (ch_cell hC (block_lt_of_cell r0)).trans r0
        have e1 := (ch_cell hC (block_lt_of_cell r1)).trans r1
        have e2 := (ch_cell hC (block_lt_of_cell r2)).trans r2
        have HPRE := Lib.hid hpre
        have HX := Lib.hid hx
        have HC := Lib.hid hC
        have HN := Lib.hid (fun o => (hC.alloc o : NewW w (wr.alloc o)))
        clear r0 r1 r2 hpre hx hC h hq hn
        rcases hpx : (x.1 == id) with _ | _
        · have HPX := Lib.hid hpx
          go_wp2_with fail
          refine ⟨⟨k + 1, by omega, by go_num, fun j y hj hy => ?_, HN.out _⟩, by simp [intOf]; omega⟩
          by_cases hjk : j = k
          · subst hjk
            have := HX.out.symm.trans hy
            injection this with this
            rw [← this]; exact HPX.out
          · exact HPRE.out j y (by omega) hy
        · have hRk := HR.out.symm.trans (firstIdx_at HX.out hpx HPRE.out)
          have e1' : askE W id = 8 := by rw [HE.out, if_pos (by omega)]
          have e2' : askW s W id = W := by unfold askW; rw [e1']; rfl
          have HF := Lib.hid (fun o => (show (.returned (.int .i64 8) : Ending) = .returned (.int .i64 (askE W id)) ∧ PP B b s ks (askW s W id) va _ w (wr.alloc o) from by rw [e1', e2']; exact ⟨rfl, PP.new_ HH.out (HN.out o)⟩))
          clear hRk e1' e2'
          go_wp2_with fail
          go_ret
          exact HF.out _
      · obtain rfl : k = W.length := by omega
        have hRk := HR.out.symm.trans (firstIdx_none hpre)
        have hr := HH.out.new_ hC
        have d6 := hr.c6
        have HC := Lib.hid hC
        clear hlt hk hpre hC c6
        by_cases hl : 64 ≤ W.length
        · have e1' : askE W id = 7 := by rw [HE.out, if_neg (by omega), if_pos hl]
          have e2' : askW s W id = W := by unfold askW; rw [e1']; rfl
          have HF := Lib.hid (show (.returned (.int .i64 7) : Ending) = .returned (.int .i64 (askE W id)) ∧ PP B b s ks (askW s W id) va _ w wr from by rw [e1', e2']; exact ⟨rfl, PP.new_ HH.out HC.out⟩)
          clear hRk e1' e2' hr
          go_wp2_with fail
          go_ret
          exact HF.out
        · have e1' : askE W id = 0 := by rw [HE.out, if_neg (by omega), if_neg hl]
          have e2' : askW s W id = W ++ [(id, s.rounds, s.commit)] := by unfold askW; rw [e1']; rfl
          obtain ⟨i1, hi1, hy0, hy1, hy2⟩ := info_parts ridg_info
          have hll : W.length < 64 := by omega
          have hB2 : B ≤ wr.heap.size := Nat.le_trans HB.out HC.out.size
          have hne : (Value.slice A W.length q).ownBlock ≠ some b := hr.row.blk_ne hr.blk (by decide)
          have d2 := hr.c2
          have d3 := hr.c3
          have y6 := (hr.new_ ((Ch.refl (fun _ => False) wr).alloc (.cells #[.int .i64 id, .int .i64 s.rounds, .int .i64 s.commit] 41))).c6
          have HF := Lib.hid (fun (w7 : World) A7 c7 ho hg => (show (.returned (.int .i64 0) : Ending) = .returned (.int .i64 (askE W id)) ∧ PP B b s ks (askW s W id) va _ w (w7.setCell ⟨b, 6, none⟩ (.slice A7 (W.length + 1) c7)) from by
            rw [e1', e2']
            refine ⟨rfl, ?_⟩
            obtain ⟨va', vl', p1, p2⟩ := row_fin (n := 1) (A7 := A7) (c7 := c7) (w7 := w7) (x := (id, s.rounds, s.commit)) (o := .cells #[.int .i64 id, .int .i64 s.rounds, .int .i64 s.commit] 41) hr ho hg
            exact ⟨va', vl', p1, (HC.out.mono (fun _ h => h.elim)).trans' p2⟩))
          have H2 := Lib.hid hr
          clear hr hRk e1' e2' hl
          generalize s.rounds = RR at *
          generalize s.commit = CC at *
          go_upto_region 11 with fail
          go_region_law (first
            | (refine step_append_off _ rfl (.tmp 33) (.tmp 44) _ rfl B 41 i1 _ 3 24 Try.underlying28 hi1 hy0 hy1 hy2 rfl (by omega) (.slice A W.length q) W.length (flatW W) rfl
                 ((H2.out.drewN 1).new_ ((Ch.refl (fun _ => False) _).alloc _)).row ⟨wr.heap.size, 0, none⟩ 1 1 [.int .i64 id, .int .i64 RR, .int .i64 CC] rfl rfl (pnew_new (n := 1) (vs := #[.int .i64 id, .int .i64 RR, .int .i64 CC]) (k := 1) (size := 3) rfl) (by simp [Value.oneCell']) (by simp only [maxLen]; omega) (by omega) (by simp; omega) ?_
               intro v7 w7 hown7 hg7 hat7
               have hb7 : Blk w7 b 30 _ := (H2.out.blk.drew.alloc _).grown hg7 (fun e => hne e.symm)
               have m1 := hb7.frozen 6
               have m2 := hb7.cell 6
               simp [pcells] at m2
               obtain ⟨A7, c7, rfl⟩ := hown7.form_
               have HO7 := Lib.hid hown7; clear hown7
               have HG7 := Lib.hid hg7; clear hg7))
          all_goals
            go_wp2_with fail
            go_ret
            exact HF.out _ _ _ HO7.out HG7.out
end Go.Proofs.Ytdbbnkibdibpkab
