/- The plain row's Cells. -/
import Derived.Test.YtfcdplfnhjbdnaaKx
import Derived.Test.YtfcdplfnhjbdnaaAl
namespace Go.Proofs.Ytfcdplfnhjbdnaa
open Go.RowKit Go.Maps
set_option linter.unusedVariables false

theorem rowOf_len (L : List Was) (k : List UInt8) : (rowOf L k).length ≤ L.length := by
  unfold rowOf
  rw [List.length_map]
  exact List.length_filter_le _ _
theorem rowOf_take {L : List Was} {q : Nat} {x : Was} (hx : L[q]? = some x) (k : List UInt8) : rowOf (L.take (q + 1)) k = rowOf (L.take q) k ++ (if x.k = k then [x.ver] else []) := by
  rw [List.take_add_one, hx, rowOf_append]
  congr 1
  by_cases e : x.k = k
  · rw [if_pos e]; simp [rowOf, e]
  · rw [if_neg e]; simp [rowOf, e]
section
variable {w : World} {B rb : Nat} {L : List Was} {v : Value} {last floor : Int}
set_option maxRecDepth 100000 in
set_option maxHeartbeats 8000000 in
theorem rcells_any (h : RM w B rb L last floor v) (hL : L.length ≤ 1000000) :
    Calls Try.prog 15 #[.pointer (some ⟨rb, 0, none⟩)] w fun e w' => ∃ (A : Option Addr) (c : Nat) (kk : List (List UInt8)), KeysR L kk ∧ kk.length ≤ L.length ∧ e = .returned (.slice A kk.length c) ∧ RdC w' A (cellsOf (rowOf L) kk) ∧ NewW w w' := by
  have HKC := Lib.hid (rkeys_any h hL)
  obtain ⟨A2, c2, hv2⟩ := own_form h.row
  subst hv2
  have HM := Lib.hid h
  have HRL := Lib.hid (fun g (hg : RFoot rb (.slice A2 L.length c2) g) => (h.low hg).2)
  obtain ⟨i0, hi0, hz0, hz1, hz2⟩ := info_parts cell_info
  obtain ⟨i1, hi1, hy0, hy1, hy2⟩ := info_parts ver_info
  clear h
  go_enter Try.func15, Try.ntmps15
  go_wp2_with fail
  refine HKC.out.mono ?_
  rintro e w1 ⟨A, c, kk, hkr, hkl, rfl, hrow, hN1⟩
  dsimp only
  have HR1 := Lib.hid hrow
  have HKR := Lib.hid hkr
  have HLN := Lib.hid hkl
  have HN1 := Lib.hid hN1
  clear hrow hkr hkl hN1 HKC
  go_wp2_with fail
  go_loopw [3, 12] (fun o i w' => ∃ j : Nat, j ≤ kk.length ∧ i = .int .i64 j ∧ (∃ zs, Gath w' w1.heap.size (rowOf L) (kk.take j) o zs) ∧ NewW w1 w') (fun _ i _ => kk.length - (intOf i).toNat)
  case atStart => exact ⟨0, by omega, rfl, ⟨[], ⟨by exact ⟨rfl, .inl ⟨rfl, rfl⟩⟩, rfl, by simp⟩⟩, Ch.refl _ _⟩
  case round =>
    obtain ⟨j, hj, rfl, ⟨zs, hG⟩, hC⟩ := hrel
    have hM := HM.out.new_ (HN1.out.trans' hC)
    have hzl : zs.length = j := by rw [hG.len, List.length_take]; omega
    by_cases hlt : j < kk.length
    · obtain ⟨k, hk⟩ := some_of_lt hlt
      have hrow := own_ch HR1.out hC (fun _ _ h => h)
      obtain ⟨kb, hkb, hkd⟩ := enc_form k
      obtain ⟨gk, qk, hvk, _, _⟩ := hrow.form (by omega)
      injection hvk with hvk _ hqk
      subst hvk hqk
      have hck := hrow.cells (g := gk) rfl j (.string kb) (by rw [List.getElem?_map, hk, ← hkb]; rfl)
      rw [add_mk, Nat.zero_add] at hck
      have HTK := Lib.hid (show kk.take (j + 1) = kk.take j ++ [k] by rw [List.take_add_one, hk]; rfl)
      have c0 := hM.c0
      obtain ⟨A3, q3, hv3⟩ := own_form hG.own
      subst hv3
      have hszw : w.heap.size ≤ wr.heap.size := (HN1.out.trans' hC).size
      have hsz1 : w1.heap.size ≤ wr.heap.size := hC.size
      have hC1 : NewW wr (wr.alloc (.cells #[.string kb, .slice none 0 0] 58)) := (Ch.refl (fun _ => False) wr).alloc _
      have BX := Lib.hid (Blk.new wr 58 #[.string kb, .slice none 0 0])
      have HNX := Lib.hid (fun w' (hc : Ch (fun g => g = wr.heap.size) (wr.alloc (.cells #[.string kb, .slice none 0 0] 58)) w') => (show NewW wr w' from Ch.trans hC1 hc fun g e => .inr (by subst e; exact Nat.le_refl _)))
      have HMX := Lib.hid (fun w' (hc : Ch (fun g => g = wr.heap.size) (wr.alloc (.cells #[.string kb, .slice none 0 0] 58)) w') => hM.new_ (HNX.out w' hc))
      have HGX := Lib.hid (fun w' (hc : Ch (fun g => g = wr.heap.size) (wr.alloc (.cells #[.string kb, .slice none 0 0] 58)) w') => hG.new_ (HNX.out w' hc))
      have HCX := Lib.hid (fun w' (hc : Ch (fun g => g = wr.heap.size) (wr.alloc (.cells #[.string kb, .slice none 0 0] 58)) w') => (show NewW w1 w' from Ch.trans' hC (HNX.out w' hc)))
      have c0' : (wr.alloc (.cells #[.string kb, .slice none 0 0] 58)).cell? ⟨rb, 0, none⟩ = some (.slice A2 L.length c2) := (hM.new_ hC1).c0
      have HEN := Lib.hid hkb
      have HKD := Lib.hid hkd
      have hszb : w1.heap.size ≤ (wr.alloc (.cells #[.string kb, .slice none 0 0] 58)).heap.size := Nat.le_trans hsz1 hC1.size
      clear hM hC hG hrow hk hkb hkd hC1
      subst hzl
      go_upto_region 6 with (fail)
      generalize wr.alloc (.cells #[.string kb, .slice none 0 0] 58) = wb at *
      generalize wr.heap.size = bx at *
      clear hck c0
      go_wp2_with fail
      go_loopw [23] (fun i w' => ∃ q : Nat, q ≤ L.length ∧ i = .int .i64 q ∧ (∃ lq, lq = rowOf (L.take q) k ∧ ∃ Ao co, Blk w' bx 58 #[.string kb, .slice Ao lq.length co] ∧ w'.ownsRow wb.heap.size 66 3 (.slice Ao lq.length co) lq.length (flatV lq)) ∧ Ch (fun g => g = bx) wb w') (fun i _ => L.length - (intOf i).toNat)
      case atStart => exact ⟨0, by omega, rfl, ⟨[], rfl, none, 0, BX.out, ⟨rfl, .inl ⟨rfl, rfl⟩⟩⟩, Ch.refl _ _⟩
      case round =>
        obtain ⟨q, hq, rfl, ⟨lq, hlq, Ao, co, hbk, hown⟩, hCb⟩ := hrel
        have hM := HMX.out wr hCb
        have hlql : lq.length ≤ q := by rw [hlq]; exact Nat.le_trans (rowOf_len _ _) (by rw [List.length_take]; omega)
        by_cases hlt2 : q < L.length
        · obtain ⟨x, hx⟩ := some_of_lt hlt2
          obtain ⟨g, rfl, x0, x1, x2, x3⟩ := hM.at_ hx
          have HRT := Lib.hid (rowOf_take hx k)
          obtain ⟨xk, xv, xh, xt⟩ := x
          simp only at x0 x1 x2 x3
          have hbe := beq_key xk kb
          have HLQ := Lib.hid hlq
          have HCB := Lib.hid hCb
          have HBK := Lib.hid hbk
          have HOW := Lib.hid hown
          have hszq := hCb.size
          by_cases hkx : xk = kb
          · subst hkx
            rw [decide_eq_true rfl] at hbe
            have HIS := Lib.hid (show rowOf (L.take (q + 1)) k = lq ++ [⟨xt, xv, xh⟩] from by
              rw [HRT.out, ← HLQ.out, if_pos (show (⟨xk, xv, xh, xt⟩ : Was).k = k from HKD.out)]
              rfl)
            have e1 := (hbk.alloc (.cells #[.string xk, .string xv, .bool xh, .int .i64 xt] 69)).cell 1
            simp at e1
            clear hx hlq hCb hbk hown HRT
            generalize hNN : lq.length = NN at *
            have HNN := Lib.hid hNN
            clear hNN
            go_wp2_with (first
              | (at_builtin
                 refine wpList_append_any _ rfl (.tmp 32) (.tmp 40) _ rfl wb.heap.size 66 i1 _ 3 32 Try.underlying56 hi1 hy0 hy1 hy2 rfl (by omega) _ NN (flatV lq) rfl
                   (own_ch HOW.out (((Ch.refl (fun _ => False) _).alloc _).alloc _) (fun _ _ h => h)) (wr.heap.size + 1 + 1) (some ⟨wr.heap.size + 1, 0, none⟩) 1 1 [.int .i64 xt, .string xv, .bool xh] rfl (by
                     have := reads_new (wr.alloc (.cells #[.string xk, .string xv, .bool xh, .int .i64 xt] 69)) 66 #[.int .i64 xt, .string xv, .bool xh] 1 3 rfl
                     simpa using this) (by simp [Value.oneCell']) (by simp only [maxLen]; omega) (by omega) (by simp; omega) ?_
                 intro v7 w7 hown7 hg7 hat7
                 have hb7 : Blk w7 bx 58 #[.string xk, .slice Ao NN co] := Blk.grown ((HBK.out.alloc _).alloc _) hg7 (fun e => own_blk_ne HOW.out HBK.out (by decide) e.symm)
                 have e7 := hb7.cell 1
                 simp at e7
                 have f7 := hb7.frozen 1
                 obtain ⟨A7, c7, hv7⟩ := own_form hown7
                 subst hv7
                 have HO7 := Lib.hid hown7
                 have HG7 := Lib.hid hg7
                 have HB7 := Lib.hid hb7
                 clear hown7 hg7 hat7 hb7))
            have hch : Ch (fun g => g = bx) wb w7 := ((HCB.out.alloc _).alloc _).grown HG7.out (fun g hg => .inr (own_lt HOW.out hg).1)
            refine ⟨⟨q + 1, by omega, by go_num, ⟨lq ++ [⟨xt, xv, xh⟩], HIS.out.symm, A7, c7, ?_, ?_⟩, hch.setCell (.inl rfl) _⟩, by simp [intOf]; omega⟩
            · have := HB7.out.set_ 1 (.slice A7 (NN + 1) c7)
              rw [List.length_append, HNN.out]
              simpa using this
            · rw [List.length_append, HNN.out, flatV_snoc]
              exact own_set_far HO7.out (fun e => own_blk_ne HO7.out HB7.out (by decide) e) _
          · rw [decide_eq_false hkx] at hbe
            have HIS := Lib.hid (show lq = rowOf (L.take (q + 1)) k from by
              rw [HRT.out, ← HLQ.out, if_neg (show ¬ (⟨xk, xv, xh, xt⟩ : Was).k = k from fun e => hkx (key_inj ((show xk.data.toList = k from e).trans HKD.out.symm))), List.append_nil])
            clear hx hlq hCb hbk hown HRT hkx
            go_wp2_with fail
            exact ⟨⟨q + 1, by omega, by go_num, ⟨lq, HIS.out, Ao, co, HBK.out.alloc _, own_ch HOW.out ((Ch.refl (fun _ => False) _).alloc _) (fun _ _ h => h)⟩, HCB.out.alloc _⟩, by simp [intOf]; omega⟩
        · obtain rfl : q = L.length := by omega
          rw [List.take_length] at hlq
          have e0 := hbk.cell 0
          have e1 := hbk.cell 1
          simp at e0 e1
          have HG2 := Lib.hid (HGX.out wr hCb)
          have HC2 := Lib.hid (HCX.out wr hCb)
          have HO4 := Lib.hid (own_mono hown (B' := w1.heap.size) (Nat.le_trans hszb (Nat.le_refl _)))
          have hszq := hCb.size
          have HLQ := Lib.hid hlq
          clear hM hlt2 hq hbk hown hCb hlq
          generalize hNN : lq.length = NN at *
          have HNN := Lib.hid hNN
          clear hNN
          have hcc := HLN.out
          have hzz : zs.length ≤ 1000000 := by omega
          go_wp2_with (first
            | (at_builtin
               refine wpList_append_any _ rfl (.tmp 44) (.tmp 46) _ rfl w1.heap.size 58 i0 _ 2 40 Try.underlying36 hi0 hz0 hz1 hz2 rfl (by omega) _ zs.length (flatZ zs) rfl
                 (own_ch HG2.out.own ((Ch.refl (fun _ => False) _).alloc _) (fun _ _ h => h)) (wr.heap.size + 1) (some ⟨wr.heap.size, 0, none⟩) 1 1 [.string kb, .slice Ao NN co] rfl (reads_new wr 58 #[.string kb, .slice Ao NN co] 1 2 rfl) (by simp [Value.oneCell']) (by simp only [maxLen]; omega) (by omega) (by simp; omega) ?_
               intro v7 w7 hown7 hg7 hat7
               have HO7 := Lib.hid hown7
               have HG7 := Lib.hid hg7
               clear hown7 hg7 hat7))
          refine ⟨⟨zs.length + 1, by omega, by go_num, ⟨zs ++ [(k, .slice Ao NN co)], ?_⟩, (HC2.out.alloc _).grown HG7.out (fun q hq => .inr (own_lt HG2.out.own hq).1)⟩, by simp [intOf]; omega⟩
          have := Gath.more HG2.out (.cells #[.string kb, .slice Ao NN co] 58) (k := k) (A' := Ao) (c' := co) (v7 := v7) (w7 := w7) (by rw [← HLQ.out, HNN.out]; exact HO4.out) (by rw [← HLQ.out, HNN.out, HEN.out]; exact HO7.out) HG7.out
          rw [← HLQ.out, HNN.out] at this
          rw [HTK.out]
          exact this
    · obtain rfl : j = kk.length := by omega
      rw [List.take_length] at hG
      obtain ⟨A9, c9, hv9⟩ := own_form hG.own
      subst hv9
      have hd := hG.done rfl
      rw [hzl] at hG
      have HF := Lib.hid (show ∃ (A : Option Addr) (c : Nat) (kk' : List (List UInt8)), KeysR L kk' ∧ kk'.length ≤ L.length ∧ (.returned (.slice A9 kk.length c9) : Ending) = .returned (.slice A kk'.length c) ∧ RdC wr A (cellsOf (rowOf L) kk') ∧ NewW w wr from
        ⟨A9, c9, kk, HKR.out, HLN.out, rfl, hd, HN1.out.trans' hC⟩)
      rw [hzl]
      clear hM hC hG hd hlt hj
      go_wp2_with fail
      go_ret
      exact HF.out
end
end Go.Proofs.Ytfcdplfnhjbdnaa
