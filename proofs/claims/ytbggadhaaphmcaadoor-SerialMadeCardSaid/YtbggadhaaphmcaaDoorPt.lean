/- put: the document's row of writes with another value of a key, or without one. -/
import Derived.Test.YtbggadhaaphmcaaDoorRg
import Derived.Sort.Walk0
namespace Go.Proofs.YtbggadhaaphmcaaDoor
open Go.RowKit Go.Sort
set_option linter.unusedVariables false

theorem less_key (a b : ByteArray) : Op.bytesLess a.toList b.toList = decide (a.data.toList < b.data.toList) := by
  rw [bytesLess_eq, ByteArray.toList_eq, ByteArray.toList_eq]
theorem key_tri (a b : ByteArray) : a.data.toList < b.data.toList ∨ a = b ∨ b.data.toList < a.data.toList := by
  rcases Classical.em (a.data.toList < b.data.toList) with h | h
  · exact .inl h
  · rcases Classical.em (b.data.toList < a.data.toList) with h' | h'
    · exact .inr (.inr h')
    · exact .inr (.inl (key_inj (List.le_antisymm (List.not_lt.1 h') (List.not_lt.1 h))))
def dnB (K : ByteArray) (r : Res) (M : Wl) : Bool := !hOf r || doneB K M
structure PL (w wr : World) (bx : Nat) (V : ByteArray) (HB : Bool) (K : ByteArray) (r : Res) (L : Wl) (k : Nat) (ov : Value) (d : Bool) : Prop where
  row : wr.ownsRow w.heap.size 101 3 ov (putK K r (L.take k)).length (flatW (putK K r (L.take k)))
  nw : NewW w wr
  bxk : Blk wr bx 45 #[.string V, .bool HB]
  dn : d = dnB K r (L.take k)
/-- The loop's relation. -/
def PQ (w : World) (bx : Nat) (V : ByteArray) (HB : Bool) (K : ByteArray) (r : Res) (L : Wl) (n : Nat) (ov dv i : Value) (wr : World) : Prop :=
  ∃ (k : Nat) (d : Bool), k ≤ n ∧ i = .int .i64 k ∧ dv = .bool d ∧ PL w wr bx V HB K r L k ov d
theorem pq_mk {w wr : World} {bx : Nat} {V : ByteArray} {HB : Bool} {K : ByteArray} {r : Res} {L : Wl} {n k : Nat} {ov : Value} {d : Bool} (hk : k < n) (hP : PL w wr bx V HB K r L (k + 1) ov d) : PQ w bx V HB K r L n ov (.bool d) (.int .i64 ((k : Int) + 1)) wr :=
  ⟨k + 1, d, by omega, by go_num, rfl, hP⟩
theorem putK_len (K : ByteArray) (r : Res) (M : Wl) : (putK K r M).length ≤ M.length + M.length + 1 := by
  have h1 := List.length_filter_le (ltB K) M
  have h2 := List.length_filter_le (gtB K) M
  have h3 : (midL K r (doneB K M)).length ≤ 1 := by unfold midL; cases r <;> simp; split <;> simp
  unfold putK
  simp only [List.length_append]
  omega
set_option maxRecDepth 100000 in
set_option maxHeartbeats 8000000 in
theorem put_any {w : World} {A : Option Addr} {n c : Nat} {L : Wl} (h : Wrs w A n L) (hs : L.Pairwise fun a b => kOf a < kOf b) (hl : n ≤ 100000) (key : ByteArray) (r : Res) :
    Calls Tryd.prog 57 #[.slice A n c, .string key, .agg #[.string (vOf r), .bool (hOf r)]] w fun e w' => ∃ A' c', e = .returned (.slice A' (putL key r L).length c') ∧ w'.ownsRow w.heap.size 101 3 (.slice A' (putL key r L).length c') (putL key r L).length (flatW (putL key r L)) ∧ NewW w w' := by
  have hn := h.1
  have HW := Lib.hid h
  have HS := Lib.hid hs
  have HL := Lib.hid hn
  have hnI : (n : Int) ≤ 100000 := by omega
  obtain ⟨i1, hi1, hy0, hy1, hy2⟩ := info_parts write_info
  have HBX := Lib.hid (Blk.new w 45 #[.string (vOf r), .bool (hOf r)])
  have HN1 := Lib.hid ((Ch.refl (fun _ => False) w).alloc (.cells #[.string (vOf r), .bool (hOf r)] 45))
  have hd0 : dnB key r (L.take 0) = !hOf r := by unfold dnB; rw [done_zero, Bool.or_false]
  obtain ⟨V, hV⟩ : ∃ V, vOf r = V := ⟨_, rfl⟩
  obtain ⟨HB, hHB⟩ : ∃ HB, hOf r = HB := ⟨_, rfl⟩
  have HV := Lib.hid hV
  have HHB := Lib.hid hHB
  rw [hV, hHB] at HBX HN1 ⊢
  rw [hHB] at hd0
  have HD0 := Lib.hid hd0
  have HMID := Lib.hid (show midL key r true = if HB then [(key, V)] else [] by rw [← hHB, ← hV]; cases r <;> rfl)
  clear h hs hn hV hHB hd0
  go_enter Tryd.func57, Tryd.ntmps57
  go_upto_region 3 with (fail)
  generalize w.alloc (.cells #[.string V, .bool HB] 45) = w1 at *
  generalize hwb : w.heap.size = bx at *
  have HBW := Lib.hid hwb
  clear hwb
  go_wp2_with fail
  go_loopw [7, 8, 16] (fun ov dv i wr => PQ w bx V HB key r L n ov dv i wr) (fun _ _ i _ => n - (intOf i).toNat)
  case atStart => exact ⟨0, !HB, by omega, rfl, rfl, ⟨by rw [putK_zero]; exact own_nil, HN1.out, HBX.out, HD0.out.symm⟩⟩
  case round =>
    obtain ⟨k, d, hk, rfl, rfl, hP⟩ := hrel
    obtain ⟨A7, q7, rfl⟩ := own_form hP.row
    have HR := Lib.hid hP.row
    have HNW := Lib.hid hP.nw
    have HDN := Lib.hid hP.dn
    have HKL := Lib.hid (show (putK key r (L.take k)).length ≤ 200001 by
      have h1 := putK_len key r (L.take k)
      have h2 : (L.take k).length ≤ k := List.length_take_le _ _
      omega)
    have HBK := Lib.hid hP.bxk
    have HDO := Lib.hid (fun h => done_not (K := key) (M := L.take k) h)
    generalize hF : putK key r (L.take k) = F at *
    have HF := Lib.hid hF
    obtain ⟨fl, hfl⟩ : ∃ fl, F.length = fl := ⟨_, rfl⟩
    have HFL := Lib.hid hfl
    rw [hfl] at HR ⊢
    have hkl : fl ≤ 200001 := by have := HKL.out; omega
    clear hP hF hfl
    by_cases hlt : k < n
    · obtain ⟨x, hx⟩ := some_of_lt (show k < L.length by rw [HL.out]; exact hlt)
      obtain ⟨b, off, rfl, x0, x1, x2⟩ := (HW.out.new_ HNW.out).at_ hx
      have HX := Lib.hid hx
      obtain ⟨kx, vx⟩ := x
      dsimp only at x0 x1 x2
      have HXB := Lib.hid (Blk.new wr 101 #[.string kx, .string vx, .bool true])
      have HBB := Lib.hid (HBK.out.alloc (.cells #[.string kx, .string vx, .bool true] 101))
      have HRX := Lib.hid (own_ch HR.out ((Ch.refl (fun _ => False) wr).alloc (.cells #[.string kx, .string vx, .bool true] 101)) (fun _ _ h => h))
      have HNX := Lib.hid (HNW.out.alloc (.cells #[.string kx, .string vx, .bool true] 101))
      have HXL := Lib.hid (fun g (hg : (Value.slice A7 fl q7).ownBlock = some g) => (own_lt HR.out hg).2)
      clear hx
      have hxs := HNX.out.size
      rcases key_tri kx key with hlt' | rfl | hgt
      · cases HB
        · have hdt : d = true := by rw [HDN.out]; unfold dnB; rw [HHB.out]; rfl
          subst hdt
          have b1 : Op.bytesLess kx.toList key.toList = true := by rw [less_key]; simpa using hlt'
          have hne : kx ≠ key := fun e => by subst e; exact List.lt_irrefl _ hlt'
          have HQ := Lib.hid (putK_lt (r := r) HS.out HX.out hlt')
          have q1 : (kx.toList == key.toList) = false := by simpa [str_eq] using hne
          have q2 : (kx.toList != key.toList) = true := by simpa [str_eq] using hne
          have HG := Lib.hid (show putK key r (L.take (k + 1)) = F ++ [(kx, vx)] by rw [HQ.out.1, HF.out])
          have HDX := Lib.hid (show true = dnB key r (L.take (k + 1)) by rw [HDN.out]; unfold dnB; rw [HQ.out.2])
          clear hlt' hne
          go_upto_region 6 with (fail)
          generalize hxw : wr.alloc (.cells #[.string kx, .string vx, .bool true] 101) = wx at *
          generalize wr.heap.size = xb at *
          clear hxw x0 x1 x2
          have p0 := HXB.out.cell 0
          have p1 := HXB.out.cell 1
          have p2 := HXB.out.cell 2
          have e0 := HBB.out.cell 0
          go_wp2_with (first
            | (at_builtin
               refine wpList_append_any _ rfl (.tmp 39) (.tmp 41) _ rfl w.heap.size 101 i1 _ 3 40 Tryd.underlying28 hi1 hy0 hy1 hy2 rfl (by omega) _ fl (flatW F) rfl
                 (own_ch HRX.out ((Ch.refl (fun _ => False) wx).alloc _) (fun _ _ h => h)) (wx.heap.size + 1) (some ⟨wx.heap.size, 0, none⟩) 1 1 [.string kx, .string vx, .bool true] rfl (reads_new wx 101 #[.string kx, .string vx, .bool true] 1 3 rfl) (by simp [Value.oneCell']) (by simp only [maxLen]; omega) (by omega) (by simp; omega) ?_
               intro v9 w9 hown hg hat
               have HO9 := Lib.hid hown
               have HG9 := Lib.hid hg
               clear hown hg hat))
          have hX := pq_mk hlt (show PL w _ bx V false key r L (k + 1) _ true from ⟨(by rw [HG.out, flatW_snoc, List.length_append, HFL.out]; exact HO9.out), (HNX.out.alloc _).grown HG9.out (fun g hg => .inr (own_lt HRX.out hg).1), (HBB.out.alloc _).grown HG9.out (fun e => own_blk_ne HRX.out HBB.out (by decide) e.symm), HDX.out⟩)
          first | exact ⟨hX, by simp [intOf]; omega⟩ | (refine ⟨?_, by simp [intOf]; omega⟩; (repeat apply Exists.intro); refine ⟨hX, ?_⟩; (repeat (first | rfl | refine ⟨rfl, ?_⟩)))
        · have hdt : d = false := by rw [HDN.out]; unfold dnB; rw [HHB.out, HDO.out (prior_lt HS.out HX.out (fun h => List.lt_irrefl _ (List.lt_trans h hlt')))]; rfl
          subst hdt
          have b1 : Op.bytesLess kx.toList key.toList = true := by rw [less_key]; simpa using hlt'
          have hne : kx ≠ key := fun e => by subst e; exact List.lt_irrefl _ hlt'
          have HQ := Lib.hid (putK_lt (r := r) HS.out HX.out hlt')
          have q1 : (kx.toList == key.toList) = false := by simpa [str_eq] using hne
          have q2 : (kx.toList != key.toList) = true := by simpa [str_eq] using hne
          have HG := Lib.hid (show putK key r (L.take (k + 1)) = F ++ [(kx, vx)] by rw [HQ.out.1, HF.out])
          have HDX := Lib.hid (show false = dnB key r (L.take (k + 1)) by rw [HDN.out]; unfold dnB; rw [HQ.out.2])
          clear hlt' hne
          go_upto_region 6 with (fail)
          generalize hxw : wr.alloc (.cells #[.string kx, .string vx, .bool true] 101) = wx at *
          generalize wr.heap.size = xb at *
          clear hxw x0 x1 x2
          have p0 := HXB.out.cell 0
          have p1 := HXB.out.cell 1
          have p2 := HXB.out.cell 2
          have e0 := HBB.out.cell 0
          go_wp2_with (first
            | (at_builtin
               refine wpList_append_any _ rfl (.tmp 39) (.tmp 41) _ rfl w.heap.size 101 i1 _ 3 40 Tryd.underlying28 hi1 hy0 hy1 hy2 rfl (by omega) _ fl (flatW F) rfl
                 (own_ch HRX.out ((Ch.refl (fun _ => False) wx).alloc _) (fun _ _ h => h)) (wx.heap.size + 1) (some ⟨wx.heap.size, 0, none⟩) 1 1 [.string kx, .string vx, .bool true] rfl (reads_new wx 101 #[.string kx, .string vx, .bool true] 1 3 rfl) (by simp [Value.oneCell']) (by simp only [maxLen]; omega) (by omega) (by simp; omega) ?_
               intro v9 w9 hown hg hat
               have HO9 := Lib.hid hown
               have HG9 := Lib.hid hg
               clear hown hg hat))
          have hX := pq_mk hlt (show PL w _ bx V true key r L (k + 1) _ false from ⟨(by rw [HG.out, flatW_snoc, List.length_append, HFL.out]; exact HO9.out), (HNX.out.alloc _).grown HG9.out (fun g hg => .inr (own_lt HRX.out hg).1), (HBB.out.alloc _).grown HG9.out (fun e => own_blk_ne HRX.out HBB.out (by decide) e.symm), HDX.out⟩)
          first | exact ⟨hX, by simp [intOf]; omega⟩ | (refine ⟨?_, by simp [intOf]; omega⟩; (repeat apply Exists.intro); refine ⟨hX, ?_⟩; (repeat (first | rfl | refine ⟨rfl, ?_⟩)))
      · cases HB
        · have hdt : d = true := by rw [HDN.out]; unfold dnB; rw [HHB.out]; rfl
          subst hdt
          have b1 : Op.bytesLess kx.toList kx.toList = false := by rw [less_key]; simp only [decide_eq_false_iff_not]; exact List.lt_irrefl _
          have HQ := Lib.hid (putK_eq (r := r) HS.out HX.out rfl)
          have HG := Lib.hid (show putK kx r (L.take (k + 1)) = F by rw [HQ.out.1, HF.out, HMID.out]; simp)
          have HDX := Lib.hid (show true = dnB kx r (L.take (k + 1)) by unfold dnB; rw [HQ.out.2.1]; simp)
          go_upto_region 6 with (fail)
          generalize hxw : wr.alloc (.cells #[.string kx, .string vx, .bool true] 101) = wx at *
          generalize wr.heap.size = xb at *
          clear hxw x0 x1 x2
          have p0 := HXB.out.cell 0
          have p1 := HXB.out.cell 1
          have p2 := HXB.out.cell 2
          have e0 := HBB.out.cell 0
          go_wp2_with fail
          have hX := pq_mk hlt (show PL w _ bx V false kx r L (k + 1) _ true from ⟨(by rw [HG.out, HFL.out]; exact HRX.out), HNX.out, HBB.out, HDX.out⟩)
          first | exact ⟨hX, by simp [intOf]; omega⟩ | (refine ⟨?_, by simp [intOf]; omega⟩; (repeat apply Exists.intro); refine ⟨hX, ?_⟩; (repeat (first | rfl | refine ⟨rfl, ?_⟩)))
        · have hdt : d = false := by rw [HDN.out]; unfold dnB; rw [HHB.out, HDO.out (prior_lt HS.out HX.out (List.lt_irrefl _))]; rfl
          subst hdt
          have b1 : Op.bytesLess kx.toList kx.toList = false := by rw [less_key]; simp only [decide_eq_false_iff_not]; exact List.lt_irrefl _
          have HQ := Lib.hid (putK_eq (r := r) HS.out HX.out rfl)
          have HG := Lib.hid (show putK kx r (L.take (k + 1)) = F ++ [(kx, V)] by rw [HQ.out.1, HF.out, HMID.out]; rfl)
          have HDX := Lib.hid (show true = dnB kx r (L.take (k + 1)) by unfold dnB; rw [HQ.out.2.1]; simp)
          go_upto_region 6 with (fail)
          generalize hxw : wr.alloc (.cells #[.string kx, .string vx, .bool true] 101) = wx at *
          generalize wr.heap.size = xb at *
          clear hxw x0 x1 x2
          have p0 := HXB.out.cell 0
          have p1 := HXB.out.cell 1
          have p2 := HXB.out.cell 2
          have e0 := HBB.out.cell 0
          go_upto_region 9 with (first
            | (at_builtin
               refine wpList_append_any _ rfl (.tmp 28) (.tmp 33) _ rfl w.heap.size 101 i1 _ 3 40 Tryd.underlying28 hi1 hy0 hy1 hy2 rfl (by omega) _ fl (flatW F) rfl
                 (own_ch HRX.out ((Ch.refl (fun _ => False) wx).alloc _) (fun _ _ h => h)) (wx.heap.size + 1) (some ⟨wx.heap.size, 0, none⟩) 1 1 [.string kx, .string V, .bool true] rfl (reads_new wx 101 #[.string kx, .string V, .bool true] 1 3 rfl) (by simp [Value.oneCell']) (by simp only [maxLen]; omega) (by omega) (by simp; omega) ?_
               intro v8 w8 hown hg hat
               have HO8 := Lib.hid hown
               have HG8 := Lib.hid hg
               clear hown hg hat))
          obtain ⟨A8, q8, rfl⟩ := own_form HO8.out
          have HN8 := Lib.hid ((HNX.out.alloc (.cells #[.string kx, .string V, .bool true] 101)).grown HG8.out (fun g hg => .inr (own_lt HRX.out hg).1))
          have HX8 := Lib.hid ((HXB.out.alloc (.cells #[.string kx, .string V, .bool true] 101)).grown HG8.out (fun e => by have := HXL.out _ e.symm; omega))
          have HB8 := Lib.hid ((HBB.out.alloc (.cells #[.string kx, .string V, .bool true] 101)).grown HG8.out (fun e => own_blk_ne HRX.out HBB.out (by decide) e.symm))
          clear p0 p1 p2 e0
          have p0 := HX8.out.cell 0
          go_wp2_with fail
          have hX := pq_mk hlt (show PL w _ bx V true kx r L (k + 1) _ true from ⟨(by rw [HG.out, flatW_snoc, List.length_append, HFL.out]; exact HO8.out), HN8.out, HB8.out, HDX.out⟩)
          first | exact ⟨hX, by simp [intOf]; omega⟩ | (refine ⟨?_, by simp [intOf]; omega⟩; (repeat apply Exists.intro); refine ⟨hX, ?_⟩; (repeat (first | rfl | refine ⟨rfl, ?_⟩)))
      · cases HB
        · have hdt : d = true := by rw [HDN.out]; unfold dnB; rw [HHB.out]; rfl
          subst hdt
          have b1 : Op.bytesLess kx.toList key.toList = false := by rw [less_key]; simp only [decide_eq_false_iff_not]; exact fun h => List.lt_irrefl _ (List.lt_trans h hgt)
          have hne : kx ≠ key := fun e => by subst e; exact List.lt_irrefl _ hgt
          have HQ := Lib.hid (putK_gt (r := r) HX.out hgt)
          have q1 : (kx.toList == key.toList) = false := by simpa [str_eq] using hne
          have q2 : (kx.toList != key.toList) = true := by simpa [str_eq] using hne
          have HG := Lib.hid (show putK key r (L.take (k + 1)) = F ++ [(kx, vx)] by rw [HQ.out.1, HF.out, HMID.out]; simp)
          have HDX := Lib.hid (show true = dnB key r (L.take (k + 1)) by unfold dnB; rw [HQ.out.2]; simp)
          clear hgt hne
          go_upto_region 6 with (fail)
          generalize hxw : wr.alloc (.cells #[.string kx, .string vx, .bool true] 101) = wx at *
          generalize wr.heap.size = xb at *
          clear hxw x0 x1 x2
          have p0 := HXB.out.cell 0
          have p1 := HXB.out.cell 1
          have p2 := HXB.out.cell 2
          have e0 := HBB.out.cell 0
          go_wp2_with (first
            | (at_builtin
               refine wpList_append_any _ rfl (.tmp 39) (.tmp 41) _ rfl w.heap.size 101 i1 _ 3 40 Tryd.underlying28 hi1 hy0 hy1 hy2 rfl (by omega) _ fl (flatW F) rfl
                 (own_ch HRX.out ((Ch.refl (fun _ => False) wx).alloc _) (fun _ _ h => h)) (wx.heap.size + 1) (some ⟨wx.heap.size, 0, none⟩) 1 1 [.string kx, .string vx, .bool true] rfl (reads_new wx 101 #[.string kx, .string vx, .bool true] 1 3 rfl) (by simp [Value.oneCell']) (by simp only [maxLen]; omega) (by omega) (by simp; omega) ?_
               intro v9 w9 hown hg hat
               have HO9 := Lib.hid hown
               have HG9 := Lib.hid hg
               clear hown hg hat))
          have hX := pq_mk hlt (show PL w _ bx V false key r L (k + 1) _ true from ⟨(by rw [HG.out, flatW_snoc, List.length_append, HFL.out]; exact HO9.out), (HNX.out.alloc _).grown HG9.out (fun g hg => .inr (own_lt HRX.out hg).1), (HBB.out.alloc _).grown HG9.out (fun e => own_blk_ne HRX.out HBB.out (by decide) e.symm), HDX.out⟩)
          first | exact ⟨hX, by simp [intOf]; omega⟩ | (refine ⟨?_, by simp [intOf]; omega⟩; (repeat apply Exists.intro); refine ⟨hX, ?_⟩; (repeat (first | rfl | refine ⟨rfl, ?_⟩)))
        · cases d
          · skip
            have b1 : Op.bytesLess kx.toList key.toList = false := by rw [less_key]; simp only [decide_eq_false_iff_not]; exact fun h => List.lt_irrefl _ (List.lt_trans h hgt)
            have hne : kx ≠ key := fun e => by subst e; exact List.lt_irrefl _ hgt
            have HQ := Lib.hid (putK_gt (r := r) HX.out hgt)
            have q1 : (kx.toList == key.toList) = false := by simpa [str_eq] using hne
            have q2 : (kx.toList != key.toList) = true := by simpa [str_eq] using hne
            have hdt : doneB key (L.take k) = false := by have h1 := HDN.out; unfold dnB at h1; rw [HHB.out] at h1; simpa using h1.symm
            have HG := Lib.hid (show putK key r (L.take (k + 1)) = F ++ [(key, V)] ++ [(kx, vx)] by rw [HQ.out.1, HF.out, hdt, HMID.out]; simp)
            clear hdt
            have HDX := Lib.hid (show true = dnB key r (L.take (k + 1)) by unfold dnB; rw [HQ.out.2]; simp)
            clear hgt hne
            go_upto_region 6 with (fail)
            generalize hxw : wr.alloc (.cells #[.string kx, .string vx, .bool true] 101) = wx at *
            generalize wr.heap.size = xb at *
            clear hxw x0 x1 x2
            have p0 := HXB.out.cell 0
            have p1 := HXB.out.cell 1
            have p2 := HXB.out.cell 2
            have e0 := HBB.out.cell 0
            go_upto_region 9 with (first
              | (at_builtin
                 refine wpList_append_any _ rfl (.tmp 28) (.tmp 33) _ rfl w.heap.size 101 i1 _ 3 40 Tryd.underlying28 hi1 hy0 hy1 hy2 rfl (by omega) _ fl (flatW F) rfl
                   (own_ch HRX.out ((Ch.refl (fun _ => False) wx).alloc _) (fun _ _ h => h)) (wx.heap.size + 1) (some ⟨wx.heap.size, 0, none⟩) 1 1 [.string key, .string V, .bool true] rfl (reads_new wx 101 #[.string key, .string V, .bool true] 1 3 rfl) (by simp [Value.oneCell']) (by simp only [maxLen]; omega) (by omega) (by simp; omega) ?_
                 intro v8 w8 hown hg hat
                 have HO8 := Lib.hid hown
                 have HG8 := Lib.hid hg
                 clear hown hg hat))
            obtain ⟨A8, q8, rfl⟩ := own_form HO8.out
            have HN8 := Lib.hid ((HNX.out.alloc (.cells #[.string key, .string V, .bool true] 101)).grown HG8.out (fun g hg => .inr (own_lt HRX.out hg).1))
            have HX8 := Lib.hid ((HXB.out.alloc (.cells #[.string key, .string V, .bool true] 101)).grown HG8.out (fun e => by have := HXL.out _ e.symm; omega))
            have HB8 := Lib.hid ((HBB.out.alloc (.cells #[.string key, .string V, .bool true] 101)).grown HG8.out (fun e => own_blk_ne HRX.out HBB.out (by decide) e.symm))
            clear p0 p1 p2 e0
            have p0 := HX8.out.cell 0
            have p1 := HX8.out.cell 1
            have p2 := HX8.out.cell 2
            have h8s := HN8.out.size
            have HR8 := Lib.hid (show w8.ownsRow w.heap.size 101 3 (.slice A8 (fl + 1) q8) (fl + 1) (flatW (F ++ [(key, V)])) by rw [flatW_snoc]; exact HO8.out)
            go_wp2_with (first
              | (at_builtin
                 refine wpList_append_any _ rfl (.tmp 39) (.tmp 41) _ rfl w.heap.size 101 i1 _ 3 40 Tryd.underlying28 hi1 hy0 hy1 hy2 rfl (by omega) _ (fl + 1) (flatW (F ++ [(key, V)])) rfl
                   (own_ch HR8.out ((Ch.refl (fun _ => False) w8).alloc _) (fun _ _ h => h)) (w8.heap.size + 1) (some ⟨w8.heap.size, 0, none⟩) 1 1 [.string kx, .string vx, .bool true] rfl (reads_new w8 101 #[.string kx, .string vx, .bool true] 1 3 rfl) (by simp [Value.oneCell']) (by simp only [maxLen]; omega) (by omega) (by simp; omega) ?_
                 intro v9 w9 hown hg hat
                 have HO9 := Lib.hid hown
                 have HG9 := Lib.hid hg
                 clear hown hg hat))
            have hX := pq_mk hlt (show PL w _ bx V true key r L (k + 1) _ true from ⟨(by rw [HG.out, flatW_snoc, List.length_append, List.length_append, HFL.out]; exact HO9.out), (HN8.out.alloc _).grown HG9.out (fun g hg => .inr (own_lt HR8.out hg).1), (HB8.out.alloc _).grown HG9.out (fun e => own_blk_ne HR8.out HB8.out (by decide) e.symm), HDX.out⟩)
            first | exact ⟨hX, by simp [intOf]; omega⟩ | (refine ⟨?_, by simp [intOf]; omega⟩; (repeat apply Exists.intro); refine ⟨hX, ?_⟩; (repeat (first | rfl | refine ⟨rfl, ?_⟩)))
          · skip
            have b1 : Op.bytesLess kx.toList key.toList = false := by rw [less_key]; simp only [decide_eq_false_iff_not]; exact fun h => List.lt_irrefl _ (List.lt_trans h hgt)
            have hne : kx ≠ key := fun e => by subst e; exact List.lt_irrefl _ hgt
            have HQ := Lib.hid (putK_gt (r := r) HX.out hgt)
            have q1 : (kx.toList == key.toList) = false := by simpa [str_eq] using hne
            have q2 : (kx.toList != key.toList) = true := by simpa [str_eq] using hne
            have hdt : doneB key (L.take k) = true := by have h1 := HDN.out; unfold dnB at h1; rw [HHB.out] at h1; simpa using h1.symm
            have HG := Lib.hid (show putK key r (L.take (k + 1)) = F ++ [(kx, vx)] by rw [HQ.out.1, HF.out, hdt]; simp)
            clear hdt
            have HDX := Lib.hid (show true = dnB key r (L.take (k + 1)) by unfold dnB; rw [HQ.out.2]; simp)
            clear hgt hne
            go_upto_region 6 with (fail)
            generalize hxw : wr.alloc (.cells #[.string kx, .string vx, .bool true] 101) = wx at *
            generalize wr.heap.size = xb at *
            clear hxw x0 x1 x2
            have p0 := HXB.out.cell 0
            have p1 := HXB.out.cell 1
            have p2 := HXB.out.cell 2
            have e0 := HBB.out.cell 0
            go_wp2_with (first
              | (at_builtin
                 refine wpList_append_any _ rfl (.tmp 39) (.tmp 41) _ rfl w.heap.size 101 i1 _ 3 40 Tryd.underlying28 hi1 hy0 hy1 hy2 rfl (by omega) _ fl (flatW F) rfl
                   (own_ch HRX.out ((Ch.refl (fun _ => False) wx).alloc _) (fun _ _ h => h)) (wx.heap.size + 1) (some ⟨wx.heap.size, 0, none⟩) 1 1 [.string kx, .string vx, .bool true] rfl (reads_new wx 101 #[.string kx, .string vx, .bool true] 1 3 rfl) (by simp [Value.oneCell']) (by simp only [maxLen]; omega) (by omega) (by simp; omega) ?_
                 intro v9 w9 hown hg hat
                 have HO9 := Lib.hid hown
                 have HG9 := Lib.hid hg
                 clear hown hg hat))
            have hX := pq_mk hlt (show PL w _ bx V true key r L (k + 1) _ true from ⟨(by rw [HG.out, flatW_snoc, List.length_append, HFL.out]; exact HO9.out), (HNX.out.alloc _).grown HG9.out (fun g hg => .inr (own_lt HRX.out hg).1), (HBB.out.alloc _).grown HG9.out (fun e => own_blk_ne HRX.out HBB.out (by decide) e.symm), HDX.out⟩)
            first | exact ⟨hX, by simp [intOf]; omega⟩ | (refine ⟨?_, by simp [intOf]; omega⟩; (repeat apply Exists.intro); refine ⟨hX, ?_⟩; (repeat (first | rfl | refine ⟨rfl, ?_⟩)))
    · obtain rfl : k = n := by omega
      have HFT := Lib.hid (show L.take k = L by rw [← HL.out, List.take_length])
      have e0 := HBK.out.cell 0
      have hsz := HNW.out.size
      clear hlt hk
      cases d
      · have hHB : HB = true := by
          have h1 := HDN.out
          unfold dnB at h1
          rw [HHB.out] at h1
          cases HB
          · simp at h1
          · rfl
        subst hHB
        have HE := Lib.hid (show putL key r L = F ++ [(key, V)] by
          rw [putK_end, ← HFT.out, HF.out]
          have h1 := HDN.out
          unfold dnB at h1
          rw [HHB.out] at h1
          simp only [Bool.not_true, Bool.false_or] at h1
          rw [← h1, HMID.out]
          rfl)
        go_wp2_with (first
          | (at_builtin
             refine wpList_append_any _ rfl (.tmp 46) (.tmp 51) _ rfl w.heap.size 101 i1 _ 3 40 Tryd.underlying28 hi1 hy0 hy1 hy2 rfl (by omega) _ fl (flatW F) rfl
               (own_ch HR.out ((Ch.refl (fun _ => False) wr).alloc _) (fun _ _ h => h)) (wr.heap.size + 1) (some ⟨wr.heap.size, 0, none⟩) 1 1 [.string key, .string V, .bool true] rfl (reads_new wr 101 #[.string key, .string V, .bool true] 1 3 rfl) (by simp [Value.oneCell']) (by simp only [maxLen]; omega) (by omega) (by simp; omega) ?_
             intro v8 w8 hown8 hg8 hat8
             have HOA := Lib.hid hown8
             have HG8 := Lib.hid hg8
             clear hown8 hg8 hat8))
        obtain ⟨A8, q8, rfl⟩ := own_form HOA.out
        go_ret
        refine ⟨A8, q8, ?_, ?_, (HNW.out.alloc _).grown HG8.out (fun g hg => .inr (own_lt HR.out hg).1)⟩
        · rw [HE.out, List.length_append, HFL.out]; rfl
        · rw [HE.out, flatW_snoc, List.length_append, HFL.out]; exact HOA.out
      · have HE := Lib.hid (show putL key r L = F by
          rw [putK_end, ← HFT.out, HF.out]
          have h1 := HDN.out
          unfold dnB at h1
          rcases hd : doneB key (L.take k) with _ | _
          · rw [hd, HHB.out] at h1
            cases HB
            · rw [HMID.out]; simp
            · simp at h1
          · simp)
        go_wp2_with fail
        go_ret
        refine ⟨A7, q7, ?_, ?_, HNW.out⟩
        · rw [HE.out, HFL.out]; rfl
        · rw [HE.out, HFL.out]; exact HR.out
end Go.Proofs.YtbggadhaaphmcaaDoor
