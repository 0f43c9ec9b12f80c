/- From: a store made of cells. -/
import Derived.Test.YtfcdplfnhjbdnaaRt
import Derived.Deep.RegionHeld3
namespace Go.Proofs.Ytfcdplfnhjbdnaa
open Go.RowKit Go.Maps
set_option linter.unusedVariables false

theorem new_cm (w : World) : Calls Try.prog 9 #[] w fun e w' => e = .returned (.pointer (some ⟨w.heap.size + 1, 0, none⟩)) ∧ CM w' w.heap.size (w.heap.size + 1) w.heap.size 0 (.map []) (fun _ => nilS) emptyS ∧ NewW w w' :=
  (new_any w).mono fun _ _ ⟨h1, h2⟩ => by
    subst h2
    exact ⟨h1, cm_new w _ (Nat.le_refl _), ((Ch.refl _ w).alloc _).alloc _⟩
theorem cm_floor {w : World} {B cb mb n : Nat} {D : DataW Value} {V : List UInt8 → Value} {s : CS} (h : CM w B cb mb n D V s) (fl : Int) : CM (w.setCell ⟨cb, 2, none⟩ (.int .i64 fl)) B cb mb n D V { s with floor := fl } := by
  have hc : Ch (fun g => g = cb) w (w.setCell ⟨cb, 2, none⟩ (.int .i64 fl)) := (Ch.refl (fun g => g = cb) w).setCell (p := ⟨cb, 2, none⟩) (.inl rfl) _
  refine ⟨?_, map_ch h.map hc h.ne, h.at_, fun k => own_ch (h.row k) hc (fun g hg e => (h.row_ne k).1 (e ▸ hg)), h.has, h.apart, h.cB, h.mB⟩
  have := h.blk.set_ 2 (.int .i64 fl)
  rwa [show (#[.map (some mb), .int .i64 s.last, .int .i64 s.floor] : Array Value).setIfInBounds 2 (.int .i64 fl) = #[.map (some mb), .int .i64 s.last, .int .i64 fl] by simp] at this
theorem from_fin {w w7 w8 w9 : World} {B cb mb n : Nat} {D : DataW Value} {V : List UInt8 → Value} {s : CS} (h : CM w B cb mb n D V s) {k : List UInt8} {l : List Ver} {v7 : Value} (hB : B ≤ w.heap.size) (c7 : NewW w w7) (ho7 : w7.ownsRow w.heap.size 66 3 v7 l.length (flatV l))
    (hm8 : w8.ownsMap Try.prog 9 RH mb (n + 1) (D.put (.string k) (.held v7))) (hg8 : w7.grownBy w8 (some mb)) (h89 : NewW w8 w9) (hne : l ≠ []) (m : Int) :
    CM (w9.setCell ⟨cb, 1, none⟩ (.int .i64 m)) B cb mb (n + 1) (D.put (.string k) (.held v7)) (fun j => if j = k then v7 else V j) { s with f := updF s.f k l, last := m } := by
  have h7 := h.new_ c7
  have c8 : Ch (fun g => g = mb) w7 w9 := ((Ch.of_grown hg8).mono fun g hg => by injection hg with hg; exact hg.symm).trans h89 (fun _ h => h.elim)
  have c9 : Ch (fun g => g = cb) w9 (w9.setCell ⟨cb, 1, none⟩ (.int .i64 m)) := (Ch.refl (fun g => g = cb) w9).setCell (p := ⟨cb, 1, none⟩) (.inl rfl) _
  have hm9 := map_ch hm8 h89 (fun h => h)
  have hcm := h.ne
  have b8 := h7.blk.ch c8 (fun e => hcm e.symm)
  have hcb7 : v7.ownBlock ≠ some cb := own_blk_ne ho7 h7.blk (by decide)
  have hmb7 : v7.ownBlock ≠ some mb := map_row h7.map ho7
  refine ⟨?_, map_ch hm9 c9 hcm, fun j => ?_, fun j => ?_, fun j => ?_, fun j j' g hj => ?_, h.cB, h.mB⟩
  · have := b8.set_ 1 (.int .i64 m)
    rwa [show (#[.map (some mb), .int .i64 s.last, .int .i64 s.floor] : Array Value).setIfInBounds 1 (.int .i64 m) = #[.map (some mb), .int .i64 m, .int .i64 s.floor] by simp] at this
  · by_cases e : j = k
    · subst e
      rw [atKey_put_same h.isMap (by trivial), if_pos rfl]
    · rw [atKey_put_other (by intro e'; injection e' with e'; exact e e'), h.at_ j, if_neg e]
  · by_cases e : j = k
    · subst e
      simp only [if_pos, updF]
      exact own_mono (own_ch (own_ch ho7 c8 (fun g hg e => hmb7 (e ▸ hg))) c9 (fun g hg e => hcb7 (e ▸ hg))) hB
    · simp only [updF, if_neg e]
      obtain ⟨r1, r2⟩ := h.row_ne j
      exact own_ch (own_ch (h7.row j) c8 (fun g hg e => r2 (e ▸ hg))) c9 (fun g hg e => r1 (e ▸ hg))
  · by_cases e : j = k
    · subst e
      rw [has_put_same h.isMap (by trivial)]
      simp [updF, hne]
    · rw [has_put_other (by intro e'; injection e' with e'; exact e e'), h.has j]
      simp [updF, e]
  · have new7 : ∀ j g, (V j).ownBlock = some g → v7.ownBlock ≠ some g := by
      intro j g hg hv
      have h1 := (own_lt (h.row j) hg).2
      have h2 := (own_lt ho7 hv).1
      omega
    by_cases e : j = k
    · subst e
      rw [if_pos rfl, if_neg (fun e => hj e.symm)]
      intro hv hv'
      exact new7 j' g hv' hv
    · rw [if_neg e]
      by_cases e' : j' = k
      · subst e'
        rw [if_pos rfl]
        exact fun hv => new7 j g hv
      · rw [if_neg e']
        exact h.apart j j' g hj
def prevK (cs : List Cell) (j : Nat) : Option (List UInt8) := if j = 0 then none else (cs[j - 1]?).map Prod.fst
theorem okC_next {cs : List Cell} {j : Nat} {x : Cell} (h : cs[j]? = some x) (m : Int) : okC (prevK cs j) (cs.drop j) m = (rightB x m && befB (prevK cs j) x.1 && okC (prevK cs (j + 1)) (cs.drop (j + 1)) m) := by
  obtain ⟨hl, he⟩ := List.getElem?_eq_some_iff.1 h
  rw [List.drop_eq_getElem_cons hl, he]
  have : prevK cs (j + 1) = some x.1 := by unfold prevK; rw [if_neg (by omega), Nat.add_sub_cancel, h]; rfl
  rw [this]
  rfl
def okF (cs : List Cell) (fl : Int) : Bool := (decide (0 ≤ fl) && decide (fl ≤ 1099511627776)) && okC none cs fl
set_option maxRecDepth 100000 in
set_option maxHeartbeats 16000000 in
theorem from_any (cs : List Cell) (A : Option Addr) (c : Nat) (fl : Int) (w : World) (h : RdC w A cs) (hn : cs.length ≤ 1000) (hk : ∀ x ∈ cs, x.1.length ≤ maxLen ∧ x.2.length ≤ 1000 ∧ ∀ v ∈ x.2, v.val.size ≤ maxLen) :
    Calls Try.prog 23 #[.slice A cs.length c, .int .i64 fl] w fun e w' => NewW w w' ∧ ((okF cs fl = true ∧ e = .returned (.tuple #[.pointer (some ⟨w.heap.size + 1, 0, none⟩), .int .i64 0]) ∧ ∃ D V, CM w' w.heap.size (w.heap.size + 1) w.heap.size cs.length D V (fromS cs fl)) ∨
      (okF cs fl = false ∧ e = .returned (.tuple #[.pointer none, .int .i64 2]))) := by
  have hmo := Lib.hid (moment_any fl w)
  obtain ⟨OK, hOK⟩ : ∃ OK, okF cs fl = OK := ⟨_, rfl⟩
  rw [hOK]
  by_cases hm0 : (decide (0 ≤ fl) && decide (fl ≤ 1099511627776)) = false
  · rw [hm0] at hmo
    have hf : OK = false := by rw [← hOK]; unfold okF; rw [hm0]; rfl
    have HF := Lib.hid hf
    clear hm0 hOK hf h hk
    generalize cs.length = NN at *
    go_enter Try.func23, Try.ntmps23
    go_wp2_with (go_at_call 29; refine hmo.out.mono ?_; rintro e w2 ⟨rfl, rfl⟩)
    go_ret2
    exact ⟨Ch.refl _ _, .inr ⟨HF.out, rfl⟩⟩
  have hm := (by simpa using hm0 : (decide (0 ≤ fl) && decide (fl ≤ 1099511627776)) = true)
  clear hm0
  rw [hm] at hmo
  have hok0 : okC none cs fl = OK := by rw [← hOK]; unfold okF; rw [hm]; rfl
  have HOK := Lib.hid hok0
  have HH := Lib.hid h
  have HK := Lib.hid hk
  have HNC := Lib.hid (new_cm w)
  clear hm hOK hok0 h hk
  generalize hNN : cs.length = NN at *
  have HNN := Lib.hid hNN
  clear hNN
  go_enter Try.func23, Try.ntmps23
  go_wp2_with (first
    | (go_at_call 29; refine hmo.out.mono ?_; rintro e w2 ⟨rfl, rfl⟩)
    | (go_at_call 9; refine HNC.out.mono ?_
       rintro e w2 ⟨rfl, hm2, hn2⟩
       have c2 := hm2.c2
       have f2 := hm2.blk.frozen 2
       have HM3 := Lib.hid (cm_floor hm2 fl)
       have HC := Lib.hid (show NewW w (w2.setCell ⟨w.heap.size + 1, 2, none⟩ (.int .i64 fl)) from (hn2 : Ch (fun _ => False) w w2).setCell (.inr (Nat.le_succ _)) _)
       clear hm2 hn2))
  generalize w2.setCell ⟨w.heap.size + 1, 2, none⟩ (.int .i64 fl) = w3 at *
  clear c2 f2
  have hszw : w.heap.size ≤ w3.heap.size := HC.out.size
  go_loopw [19] (fun i w' => ∃ j : Nat, j ≤ NN ∧ i = .int .i64 j ∧ (∃ D V, CM w' w.heap.size (w.heap.size + 1) w.heap.size j D V (fromS (cs.take j) fl)) ∧ okC none cs fl = okC (prevK cs j) (cs.drop j) fl ∧ NewW w w') (fun i _ => NN - (intOf i).toNat)
  case atStart => exact ⟨0, by omega, rfl, ⟨_, _, HM3.out⟩, rfl, HC.out⟩
  case round =>
    obtain ⟨j, hj, rfl, ⟨D, V, hM⟩, hok, hC⟩ := hrel
    by_cases hlt : j < NN
    · obtain ⟨x, hx⟩ := some_of_lt (L := cs) (i := j) (by have := HNN.out; omega)
      obtain ⟨k, l⟩ := x
      rw [okC_next hx, HOK.out] at hok
      obtain ⟨g, off, rfl, z0, A', c', z1, hrv⟩ := HH.out.at_ hx
      obtain ⟨kb, hkb, hkd⟩ := enc_form k
      rw [hkb] at z0
      obtain ⟨hkl, hll, hvl⟩ := HK.out _ (mem_of_some hx)
      have hll : l.length ≤ 1000 := hll
      have hkm : kb.size ≤ maxLen := by rw [← size_list, hkd]; exact hkl
      have y0 := new_cell hC z0
      have y1 := new_cell hC z1
      have HCB := Lib.hid (show NewW w (wr.alloc (.cells #[.string kb, .slice A' l.length c'] 58)) from Ch.alloc hC _)
      have HMB := Lib.hid (hM.new_ (show NewW wr (wr.alloc (.cells #[.string kb, .slice A' l.length c'] 58)) from (Ch.refl _ wr).alloc _))
      have BX := Lib.hid (Blk.new wr 58 #[.string kb, .slice A' l.length c'])
      have HRV := Lib.hid hrv
      have HX := Lib.hid hx
      have HRT := Lib.hid (fun w' (hc : NewW w w') => right_any kb A' l c' fl w' (hrv.new_ hc) hkm (by omega) hvl)
      have HOKJ := Lib.hid hok
      have HKD := Lib.hid hkd
      have HZ0 := Lib.hid z0
      have hszj : w.heap.size ≤ wr.heap.size := hC.size
      have HKM := Lib.hid hkm
      have HLL := Lib.hid hll
      clear hx hok hC hM hkb hkd hkl hll hvl z0 z1 hrv hkm
      generalize hln : l.length = ln at *
      have HLN := Lib.hid hln
      clear hln
      go_upto_region 8 with (fail)
      generalize wr.alloc (.cells #[.string kb, .slice A' ln c'] 58) = wb at *
      generalize wr.heap.size = bx at *
      clear y0 y1
      have x0 : wb.cell? ⟨bx, 0, none⟩ = some (.string kb) := by rw [BX.out.cell]; rfl
      have x1 : wb.cell? ⟨bx, 1, none⟩ = some (.slice A' ln c') := by rw [BX.out.cell]; rfl
      have HR := Lib.hid (HRT.out wb.drew (Ch.drew HCB.out))
      obtain ⟨RB, hRB⟩ : ∃ RB, rightB (kb.data.toList, l) fl = RB := ⟨_, rfl⟩
      rw [hRB] at HR
      have HRB := Lib.hid hRB
      clear hRB HRT
      go_wp2_with fail
      cases RB
      · -- it isn't right
        refine wp_region_held_drew (S := (fun w' => w'.cell? ⟨bx, 0, none⟩ = some (.string kb) ∧ w'.cell? ⟨bx, 1, none⟩ = some (.slice A' ln c'))) (by kernel_rfl) (⟨x0, x1⟩) (fun hHeld => ?_)
        refine wpAnyH_take (i := 0) (v := ?_) rfl (by kernel_rfl) (by kernel_rfl) (by kernel_rfl) (fun _ _ _ h => h) (Or.inl ⟨by rfl, ?_⟩) (by assumption) ?_
        rotate_left 1
        · (intro w hSw; (try dsimp only at hSw); go_simp) <;> with_reducible rfl
        try simp only [Act.put, List.getElem_toArray, List.getElem_cons_zero, List.setIfInBounds_toArray, List.set_cons_zero, List.set_cons_succ]
        refine wpAnyH_take (i := 1) (v := ?_) rfl (by kernel_rfl) (by kernel_rfl) (by kernel_rfl) (fun _ _ _ h => h) (Or.inl ⟨by rfl, ?_⟩) (by assumption) ?_
        rotate_left 1
        · (intro w hSw; (try dsimp only at hSw); go_simp) <;> with_reducible rfl
        try simp only [Act.put, List.getElem_toArray, List.getElem_cons_zero, List.getElem_cons_succ, List.setIfInBounds_toArray, List.set_cons_zero, List.set_cons_succ]
        refine wpAnyH_ready (rs := [2]) (by kernel_rfl) (by simp) ?_
        refine AllReadyH.cons rfl (fun K hK => ?_) AllReadyH.nil
        go_simp
        go_at_call 32
        refine HR.out.mono ?_
        rintro e w6 ⟨rfl, hN6⟩
        have y0 := new_cell hN6 (show wb.drew.cell? ⟨bx, 0, none⟩ = some (.string kb) from x0)
        have y1 := new_cell hN6 (show wb.drew.cell? ⟨bx, 1, none⟩ = some (.slice A' ln c') from x1)
        dsimp only
        refine hK.out _ _ (⟨y0, y1⟩) (fun hHeld2 => ?_)
        clear hK K hHeld
        try simp only [Act.put, List.getElem_toArray, List.getElem_cons_zero, List.getElem_cons_succ, List.setIfInBounds_toArray, List.set_cons_zero, List.set_cons_succ]
        refine wpAnyH_take (i := 3) (v := ?_) rfl (by kernel_rfl) (by kernel_rfl) (by kernel_rfl) (fun _ _ _ h => h) (Or.inl ⟨by rfl, ?_⟩) (by assumption) ?_
        rotate_left 1
        · (intro w hSw; (try dsimp only at hSw); go_simp) <;> with_reducible rfl
        try simp only [Act.put, List.getElem_toArray, List.getElem_cons_zero, List.getElem_cons_succ, List.setIfInBounds_toArray, List.set_cons_zero, List.set_cons_succ]
        refine wpAnyH_take (i := 4) (v := ?_) rfl (by kernel_rfl) (by kernel_rfl) (by kernel_rfl) (fun _ _ _ h => h) (Or.inl ⟨by rfl, ?_⟩) (by assumption) ?_
        rotate_left 1
        · (intro w hSw; (try dsimp only at hSw); go_simp) <;> with_reducible rfl
        try simp only [Act.put, List.getElem_toArray, List.getElem_cons_zero, List.getElem_cons_succ, List.setIfInBounds_toArray, List.set_cons_zero, List.set_cons_succ]
        refine wpAnyH_take (i := 5) (v := undef) rfl (by kernel_rfl) (by kernel_rfl) (by kernel_rfl) (fun _ _ _ h => h) (Or.inr ⟨by rfl, rfl⟩) (by assumption) ?_
        try simp only [Act.put, List.getElem_toArray, List.getElem_cons_zero, List.getElem_cons_succ, List.setIfInBounds_toArray, List.set_cons_zero, List.set_cons_succ]
        refine wpAnyH_take (i := 6) (v := undef) rfl (by kernel_rfl) (by kernel_rfl) (by kernel_rfl) (fun _ _ _ h => h) (Or.inr ⟨by rfl, rfl⟩) (by assumption) ?_
        try simp only [Act.put, List.getElem_toArray, List.getElem_cons_zero, List.getElem_cons_succ, List.setIfInBounds_toArray, List.set_cons_zero, List.set_cons_succ]
        refine wpAnyH_take (i := 7) (v := undef) rfl (by kernel_rfl) (by kernel_rfl) (by kernel_rfl) (fun _ _ _ h => h) (Or.inr ⟨by rfl, rfl⟩) (by assumption) ?_
        try simp only [Act.put, List.getElem_toArray, List.getElem_cons_zero, List.getElem_cons_succ, List.setIfInBounds_toArray, List.set_cons_zero, List.set_cons_succ]
        refine wpAnyH_take (i := 8) (v := undef) rfl (by kernel_rfl) (by kernel_rfl) (by kernel_rfl) (fun _ _ _ h => h) (Or.inr ⟨by rfl, rfl⟩) (by assumption) ?_
        try simp only [Act.put, List.getElem_toArray, List.getElem_cons_zero, List.getElem_cons_succ, List.setIfInBounds_toArray, List.set_cons_zero, List.set_cons_succ]
        refine wpAnyH_take (i := 9) (v := undef) rfl (by kernel_rfl) (by kernel_rfl) (by kernel_rfl) (fun _ _ _ h => h) (Or.inr ⟨by rfl, rfl⟩) (by assumption) ?_
        try simp only [Act.put, List.getElem_toArray, List.getElem_cons_zero, List.getElem_cons_succ, List.setIfInBounds_toArray, List.set_cons_zero, List.set_cons_succ]
        refine wpAnyH_take (i := 10) (v := undef) rfl (by kernel_rfl) (by kernel_rfl) (by kernel_rfl) (fun _ _ _ h => h) (Or.inr ⟨by rfl, rfl⟩) (by assumption) ?_
        try simp only [Act.put, List.getElem_toArray, List.getElem_cons_zero, List.getElem_cons_succ, List.setIfInBounds_toArray, List.set_cons_zero, List.set_cons_succ]
        refine wpAnyH_take (i := 11) (v := undef) rfl (by kernel_rfl) (by kernel_rfl) (by kernel_rfl) (fun _ _ _ h => h) (Or.inr ⟨by rfl, rfl⟩) (by assumption) ?_
        try simp only [Act.put, List.getElem_toArray, List.getElem_cons_zero, List.getElem_cons_succ, List.setIfInBounds_toArray, List.set_cons_zero, List.set_cons_succ]
        refine wpAnyH_take (i := 12) (v := undef) rfl (by kernel_rfl) (by kernel_rfl) (by kernel_rfl) (fun _ _ _ h => h) (Or.inr ⟨by rfl, rfl⟩) (by assumption) ?_
        try simp only [Act.put, List.getElem_toArray, List.getElem_cons_zero, List.getElem_cons_succ, List.setIfInBounds_toArray, List.set_cons_zero, List.set_cons_succ]
        refine wpAnyH_take (i := 13) (v := undef) rfl (by kernel_rfl) (by kernel_rfl) (by kernel_rfl) (fun _ _ _ h => h) (Or.inr ⟨by rfl, rfl⟩) (by assumption) ?_
        try simp only [Act.put, List.getElem_toArray, List.getElem_cons_zero, List.getElem_cons_succ, List.setIfInBounds_toArray, List.set_cons_zero, List.set_cons_succ]
        refine wpAnyH_take (i := 14) (v := undef) rfl (by kernel_rfl) (by kernel_rfl) (by kernel_rfl) (fun _ _ _ h => h) (Or.inr ⟨by rfl, rfl⟩) (by assumption) ?_
        try simp only [Act.put, List.getElem_toArray, List.getElem_cons_zero, List.getElem_cons_succ, List.setIfInBounds_toArray, List.set_cons_zero, List.set_cons_succ]
        refine wpAnyH_take (i := 15) (v := undef) rfl (by kernel_rfl) (by kernel_rfl) (by kernel_rfl) (fun _ _ _ h => h) (Or.inr ⟨by rfl, rfl⟩) (by assumption) ?_
        try simp only [Act.put, List.getElem_toArray, List.getElem_cons_zero, List.getElem_cons_succ, List.setIfInBounds_toArray, List.set_cons_zero, List.set_cons_succ]
        refine wpAnyH_take (i := 16) (v := undef) rfl (by kernel_rfl) (by kernel_rfl) (by kernel_rfl) (fun _ _ _ h => h) (Or.inr ⟨by rfl, rfl⟩) (by assumption) ?_
        try simp only [Act.put, List.getElem_toArray, List.getElem_cons_zero, List.getElem_cons_succ, List.setIfInBounds_toArray, List.set_cons_zero, List.set_cons_succ]
        refine wpAnyH_take (i := 17) (v := undef) rfl (by kernel_rfl) (by kernel_rfl) (by kernel_rfl) (fun _ _ _ h => h) (Or.inr ⟨by rfl, rfl⟩) (by assumption) ?_
        try simp only [Act.put, List.getElem_toArray, List.getElem_cons_zero, List.getElem_cons_succ, List.setIfInBounds_toArray, List.set_cons_zero, List.set_cons_succ]
        refine wpAnyH_take (i := 18) (v := ?_) rfl (by kernel_rfl) (by kernel_rfl) (by kernel_rfl) (fun _ _ _ h => h) (Or.inl ⟨by rfl, ?_⟩) (by assumption) ?_
        rotate_left 1
        · (intro w hSw; (try dsimp only at hSw); go_simp) <;> with_reducible rfl
        try simp only [Act.put, List.getElem_toArray, List.getElem_cons_zero, List.getElem_cons_succ, List.setIfInBounds_toArray, List.set_cons_zero, List.set_cons_succ]
        refine wpAnyH_done (by kernel_rfl) ?_ _
        go_wp2_with fail
        go_ret2
        exact ⟨HCB.out.trans' (((Ch.refl (fun _ => False) _).drew).trans' hN6), .inr ⟨by rw [HOKJ.out, show rightB (k, l) fl = false from by rw [← HKD.out]; exact HRB.out]; rfl, rfl⟩⟩
      · rcases Nat.eq_zero_or_pos j with hj0 | hj0
        · subst hj0
          refine wp_region_held_drew (S := (fun w' => w'.cell? ⟨bx, 0, none⟩ = some (.string kb) ∧ w'.cell? ⟨bx, 1, none⟩ = some (.slice A' ln c'))) (by kernel_rfl) (⟨x0, x1⟩) (fun hHeld => ?_)
          refine wpAnyH_take (i := 0) (v := ?_) rfl (by kernel_rfl) (by kernel_rfl) (by kernel_rfl) (fun _ _ _ h => h) (Or.inl ⟨by rfl, ?_⟩) (by assumption) ?_
          rotate_left 1
          · (intro w hSw; (try dsimp only at hSw); go_simp) <;> with_reducible rfl
          try simp only [Act.put, List.getElem_toArray, List.getElem_cons_zero, List.setIfInBounds_toArray, List.set_cons_zero, List.set_cons_succ]
          refine wpAnyH_take (i := 1) (v := ?_) rfl (by kernel_rfl) (by kernel_rfl) (by kernel_rfl) (fun _ _ _ h => h) (Or.inl ⟨by rfl, ?_⟩) (by assumption) ?_
          rotate_left 1
          · (intro w hSw; (try dsimp only at hSw); go_simp) <;> with_reducible rfl
          try simp only [Act.put, List.getElem_toArray, List.getElem_cons_zero, List.getElem_cons_succ, List.setIfInBounds_toArray, List.set_cons_zero, List.set_cons_succ]
          refine wpAnyH_ready (rs := [2]) (by kernel_rfl) (by simp) ?_
          refine AllReadyH.cons rfl (fun K hK => ?_) AllReadyH.nil
          go_simp
          go_at_call 32
          refine HR.out.mono ?_
          rintro e w6 ⟨rfl, hN6⟩
          have y0 := new_cell hN6 (show wb.drew.cell? ⟨bx, 0, none⟩ = some (.string kb) from x0)
          have y1 := new_cell hN6 (show wb.drew.cell? ⟨bx, 1, none⟩ = some (.slice A' ln c') from x1)
          dsimp only
          refine hK.out _ _ (⟨y0, y1⟩) (fun hHeld2 => ?_)
          clear hK K hHeld
          try simp only [Act.put, List.getElem_toArray, List.getElem_cons_zero, List.getElem_cons_succ, List.setIfInBounds_toArray, List.set_cons_zero, List.set_cons_succ]
          refine wpAnyH_take (i := 3) (v := ?_) rfl (by kernel_rfl) (by kernel_rfl) (by kernel_rfl) (fun _ _ _ h => h) (Or.inl ⟨by rfl, ?_⟩) (by assumption) ?_
          rotate_left 1
          · (intro w hSw; (try dsimp only at hSw); go_simp) <;> with_reducible rfl
          try simp only [Act.put, List.getElem_toArray, List.getElem_cons_zero, List.getElem_cons_succ, List.setIfInBounds_toArray, List.set_cons_zero, List.set_cons_succ]
          refine wpAnyH_take (i := 4) (v := ?_) rfl (by kernel_rfl) (by kernel_rfl) (by kernel_rfl) (fun _ _ _ h => h) (Or.inl ⟨by rfl, ?_⟩) (by assumption) ?_
          rotate_left 1
          · (intro w hSw; (try dsimp only at hSw); go_simp) <;> with_reducible rfl
          try simp only [Act.put, List.getElem_toArray, List.getElem_cons_zero, List.getElem_cons_succ, List.setIfInBounds_toArray, List.set_cons_zero, List.set_cons_succ]
          refine wpAnyH_take (i := 5) (v := ?_) rfl (by kernel_rfl) (by kernel_rfl) (by kernel_rfl) (fun _ _ _ h => h) (Or.inl ⟨by rfl, ?_⟩) (by assumption) ?_
          rotate_left 1
          · (intro w hSw; (try dsimp only at hSw); go_simp) <;> with_reducible rfl
          try simp only [Act.put, List.getElem_toArray, List.getElem_cons_zero, List.getElem_cons_succ, List.setIfInBounds_toArray, List.set_cons_zero, List.set_cons_succ]
          refine wpAnyH_take (i := 6) (v := ?_) rfl (by kernel_rfl) (by kernel_rfl) (by kernel_rfl) (fun _ _ _ h => h) (Or.inl ⟨by rfl, ?_⟩) (by assumption) ?_
          rotate_left 1
          · (intro w hSw; (try dsimp only at hSw); go_simp) <;> with_reducible rfl
          try simp only [Act.put, List.getElem_toArray, List.getElem_cons_zero, List.getElem_cons_succ, List.setIfInBounds_toArray, List.set_cons_zero, List.set_cons_succ]
          refine wpAnyH_take (i := 7) (v := ?_) rfl (by kernel_rfl) (by kernel_rfl) (by kernel_rfl) (fun _ _ _ h => h) (Or.inl ⟨by rfl, ?_⟩) (by assumption) ?_
          rotate_left 1
          · (intro w hSw; (try dsimp only at hSw); go_simp) <;> with_reducible rfl
          try simp only [Act.put, List.getElem_toArray, List.getElem_cons_zero, List.getElem_cons_succ, List.setIfInBounds_toArray, List.set_cons_zero, List.set_cons_succ]
          refine wpAnyH_take (i := 8) (v := undef) rfl (by kernel_rfl) (by kernel_rfl) (by kernel_rfl) (fun _ _ _ h => h) (Or.inr ⟨by rfl, rfl⟩) (by assumption) ?_
          try simp only [Act.put, List.getElem_toArray, List.getElem_cons_zero, List.getElem_cons_succ, List.setIfInBounds_toArray, List.set_cons_zero, List.set_cons_succ]
          refine wpAnyH_take (i := 9) (v := undef) rfl (by kernel_rfl) (by kernel_rfl) (by kernel_rfl) (fun _ _ _ h => h) (Or.inr ⟨by rfl, rfl⟩) (by assumption) ?_
          try simp only [Act.put, List.getElem_toArray, List.getElem_cons_zero, List.getElem_cons_succ, List.setIfInBounds_toArray, List.set_cons_zero, List.set_cons_succ]
          refine wpAnyH_take (i := 10) (v := undef) rfl (by kernel_rfl) (by kernel_rfl) (by kernel_rfl) (fun _ _ _ h => h) (Or.inr ⟨by rfl, rfl⟩) (by assumption) ?_
          try simp only [Act.put, List.getElem_toArray, List.getElem_cons_zero, List.getElem_cons_succ, List.setIfInBounds_toArray, List.set_cons_zero, List.set_cons_succ]
          refine wpAnyH_take (i := 11) (v := undef) rfl (by kernel_rfl) (by kernel_rfl) (by kernel_rfl) (fun _ _ _ h => h) (Or.inr ⟨by rfl, rfl⟩) (by assumption) ?_
          try simp only [Act.put, List.getElem_toArray, List.getElem_cons_zero, List.getElem_cons_succ, List.setIfInBounds_toArray, List.set_cons_zero, List.set_cons_succ]
          refine wpAnyH_take (i := 12) (v := undef) rfl (by kernel_rfl) (by kernel_rfl) (by kernel_rfl) (fun _ _ _ h => h) (Or.inr ⟨by rfl, rfl⟩) (by assumption) ?_
          try simp only [Act.put, List.getElem_toArray, List.getElem_cons_zero, List.getElem_cons_succ, List.setIfInBounds_toArray, List.set_cons_zero, List.set_cons_succ]
          refine wpAnyH_take (i := 13) (v := undef) rfl (by kernel_rfl) (by kernel_rfl) (by kernel_rfl) (fun _ _ _ h => h) (Or.inr ⟨by rfl, rfl⟩) (by assumption) ?_
          try simp only [Act.put, List.getElem_toArray, List.getElem_cons_zero, List.getElem_cons_succ, List.setIfInBounds_toArray, List.set_cons_zero, List.set_cons_succ]
          refine wpAnyH_take (i := 14) (v := undef) rfl (by kernel_rfl) (by kernel_rfl) (by kernel_rfl) (fun _ _ _ h => h) (Or.inr ⟨by rfl, rfl⟩) (by assumption) ?_
          try simp only [Act.put, List.getElem_toArray, List.getElem_cons_zero, List.getElem_cons_succ, List.setIfInBounds_toArray, List.set_cons_zero, List.set_cons_succ]
          refine wpAnyH_take (i := 15) (v := undef) rfl (by kernel_rfl) (by kernel_rfl) (by kernel_rfl) (fun _ _ _ h => h) (Or.inr ⟨by rfl, rfl⟩) (by assumption) ?_
          try simp only [Act.put, List.getElem_toArray, List.getElem_cons_zero, List.getElem_cons_succ, List.setIfInBounds_toArray, List.set_cons_zero, List.set_cons_succ]
          refine wpAnyH_take (i := 16) (v := undef) rfl (by kernel_rfl) (by kernel_rfl) (by kernel_rfl) (fun _ _ _ h => h) (Or.inr ⟨by rfl, rfl⟩) (by assumption) ?_
          try simp only [Act.put, List.getElem_toArray, List.getElem_cons_zero, List.getElem_cons_succ, List.setIfInBounds_toArray, List.set_cons_zero, List.set_cons_succ]
          refine wpAnyH_take (i := 17) (v := ?_) rfl (by kernel_rfl) (by kernel_rfl) (by kernel_rfl) (fun _ _ _ h => h) (Or.inl ⟨by rfl, ?_⟩) (by assumption) ?_
          rotate_left 1
          · (intro w hSw; (try dsimp only at hSw); go_simp) <;> with_reducible rfl
          try simp only [Act.put, List.getElem_toArray, List.getElem_cons_zero, List.getElem_cons_succ, List.setIfInBounds_toArray, List.set_cons_zero, List.set_cons_succ]
          refine wpAnyH_take (i := 18) (v := ?_) rfl (by kernel_rfl) (by kernel_rfl) (by kernel_rfl) (fun _ _ _ h => h) (Or.inl ⟨by rfl, ?_⟩) (by assumption) ?_
          rotate_left 1
          · (intro w hSw; (try dsimp only at hSw); go_simp) <;> with_reducible rfl
          try simp only [Act.put, List.getElem_toArray, List.getElem_cons_zero, List.getElem_cons_succ, List.setIfInBounds_toArray, List.set_cons_zero, List.set_cons_succ]
          refine wpAnyH_done (by kernel_rfl) ?_ _
          have HW6 := Lib.hid (show NewW wb w6 from ((Ch.refl (fun _ => False) _).drew).trans' hN6)
          have HC6 := Lib.hid (show NewW w w6 from Ch.trans' HCB.out HW6.out)
          have HM6 := Lib.hid (HMB.out.new_ HW6.out)
          have HRF := Lib.hid (right_facts HRB.out)
          have hlne : 0 < ln := by rw [← HLN.out]; exact List.length_pos_iff.2 HRF.out.2.2.2.1
          obtain ⟨lk, rfl⟩ : ∃ lk, ln = lk + 1 := ⟨ln - 1, by omega⟩
          obtain ⟨lv, hlv⟩ := some_of_lt (L := l) (i := lk) (by have := HLN.out; omega)
          obtain ⟨g', off', rfl, q0, _, _⟩ := HRV.out.at_ hlv
          have HLT := Lib.hid (show lastT l = lv.t from by unfold lastT; rw [List.getLast?_eq_getElem?, HLN.out, Nat.add_sub_cancel, hlv])
          have hg' : g' < w.heap.size := block_lt_of_cell q0
          obtain ⟨lt, lva, lha⟩ := lv
          simp only at q0 HLT
          have HQ0 := Lib.hid q0
          have HLL2 := HLL.out
          have hclo : ∀ w', Ch (fun _ => False) w6 w' → Calls Try.prog 28 #[.slice (some ⟨g', off', none⟩) (lk + 1) c'] w' fun e w'' => ∃ v', e = .returned v' ∧ w''.ownsRow w6.heap.size 66 3 v' (lk + 1) (flatV l) ∧ NewW w6 w'' := by
            intro w' hc
            have hcl := clone_some g' off' c' l w' (by have := HLN.out; omega) (fun i v hv => by
              obtain ⟨g2, off2, hA, a⟩ := (HRV.out.new_ (Ch.trans' HC6.out hc)).at_ hv
              injection hA with hA
              injection hA with hA1 hA2
              subst hA1 hA2
              exact a)
            rw [HLN.out] at hcl
            exact hcl.mono fun e w'' ⟨v', h1, h2, h3⟩ => ⟨v', h1, own_mono h2 (Ch.size hc), Ch.trans' hc (Ch.of_below h3 (fun k hk _ => hk))⟩
          have HCL := Lib.hid hclo
          have hkey := WideMaps.keyOf_string_mk Try.underlying9 HKM.out
          have m0 := HM6.out.c0
          have hbx6 := BX.out.ch HW6.out (fun h => h)
          have HBX6 := Lib.hid hbx6
          have HMX := Lib.hid (fun w' (hc : NewW w6 w') => (HM6.out.new_ hc))
          clear hclo q0 hlv hlne x0 x1  hN6 hbx6
          obtain ⟨LA, hLA⟩ : ∃ LA, (fromS (cs.take (0)) fl).last = LA := ⟨_, rfl⟩
          obtain ⟨MX, hMX⟩ : ∃ MX, max LA lt = MX := ⟨_, rfl⟩
          have HLA := Lib.hid hLA
          have hw3 : IntKind.i64.wrap (((lk + 1 : Nat) : Int) - 1) = (lk : Int) := by rw [show (((lk + 1 : Nat) : Int) - 1) = lk by omega]; exact IntWalk.i64_in _ (by omega)
          have hw4 : IntKind.i64.wrap ((lk : Int) + 1 - 1) = (lk : Int) := by rw [Int.add_sub_cancel]; exact IntWalk.i64_in _ (by omega)
          have hw5 : IntKind.i64.wrap (lk : Int) = (lk : Int) := IntWalk.i64_in _ (by omega)
          have hlkI : (lk : Int) < ((lk + 1 : Nat) : Int) := by omega
          have hlk0 : (0 : Int) ≤ (lk : Int) := by omega
          clear hLA
          go_wp2_with fail
          go_region_held3 (fun w' => w'.cell? ⟨w.heap.size + 1, 0, none⟩ = some (.map (some w.heap.size)) ∧ w'.cell? ⟨bx, 0, none⟩ = some (.string kb) ∧ w'.cell? ⟨bx, 1, none⟩ = some (.slice (some ⟨g', off', none⟩) (lk + 1) c')) (first | exact ⟨m0, y0, y1⟩ | exact ⟨mc, u0, u1⟩ | exact ⟨mc8, u08, u18⟩)
            (first
              | (go_at_call 28
                 refine (HCL.out _ (by repeat (first | with_reducible exact Ch.refl _ _ | with_reducible refine Ch.drew ?_))).mono ?_
                 rintro e wc ⟨v7, rfl, ho7, hN7⟩
                 have hM7 := HMX.out _ hN7
                 obtain ⟨w8, hrun8, hown8, hg8⟩ := hM7.map.update keyed9 Try.underlying61 (by unfold maxLen; omega) hkey (val := v7) (d := .held v7) (ps := []) rfl
                 have mc := hM7.c0
                 have hb7 := HBX6.out.ch hN7 (fun h => h)
                 have u0 : wc.cell? ⟨bx, 0, none⟩ = some (.string kb) := (by rw [hb7.cell]; rfl)
                 have u1 : wc.cell? ⟨bx, 1, none⟩ = some (.slice (some ⟨g', off', none⟩) (lk + 1) c') := (by rw [hb7.cell]; rfl)
                 have b8 := hM7.blk.grown hg8 (fun e => hM7.ne (by injection e with e; exact e.symm))
                 have hx8 := hb7.grown hg8 (fun e => map_blk hM7.map hb7 (by injection e with e; exact e.symm))
                 have q8 := (grown_cell hg8 (Nat.lt_of_lt_of_le hg' (Ch.size (Ch.trans' HC6.out hN7))) (fun e => by injection e with e; exact absurd e (Nat.ne_of_lt hg'))).trans (new_cell (Ch.trans' HC6.out hN7) HQ0.out)
                 have mc8 : w8.cell? ⟨w.heap.size + 1, 0, none⟩ = some (.map (some w.heap.size)) := (by rw [b8.cell]; rfl)
                 have u08 : w8.cell? ⟨bx, 0, none⟩ = some (.string kb) := (by rw [hx8.cell]; rfl)
                 have u18 : w8.cell? ⟨bx, 1, none⟩ = some (.slice (some ⟨g', off', none⟩) (lk + 1) c') := (by rw [hx8.cell]; rfl)
                 have HO7 := Lib.hid ho7
                 have HN7 := Lib.hid hN7
                 have HM8 := Lib.hid hown8
                 have HG8 := Lib.hid hg8
                 have HB8 := Lib.hid b8
                 have HX8 := Lib.hid hx8
                 clear ho7 hN7 hM7 hown8 hg8 b8 hx8 hb7))
          clear hrun8 mc u0 u1 m0 y0 y1 hkey mc8 u08
          have m1 : w8.cell? ⟨w.heap.size + 1, 1, none⟩ = some (.int .i64 LA) := by rw [HB8.out.cell, ← HLA.out]; rfl
          have f1 := HB8.out.frozen 1
          go_wp2_with fail
          go_region
          all_goals
            go_wp2_with fail
            have hcm := from_fin HM6.out (k := kb.data.toList) (l := l) (Ch.size HC6.out) HN7.out (by rw [HLN.out]; exact HO7.out) HM8.out HG8.out ((Ch.refl (fun _ => False) w8).drew) HRF.out.2.2.2.1 MX
            have hst : ({ fromS (cs.take (0)) fl with f := updF (fromS (cs.take (0)) fl).f kb.data.toList l, last := MX } : CS) = fromS (cs.take (0 + 1)) fl := by
              rw [show cs.take (0 + 1) = cs.take (0) ++ [(k, l)] from by (have := @List.take_add_one _ cs (0)); rw [HX.out] at this; exact this, fromS_snoc, HKD.out]
              simp only
              rw [HLT.out, HLA.out, hMX]
            rw [hst] at hcm
            refine ⟨⟨0 + 1, by omega, by go_num, ⟨_, _, hcm⟩, ?_, ?_⟩, by simp [intOf]; omega⟩
            · rw [HOK.out, HOKJ.out, show rightB (k, l) fl = true from (by rw [← HKD.out]; exact HRB.out), show befB (prevK cs 0) k = true from rfl, Bool.true_and, Bool.true_and]
            · exact ((show NewW w wc from Ch.trans' HC6.out HN7.out : Ch (fun _ => False) w wc).grown HG8.out (fun g hg => .inr (by injection hg with hg; omega))).drew.setCell (.inr (Nat.le_succ _)) _
        · obtain ⟨j', rfl⟩ : ∃ j', j = j' + 1 := ⟨j - 1, by omega⟩
          obtain ⟨x', hx'⟩ := some_of_lt (L := cs) (i := j') (by have := HNN.out; omega)
          obtain ⟨k', l'⟩ := x'
          obtain ⟨g2, off2, hA2, z0, _⟩ := HH.out.at_ hx'
          injection hA2 with hA2
          injection hA2 with hA2 hA3
          subst hA2 hA3
          obtain ⟨kb', hkb', hkd'⟩ := enc_form k'
          rw [hkb'] at z0
          have p0 := new_cell HCB.out z0
          have HPK := Lib.hid (show befB (prevK cs (j' + 1)) k = decide (k' < k) from by unfold prevK; rw [if_neg (by omega), Nat.add_sub_cancel, hx']; rfl)
          have hlk := less_key kb' kb
          rw [hkd', HKD.out] at hlk
          have hw1 : IntKind.i64.wrap (((j' + 1 : Nat) : Int) - 1) = (j' : Int) := by rw [show (((j' + 1 : Nat) : Int) - 1) = j' by omega]; exact IntWalk.i64_in _ (by omega)
          have hw2 : IntKind.i64.wrap ((j' : Int) + 1 - 1) = (j' : Int) := by rw [Int.add_sub_cancel]; exact IntWalk.i64_in _ (by omega)
          have hw0 : IntKind.i64.wrap (j' : Int) = (j' : Int) := IntWalk.i64_in _ (by omega)
          have hjp : decide ((0 : Int) < ((j' + 1 : Nat) : Int)) = true := by first | (simp; done) | (simp; omega)
          have hjp2 : decide ((0 : Int) < (j' : Int) + 1) = true := by first | (simp; done) | (simp; omega)
          have hjN : (j' : Int) < (NN : Int) := by omega
          have hjN' : j' < NN := by omega
          clear hkb' hkd' z0 hx'
          by_cases hkk : k' < k
          · rw [decide_eq_true hkk] at hlk
            have HPT := Lib.hid (HPK.out.trans (decide_eq_true hkk))
            clear hkk hj0
            refine wp_region_held_drew (S := (fun w' => w'.cell? ⟨bx, 0, none⟩ = some (.string kb) ∧ w'.cell? ⟨bx, 1, none⟩ = some (.slice A' ln c') ∧ w'.cell? ⟨g, off + j' * 2, none⟩ = some (.string kb'))) (by kernel_rfl) (⟨x0, x1, p0⟩) (fun hHeld => ?_)
            refine wpAnyH_take (i := 0) (v := ?_) rfl (by kernel_rfl) (by kernel_rfl) (by kernel_rfl) (fun _ _ _ h => h) (Or.inl ⟨by rfl, ?_⟩) (by assumption) ?_
            rotate_left 1
            · (intro w hSw; (try dsimp only at hSw); go_simp) <;> with_reducible rfl
            try simp only [Act.put, List.getElem_toArray, List.getElem_cons_zero, List.setIfInBounds_toArray, List.set_cons_zero, List.set_cons_succ]
            refine wpAnyH_take (i := 1) (v := ?_) rfl (by kernel_rfl) (by kernel_rfl) (by kernel_rfl) (fun _ _ _ h => h) (Or.inl ⟨by rfl, ?_⟩) (by assumption) ?_
            rotate_left 1
            · (intro w hSw; (try dsimp only at hSw); go_simp) <;> with_reducible rfl
            try simp only [Act.put, List.getElem_toArray, List.getElem_cons_zero, List.getElem_cons_succ, List.setIfInBounds_toArray, List.set_cons_zero, List.set_cons_succ]
            refine wpAnyH_ready (rs := [2]) (by kernel_rfl) (by simp) ?_
            refine AllReadyH.cons rfl (fun K hK => ?_) AllReadyH.nil
            go_simp
            go_at_call 32
            refine HR.out.mono ?_
            rintro e w6 ⟨rfl, hN6⟩
            have y0 := new_cell hN6 (show wb.drew.cell? ⟨bx, 0, none⟩ = some (.string kb) from x0)
            have y1 := new_cell hN6 (show wb.drew.cell? ⟨bx, 1, none⟩ = some (.slice A' ln c') from x1)
            have y2 := new_cell hN6 (show wb.drew.cell? ⟨g, off + j' * 2, none⟩ = some (.string kb') from p0)
            dsimp only
            refine hK.out _ _ (⟨y0, y1, y2⟩) (fun hHeld2 => ?_)
            clear hK K hHeld
            try simp only [Act.put, List.getElem_toArray, List.getElem_cons_zero, List.getElem_cons_succ, List.setIfInBounds_toArray, List.set_cons_zero, List.set_cons_succ]
            refine wpAnyH_take (i := 3) (v := ?_) rfl (by kernel_rfl) (by kernel_rfl) (by kernel_rfl) (fun _ _ _ h => h) (Or.inl ⟨by rfl, ?_⟩) (by assumption) ?_
            rotate_left 1
            · (intro w hSw; (try dsimp only at hSw); go_simp) <;> with_reducible rfl
            try simp only [Act.put, List.getElem_toArray, List.getElem_cons_zero, List.getElem_cons_succ, List.setIfInBounds_toArray, List.set_cons_zero, List.set_cons_succ]
            refine wpAnyH_take (i := 4) (v := ?_) rfl (by kernel_rfl) (by kernel_rfl) (by kernel_rfl) (fun _ _ _ h => h) (Or.inl ⟨by rfl, ?_⟩) (by assumption) ?_
            rotate_left 1
            · (intro w hSw; (try dsimp only at hSw); go_simp) <;> with_reducible rfl
            try simp only [Act.put, List.getElem_toArray, List.getElem_cons_zero, List.getElem_cons_succ, List.setIfInBounds_toArray, List.set_cons_zero, List.set_cons_succ]
            refine wpAnyH_take (i := 5) (v := ?_) rfl (by kernel_rfl) (by kernel_rfl) (by kernel_rfl) (fun _ _ _ h => h) (Or.inl ⟨by rfl, ?_⟩) (by assumption) ?_
            rotate_left 1
            · (intro w hSw; (try dsimp only at hSw); go_simp) <;> with_reducible rfl
            try simp only [Act.put, List.getElem_toArray, List.getElem_cons_zero, List.getElem_cons_succ, List.setIfInBounds_toArray, List.set_cons_zero, List.set_cons_succ]
            refine wpAnyH_take (i := 6) (v := ?_) rfl (by kernel_rfl) (by kernel_rfl) (by kernel_rfl) (fun _ _ _ h => h) (Or.inl ⟨by rfl, ?_⟩) (by assumption) ?_
            rotate_left 1
            · (intro w hSw; (try dsimp only at hSw); go_simp) <;> with_reducible rfl
            try simp only [Act.put, List.getElem_toArray, List.getElem_cons_zero, List.getElem_cons_succ, List.setIfInBounds_toArray, List.set_cons_zero, List.set_cons_succ]
            refine wpAnyH_take (i := 7) (v := ?_) rfl (by kernel_rfl) (by kernel_rfl) (by kernel_rfl) (fun _ _ _ h => h) (Or.inl ⟨by rfl, ?_⟩) (by assumption) ?_
            rotate_left 1
            · (intro w hSw; (try dsimp only at hSw); go_simp) <;> with_reducible rfl
            try simp only [Act.put, List.getElem_toArray, List.getElem_cons_zero, List.getElem_cons_succ, List.setIfInBounds_toArray, List.set_cons_zero, List.set_cons_succ]
            refine wpAnyH_take (i := 8) (v := ?_) rfl (by kernel_rfl) (by kernel_rfl) (by kernel_rfl) (fun _ _ _ h => h) (Or.inl ⟨by rfl, ?_⟩) (by assumption) ?_
            rotate_left 1
            · (intro w hSw; (try dsimp only at hSw); go_simp) <;> with_reducible rfl
            try simp only [Act.put, List.getElem_toArray, List.getElem_cons_zero, List.getElem_cons_succ, List.setIfInBounds_toArray, List.set_cons_zero, List.set_cons_succ]
            refine wpAnyH_take (i := 9) (v := ?_) rfl (by kernel_rfl) (by kernel_rfl) (by kernel_rfl) (fun _ _ _ h => h) (Or.inl ⟨by rfl, ?_⟩) (by assumption) ?_
            rotate_left 1
            · (intro w hSw; (try dsimp only at hSw); go_simp) <;> with_reducible rfl
            try simp only [Act.put, List.getElem_toArray, List.getElem_cons_zero, List.getElem_cons_succ, List.setIfInBounds_toArray, List.set_cons_zero, List.set_cons_succ]
            refine wpAnyH_take (i := 10) (v := ?_) rfl (by kernel_rfl) (by kernel_rfl) (by kernel_rfl) (fun _ _ _ h => h) (Or.inl ⟨by rfl, ?_⟩) (by assumption) ?_
            rotate_left 1
            · (intro w hSw; (try dsimp only at hSw); go_simp) <;> with_reducible rfl
            try simp only [Act.put, List.getElem_toArray, List.getElem_cons_zero, List.getElem_cons_succ, List.setIfInBounds_toArray, List.set_cons_zero, List.set_cons_succ]
            refine wpAnyH_take (i := 11) (v := ?_) rfl (by kernel_rfl) (by kernel_rfl) (by kernel_rfl) (fun _ _ _ h => h) (Or.inl ⟨by rfl, ?_⟩) (by assumption) ?_
            rotate_left 1
            · (intro w hSw; (try dsimp only at hSw); go_simp) <;> with_reducible rfl
            try simp only [Act.put, List.getElem_toArray, List.getElem_cons_zero, List.getElem_cons_succ, List.setIfInBounds_toArray, List.set_cons_zero, List.set_cons_succ]
            refine wpAnyH_take (i := 12) (v := ?_) rfl (by kernel_rfl) (by kernel_rfl) (by kernel_rfl) (fun _ _ _ h => h) (Or.inl ⟨by rfl, ?_⟩) (by assumption) ?_
            rotate_left 1
            · (intro w hSw; (try dsimp only at hSw); go_simp) <;> with_reducible rfl
            try simp only [Act.put, List.getElem_toArray, List.getElem_cons_zero, List.getElem_cons_succ, List.setIfInBounds_toArray, List.set_cons_zero, List.set_cons_succ]
            refine wpAnyH_take (i := 13) (v := ?_) rfl (by kernel_rfl) (by kernel_rfl) (by kernel_rfl) (fun _ _ _ h => h) (Or.inl ⟨by rfl, ?_⟩) (by assumption) ?_
            rotate_left 1
            · (intro w hSw; (try dsimp only at hSw); go_simp) <;> with_reducible rfl
            try simp only [Act.put, List.getElem_toArray, List.getElem_cons_zero, List.getElem_cons_succ, List.setIfInBounds_toArray, List.set_cons_zero, List.set_cons_succ]
            refine wpAnyH_take (i := 14) (v := ?_) rfl (by kernel_rfl) (by kernel_rfl) (by kernel_rfl) (fun _ _ _ h => h) (Or.inl ⟨by rfl, ?_⟩) (by assumption) ?_
            rotate_left 1
            · (intro w hSw; (try dsimp only at hSw); go_simp) <;> with_reducible rfl
            try simp only [Act.put, List.getElem_toArray, List.getElem_cons_zero, List.getElem_cons_succ, List.setIfInBounds_toArray, List.set_cons_zero, List.set_cons_succ]
            refine wpAnyH_take (i := 15) (v := ?_) rfl (by kernel_rfl) (by kernel_rfl) (by kernel_rfl) (fun _ _ _ h => h) (Or.inl ⟨by rfl, ?_⟩) (by assumption) ?_
            rotate_left 1
            · (intro w hSw; (try dsimp only at hSw); go_simp) <;> with_reducible rfl
            try simp only [Act.put, List.getElem_toArray, List.getElem_cons_zero, List.getElem_cons_succ, List.setIfInBounds_toArray, List.set_cons_zero, List.set_cons_succ]
            refine wpAnyH_take (i := 16) (v := ?_) rfl (by kernel_rfl) (by kernel_rfl) (by kernel_rfl) (fun _ _ _ h => h) (Or.inl ⟨by rfl, ?_⟩) (by assumption) ?_
            rotate_left 1
            · (intro w hSw; (try dsimp only at hSw); go_simp) <;> with_reducible rfl
            try simp only [Act.put, List.getElem_toArray, List.getElem_cons_zero, List.getElem_cons_succ, List.setIfInBounds_toArray, List.set_cons_zero, List.set_cons_succ]
            refine wpAnyH_take (i := 17) (v := ?_) rfl (by kernel_rfl) (by kernel_rfl) (by kernel_rfl) (fun _ _ _ h => h) (Or.inl ⟨by rfl, ?_⟩) (by assumption) ?_
            rotate_left 1
            · (intro w hSw; (try dsimp only at hSw); go_simp) <;> with_reducible rfl
            try simp only [Act.put, List.getElem_toArray, List.getElem_cons_zero, List.getElem_cons_succ, List.setIfInBounds_toArray, List.set_cons_zero, List.set_cons_succ]
            refine wpAnyH_take (i := 18) (v := ?_) rfl (by kernel_rfl) (by kernel_rfl) (by kernel_rfl) (fun _ _ _ h => h) (Or.inl ⟨by rfl, ?_⟩) (by assumption) ?_
            rotate_left 1
            · (intro w hSw; (try dsimp only at hSw); go_simp) <;> with_reducible rfl
            try simp only [Act.put, List.getElem_toArray, List.getElem_cons_zero, List.getElem_cons_succ, List.setIfInBounds_toArray, List.set_cons_zero, List.set_cons_succ]
            refine wpAnyH_done (by kernel_rfl) ?_ _
            have HW6 := Lib.hid (show NewW wb w6 from ((Ch.refl (fun _ => False) _).drew).trans' hN6)
            have HC6 := Lib.hid (show NewW w w6 from Ch.trans' HCB.out HW6.out)
            have HM6 := Lib.hid (HMB.out.new_ HW6.out)
            have HRF := Lib.hid (right_facts HRB.out)
            have hlne : 0 < ln := by rw [← HLN.out]; exact List.length_pos_iff.2 HRF.out.2.2.2.1
            obtain ⟨lk, rfl⟩ : ∃ lk, ln = lk + 1 := ⟨ln - 1, by omega⟩
            obtain ⟨lv, hlv⟩ := some_of_lt (L := l) (i := lk) (by have := HLN.out; omega)
            obtain ⟨g', off', rfl, q0, _, _⟩ := HRV.out.at_ hlv
            have HLT := Lib.hid (show lastT l = lv.t from by unfold lastT; rw [List.getLast?_eq_getElem?, HLN.out, Nat.add_sub_cancel, hlv])
            have hg' : g' < w.heap.size := block_lt_of_cell q0
            obtain ⟨lt, lva, lha⟩ := lv
            simp only at q0 HLT
            have HQ0 := Lib.hid q0
            have HLL2 := HLL.out
            have hclo : ∀ w', Ch (fun _ => False) w6 w' → Calls Try.prog 28 #[.slice (some ⟨g', off', none⟩) (lk + 1) c'] w' fun e w'' => ∃ v', e = .returned v' ∧ w''.ownsRow w6.heap.size 66 3 v' (lk + 1) (flatV l) ∧ NewW w6 w'' := by
              intro w' hc
              have hcl := clone_some g' off' c' l w' (by have := HLN.out; omega) (fun i v hv => by
                obtain ⟨g2, off2, hA, a⟩ := (HRV.out.new_ (Ch.trans' HC6.out hc)).at_ hv
                injection hA with hA
                injection hA with hA1 hA2
                subst hA1 hA2
                exact a)
              rw [HLN.out] at hcl
              exact hcl.mono fun e w'' ⟨v', h1, h2, h3⟩ => ⟨v', h1, own_mono h2 (Ch.size hc), Ch.trans' hc (Ch.of_below h3 (fun k hk _ => hk))⟩
            have HCL := Lib.hid hclo
            have hkey := WideMaps.keyOf_string_mk Try.underlying9 HKM.out
            have m0 := HM6.out.c0
            have hbx6 := BX.out.ch HW6.out (fun h => h)
            have HBX6 := Lib.hid hbx6
            have HMX := Lib.hid (fun w' (hc : NewW w6 w') => (HM6.out.new_ hc))
            clear hclo q0 hlv hlne x0 x1 p0 y2 hN6 hbx6
            obtain ⟨LA, hLA⟩ : ∃ LA, (fromS (cs.take (j' + 1)) fl).last = LA := ⟨_, rfl⟩
            obtain ⟨MX, hMX⟩ : ∃ MX, max LA lt = MX := ⟨_, rfl⟩
            have HLA := Lib.hid hLA
            have hw3 : IntKind.i64.wrap (((lk + 1 : Nat) : Int) - 1) = (lk : Int) := by rw [show (((lk + 1 : Nat) : Int) - 1) = lk by omega]; exact IntWalk.i64_in _ (by omega)
            have hw4 : IntKind.i64.wrap ((lk : Int) + 1 - 1) = (lk : Int) := by rw [Int.add_sub_cancel]; exact IntWalk.i64_in _ (by omega)
            have hw5 : IntKind.i64.wrap (lk : Int) = (lk : Int) := IntWalk.i64_in _ (by omega)
            have hlkI : (lk : Int) < ((lk + 1 : Nat) : Int) := by omega
            have hlk0 : (0 : Int) ≤ (lk : Int) := by omega
            clear hLA
            go_wp2_with fail
            go_region_held3 (fun w' => w'.cell? ⟨w.heap.size + 1, 0, none⟩ = some (.map (some w.heap.size)) ∧ w'.cell? ⟨bx, 0, none⟩ = some (.string kb) ∧ w'.cell? ⟨bx, 1, none⟩ = some (.slice (some ⟨g', off', none⟩) (lk + 1) c')) (first | exact ⟨m0, y0, y1⟩ | exact ⟨mc, u0, u1⟩ | exact ⟨mc8, u08, u18⟩)
              (first
                | (go_at_call 28
                   refine (HCL.out _ (by repeat (first | with_reducible exact Ch.refl _ _ | with_reducible refine Ch.drew ?_))).mono ?_
                   rintro e wc ⟨v7, rfl, ho7, hN7⟩
                   have hM7 := HMX.out _ hN7
                   obtain ⟨w8, hrun8, hown8, hg8⟩ := hM7.map.update keyed9 Try.underlying61 (by unfold maxLen; omega) hkey (val := v7) (d := .held v7) (ps := []) rfl
                   have mc := hM7.c0
                   have hb7 := HBX6.out.ch hN7 (fun h => h)
                   have u0 : wc.cell? ⟨bx, 0, none⟩ = some (.string kb) := (by rw [hb7.cell]; rfl)
                   have u1 : wc.cell? ⟨bx, 1, none⟩ = some (.slice (some ⟨g', off', none⟩) (lk + 1) c') := (by rw [hb7.cell]; rfl)
                   have b8 := hM7.blk.grown hg8 (fun e => hM7.ne (by injection e with e; exact e.symm))
                   have hx8 := hb7.grown hg8 (fun e => map_blk hM7.map hb7 (by injection e with e; exact e.symm))
                   have q8 := (grown_cell hg8 (Nat.lt_of_lt_of_le hg' (Ch.size (Ch.trans' HC6.out hN7))) (fun e => by injection e with e; exact absurd e (Nat.ne_of_lt hg'))).trans (new_cell (Ch.trans' HC6.out hN7) HQ0.out)
                   have mc8 : w8.cell? ⟨w.heap.size + 1, 0, none⟩ = some (.map (some w.heap.size)) := (by rw [b8.cell]; rfl)
                   have u08 : w8.cell? ⟨bx, 0, none⟩ = some (.string kb) := (by rw [hx8.cell]; rfl)
                   have u18 : w8.cell? ⟨bx, 1, none⟩ = some (.slice (some ⟨g', off', none⟩) (lk + 1) c') := (by rw [hx8.cell]; rfl)
                   have HO7 := Lib.hid ho7
                   have HN7 := Lib.hid hN7
                   have HM8 := Lib.hid hown8
                   have HG8 := Lib.hid hg8
                   have HB8 := Lib.hid b8
                   have HX8 := Lib.hid hx8
                   clear ho7 hN7 hM7 hown8 hg8 b8 hx8 hb7))
            clear hrun8 mc u0 u1 m0 y0 y1 hkey mc8 u08
            have m1 : w8.cell? ⟨w.heap.size + 1, 1, none⟩ = some (.int .i64 LA) := by rw [HB8.out.cell, ← HLA.out]; rfl
            have f1 := HB8.out.frozen 1
            go_wp2_with fail
            go_region
            all_goals
              go_wp2_with fail
              have hcm := from_fin HM6.out (k := kb.data.toList) (l := l) (Ch.size HC6.out) HN7.out (by rw [HLN.out]; exact HO7.out) HM8.out HG8.out ((Ch.refl (fun _ => False) w8).drew) HRF.out.2.2.2.1 MX
              have hst : ({ fromS (cs.take (j' + 1)) fl with f := updF (fromS (cs.take (j' + 1)) fl).f kb.data.toList l, last := MX } : CS) = fromS (cs.take (j' + 1 + 1)) fl := by
                rw [show cs.take (j' + 1 + 1) = cs.take (j' + 1) ++ [(k, l)] from by (have := @List.take_add_one _ cs (j' + 1)); rw [HX.out] at this; exact this, fromS_snoc, HKD.out]
                simp only
                rw [HLT.out, HLA.out, hMX]
              rw [hst] at hcm
              refine ⟨⟨j' + 1 + 1, by omega, by go_num, ⟨_, _, hcm⟩, ?_, ?_⟩, by simp [intOf]; omega⟩
              · rw [HOK.out, HOKJ.out, show rightB (k, l) fl = true from (by rw [← HKD.out]; exact HRB.out), HPT.out, Bool.true_and, Bool.true_and]
              · exact ((show NewW w wc from Ch.trans' HC6.out HN7.out : Ch (fun _ => False) w wc).grown HG8.out (fun g hg => .inr (by injection hg with hg; omega))).drew.setCell (.inr (Nat.le_succ _)) _
          · rw [decide_eq_false hkk] at hlk
            have HPT := Lib.hid (HPK.out.trans (decide_eq_false hkk))
            clear hkk hj0
            refine wp_region_held_drew (S := (fun w' => w'.cell? ⟨bx, 0, none⟩ = some (.string kb) ∧ w'.cell? ⟨bx, 1, none⟩ = some (.slice A' ln c') ∧ w'.cell? ⟨g, off + j' * 2, none⟩ = some (.string kb'))) (by kernel_rfl) (⟨x0, x1, p0⟩) (fun hHeld => ?_)
            refine wpAnyH_take (i := 0) (v := ?_) rfl (by kernel_rfl) (by kernel_rfl) (by kernel_rfl) (fun _ _ _ h => h) (Or.inl ⟨by rfl, ?_⟩) (by assumption) ?_
            rotate_left 1
            · (intro w hSw; (try dsimp only at hSw); go_simp) <;> with_reducible rfl
            try simp only [Act.put, List.getElem_toArray, List.getElem_cons_zero, List.setIfInBounds_toArray, List.set_cons_zero, List.set_cons_succ]
            refine wpAnyH_take (i := 1) (v := ?_) rfl (by kernel_rfl) (by kernel_rfl) (by kernel_rfl) (fun _ _ _ h => h) (Or.inl ⟨by rfl, ?_⟩) (by assumption) ?_
            rotate_left 1
            · (intro w hSw; (try dsimp only at hSw); go_simp) <;> with_reducible rfl
            try simp only [Act.put, List.getElem_toArray, List.getElem_cons_zero, List.getElem_cons_succ, List.setIfInBounds_toArray, List.set_cons_zero, List.set_cons_succ]
            refine wpAnyH_ready (rs := [2]) (by kernel_rfl) (by simp) ?_
            refine AllReadyH.cons rfl (fun K hK => ?_) AllReadyH.nil
            go_simp
            go_at_call 32
            refine HR.out.mono ?_
            rintro e w6 ⟨rfl, hN6⟩
            have y0 := new_cell hN6 (show wb.drew.cell? ⟨bx, 0, none⟩ = some (.string kb) from x0)
            have y1 := new_cell hN6 (show wb.drew.cell? ⟨bx, 1, none⟩ = some (.slice A' ln c') from x1)
            have y2 := new_cell hN6 (show wb.drew.cell? ⟨g, off + j' * 2, none⟩ = some (.string kb') from p0)
            dsimp only
            refine hK.out _ _ (⟨y0, y1, y2⟩) (fun hHeld2 => ?_)
            clear hK K hHeld
            try simp only [Act.put, List.getElem_toArray, List.getElem_cons_zero, List.getElem_cons_succ, List.setIfInBounds_toArray, List.set_cons_zero, List.set_cons_succ]
            refine wpAnyH_take (i := 3) (v := ?_) rfl (by kernel_rfl) (by kernel_rfl) (by kernel_rfl) (fun _ _ _ h => h) (Or.inl ⟨by rfl, ?_⟩) (by assumption) ?_
            rotate_left 1
            · (intro w hSw; (try dsimp only at hSw); go_simp) <;> with_reducible rfl
            try simp only [Act.put, List.getElem_toArray, List.getElem_cons_zero, List.getElem_cons_succ, List.setIfInBounds_toArray, List.set_cons_zero, List.set_cons_succ]
            refine wpAnyH_take (i := 4) (v := ?_) rfl (by kernel_rfl) (by kernel_rfl) (by kernel_rfl) (fun _ _ _ h => h) (Or.inl ⟨by rfl, ?_⟩) (by assumption) ?_
            rotate_left 1
            · (intro w hSw; (try dsimp only at hSw); go_simp) <;> with_reducible rfl
            try simp only [Act.put, List.getElem_toArray, List.getElem_cons_zero, List.getElem_cons_succ, List.setIfInBounds_toArray, List.set_cons_zero, List.set_cons_succ]
            refine wpAnyH_take (i := 5) (v := ?_) rfl (by kernel_rfl) (by kernel_rfl) (by kernel_rfl) (fun _ _ _ h => h) (Or.inl ⟨by rfl, ?_⟩) (by assumption) ?_
            rotate_left 1
            · (intro w hSw; (try dsimp only at hSw); go_simp) <;> with_reducible rfl
            try simp only [Act.put, List.getElem_toArray, List.getElem_cons_zero, List.getElem_cons_succ, List.setIfInBounds_toArray, List.set_cons_zero, List.set_cons_succ]
            refine wpAnyH_take (i := 6) (v := ?_) rfl (by kernel_rfl) (by kernel_rfl) (by kernel_rfl) (fun _ _ _ h => h) (Or.inl ⟨by rfl, ?_⟩) (by assumption) ?_
            rotate_left 1
            · (intro w hSw; (try dsimp only at hSw); go_simp) <;> with_reducible rfl
            try simp only [Act.put, List.getElem_toArray, List.getElem_cons_zero, List.getElem_cons_succ, List.setIfInBounds_toArray, List.set_cons_zero, List.set_cons_succ]
            refine wpAnyH_take (i := 7) (v := ?_) rfl (by kernel_rfl) (by kernel_rfl) (by kernel_rfl) (fun _ _ _ h => h) (Or.inl ⟨by rfl, ?_⟩) (by assumption) ?_
            rotate_left 1
            · (intro w hSw; (try dsimp only at hSw); go_simp) <;> with_reducible rfl
            try simp only [Act.put, List.getElem_toArray, List.getElem_cons_zero, List.getElem_cons_succ, List.setIfInBounds_toArray, List.set_cons_zero, List.set_cons_succ]
            refine wpAnyH_take (i := 8) (v := ?_) rfl (by kernel_rfl) (by kernel_rfl) (by kernel_rfl) (fun _ _ _ h => h) (Or.inl ⟨by rfl, ?_⟩) (by assumption) ?_
            rotate_left 1
            · (intro w hSw; (try dsimp only at hSw); go_simp) <;> with_reducible rfl
            try simp only [Act.put, List.getElem_toArray, List.getElem_cons_zero, List.getElem_cons_succ, List.setIfInBounds_toArray, List.set_cons_zero, List.set_cons_succ]
            refine wpAnyH_take (i := 9) (v := ?_) rfl (by kernel_rfl) (by kernel_rfl) (by kernel_rfl) (fun _ _ _ h => h) (Or.inl ⟨by rfl, ?_⟩) (by assumption) ?_
            rotate_left 1
            · (intro w hSw; (try dsimp only at hSw); go_simp) <;> with_reducible rfl
            try simp only [Act.put, List.getElem_toArray, List.getElem_cons_zero, List.getElem_cons_succ, List.setIfInBounds_toArray, List.set_cons_zero, List.set_cons_succ]
            refine wpAnyH_take (i := 10) (v := ?_) rfl (by kernel_rfl) (by kernel_rfl) (by kernel_rfl) (fun _ _ _ h => h) (Or.inl ⟨by rfl, ?_⟩) (by assumption) ?_
            rotate_left 1
            · (intro w hSw; (try dsimp only at hSw); go_simp) <;> with_reducible rfl
            try simp only [Act.put, List.getElem_toArray, List.getElem_cons_zero, List.getElem_cons_succ, List.setIfInBounds_toArray, List.set_cons_zero, List.set_cons_succ]
            refine wpAnyH_take (i := 11) (v := ?_) rfl (by kernel_rfl) (by kernel_rfl) (by kernel_rfl) (fun _ _ _ h => h) (Or.inl ⟨by rfl, ?_⟩) (by assumption) ?_
            rotate_left 1
            · (intro w hSw; (try dsimp only at hSw); go_simp) <;> with_reducible rfl
            try simp only [Act.put, List.getElem_toArray, List.getElem_cons_zero, List.getElem_cons_succ, List.setIfInBounds_toArray, List.set_cons_zero, List.set_cons_succ]
            refine wpAnyH_take (i := 12) (v := ?_) rfl (by kernel_rfl) (by kernel_rfl) (by kernel_rfl) (fun _ _ _ h => h) (Or.inl ⟨by rfl, ?_⟩) (by assumption) ?_
            rotate_left 1
            · (intro w hSw; (try dsimp only at hSw); go_simp) <;> with_reducible rfl
            try simp only [Act.put, List.getElem_toArray, List.getElem_cons_zero, List.getElem_cons_succ, List.setIfInBounds_toArray, List.set_cons_zero, List.set_cons_succ]
            refine wpAnyH_take (i := 13) (v := ?_) rfl (by kernel_rfl) (by kernel_rfl) (by kernel_rfl) (fun _ _ _ h => h) (Or.inl ⟨by rfl, ?_⟩) (by assumption) ?_
            rotate_left 1
            · (intro w hSw; (try dsimp only at hSw); go_simp) <;> with_reducible rfl
            try simp only [Act.put, List.getElem_toArray, List.getElem_cons_zero, List.getElem_cons_succ, List.setIfInBounds_toArray, List.set_cons_zero, List.set_cons_succ]
            refine wpAnyH_take (i := 14) (v := ?_) rfl (by kernel_rfl) (by kernel_rfl) (by kernel_rfl) (fun _ _ _ h => h) (Or.inl ⟨by rfl, ?_⟩) (by assumption) ?_
            rotate_left 1
            · (intro w hSw; (try dsimp only at hSw); go_simp) <;> with_reducible rfl
            try simp only [Act.put, List.getElem_toArray, List.getElem_cons_zero, List.getElem_cons_succ, List.setIfInBounds_toArray, List.set_cons_zero, List.set_cons_succ]
            refine wpAnyH_take (i := 15) (v := ?_) rfl (by kernel_rfl) (by kernel_rfl) (by kernel_rfl) (fun _ _ _ h => h) (Or.inl ⟨by rfl, ?_⟩) (by assumption) ?_
            rotate_left 1
            · (intro w hSw; (try dsimp only at hSw); go_simp) <;> with_reducible rfl
            try simp only [Act.put, List.getElem_toArray, List.getElem_cons_zero, List.getElem_cons_succ, List.setIfInBounds_toArray, List.set_cons_zero, List.set_cons_succ]
            refine wpAnyH_take (i := 16) (v := ?_) rfl (by kernel_rfl) (by kernel_rfl) (by kernel_rfl) (fun _ _ _ h => h) (Or.inl ⟨by rfl, ?_⟩) (by assumption) ?_
            rotate_left 1
            · (intro w hSw; (try dsimp only at hSw); go_simp) <;> with_reducible rfl
            try simp only [Act.put, List.getElem_toArray, List.getElem_cons_zero, List.getElem_cons_succ, List.setIfInBounds_toArray, List.set_cons_zero, List.set_cons_succ]
            refine wpAnyH_take (i := 17) (v := ?_) rfl (by kernel_rfl) (by kernel_rfl) (by kernel_rfl) (fun _ _ _ h => h) (Or.inl ⟨by rfl, ?_⟩) (by assumption) ?_
            rotate_left 1
            · (intro w hSw; (try dsimp only at hSw); go_simp) <;> with_reducible rfl
            try simp only [Act.put, List.getElem_toArray, List.getElem_cons_zero, List.getElem_cons_succ, List.setIfInBounds_toArray, List.set_cons_zero, List.set_cons_succ]
            refine wpAnyH_take (i := 18) (v := ?_) rfl (by kernel_rfl) (by kernel_rfl) (by kernel_rfl) (fun _ _ _ h => h) (Or.inl ⟨by rfl, ?_⟩) (by assumption) ?_
            rotate_left 1
            · (intro w hSw; (try dsimp only at hSw); go_simp) <;> with_reducible rfl
            try simp only [Act.put, List.getElem_toArray, List.getElem_cons_zero, List.getElem_cons_succ, List.setIfInBounds_toArray, List.set_cons_zero, List.set_cons_succ]
            refine wpAnyH_done (by kernel_rfl) ?_ _
            go_wp2_with fail
            go_ret2
            exact ⟨HCB.out.trans' (((Ch.refl (fun _ => False) _).drew).trans' hN6), .inr ⟨by rw [HOKJ.out, show rightB (k, l) fl = true from (by rw [← HKD.out]; exact HRB.out), HPT.out]; rfl, rfl⟩⟩
    · obtain rfl : j = NN := by omega
      rw [← HNN.out, List.drop_length] at hok
      rw [← HNN.out, List.take_length] at hM
      have HM9 := Lib.hid hM
      have HC9 := Lib.hid hC
      have HT := Lib.hid (show OK = true from HOK.out.symm.trans hok)
      rw [HNN.out] at HM9
      clear hM hC hok hlt hj
      go_wp2_with fail
      go_ret2
      exact ⟨HC9.out, .inl ⟨HT.out, rfl, _, _, HM9.out⟩⟩
end Go.Proofs.Ytfcdplfnhjbdnaa
