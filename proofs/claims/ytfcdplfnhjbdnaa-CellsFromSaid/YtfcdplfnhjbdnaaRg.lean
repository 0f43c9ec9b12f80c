/- The plain row's At, next and Trim. -/
import Derived.Test.YtfcdplfnhjbdnaaRf
namespace Go.Proofs.Ytfcdplfnhjbdnaa
open Go.RowKit Go.Maps
set_option linter.unusedVariables false

theorem refAt_next (L : List Was) (K : ByteArray) (m : Int) {j : Nat} {x : Was} (h : L[j]? = some x) : refAt (L.take (j + 1)) K m = if x.key = K ∧ x.t ≤ m then (x.val, x.has) else refAt (L.take j) K m := by
  unfold refAt
  rw [filter_next (fun w : Was => decide (w.key = K) && decide (w.t ≤ m)) L h]
  by_cases e : x.key = K ∧ x.t ≤ m
  · rw [if_pos e, if_pos (by simpa using e), List.getLast?_concat]
  · rw [if_neg e, if_neg (by simpa using e), List.append_nil]
section
variable {w : World} {B rb : Nat} {L : List Was} {v : Value} {last floor : Int}
set_option maxRecDepth 100000 in
set_option maxHeartbeats 4000000 in
theorem rat_any (h : RM w B rb L last floor v) (hL : L.length ≤ 1000000) (K : ByteArray) (m : Int) :
    Calls Try.prog 17 #[.pointer (some ⟨rb, 0, none⟩), .string K, .int .i64 m] w fun e w' => e = .returned (.tuple #[.string (refAt L K m).1, .bool (refAt L K m).2]) ∧ NewW w w' := by
  have c0 := h.c0
  have HH := Lib.hid h
  obtain ⟨A, c, hv⟩ := own_form h.row
  subst hv
  clear h
  go_enter Try.func17, Try.ntmps17
  go_wp2_with fail
  go_loopw [8, 9, 17] (fun vv vh i w' => ∃ j : Nat, j ≤ L.length ∧ i = .int .i64 j ∧ vv = .string (refAt (L.take j) K m).1 ∧ vh = .bool (refAt (L.take j) K m).2 ∧ NewW w w') (fun _ _ i _ => L.length - (intOf i).toNat)
  case atStart => exact ⟨0, by omega, rfl, rfl, rfl, Ch.refl _ _⟩
  case round =>
    obtain ⟨j, hj, rfl, rfl, rfl, hC⟩ := hrel
    by_cases hlt : j < L.length
    · obtain ⟨x, hx⟩ := some_of_lt hlt
      obtain ⟨g, rfl, x0, x1, x2, x3⟩ := (HH.out.new_ hC).at_ hx
      have HRN := Lib.hid (refAt_next L K m hx)
      have hbk := beq_key x.key K
      obtain ⟨xk, xv, xh, xt⟩ := x
      simp only at x0 x1 x2 x3 hbk HRN
      have BX := Blk.new wr 69 #[.string xk, .string xv, .bool xh, .int .i64 xt]
      have hf1 : (wr.alloc (.cells #[.string xk, .string xv, .bool xh, .int .i64 xt] 69)).cell? ⟨wr.heap.size, 1, none⟩ = some (.string xv) := by rw [BX.cell]; rfl
      have hf2 : (wr.alloc (.cells #[.string xk, .string xv, .bool xh, .int .i64 xt] 69)).cell? ⟨wr.heap.size, 2, none⟩ = some (.bool xh) := by rw [BX.cell]; rfl
      have HN := Lib.hid (fun o k => (((hC : Ch (fun _ => False) w wr).alloc o).drewN k : NewW w ((wr.alloc o).drewN k)))
      obtain ⟨vo, hvo⟩ : ∃ vo, refAt (L.take j) K m = vo := ⟨_, rfl⟩
      rw [hvo]
      have HVO := Lib.hid hvo
      clear hx hC c0 BX hvo
      by_cases hk : xk = K
      · rw [decide_eq_true hk] at hbk
        by_cases ht : xt ≤ m
        · have dt : decide (xt ≤ m) = true := by simpa using ht
          have hr := HRN.out
          rw [if_pos ⟨hk, ht⟩] at hr
          have HR := Lib.hid hr
          clear hr HRN
          go_wp2_with fail
          go_quiet (fail)
          go_wp2_with fail
          exact ⟨⟨j + 1, by omega, by go_num, by rw [HR.out], by rw [HR.out], HN.out _ _⟩, by simp [intOf]; omega⟩
        · have dt : decide (xt ≤ m) = false := by simpa using ht
          have hr := HRN.out
          rw [if_neg (fun e => ht e.2), HVO.out] at hr
          have HR := Lib.hid hr
          clear hr HRN
          go_wp2_with fail
          exact ⟨⟨j + 1, by omega, by go_num, by rw [HR.out], by rw [HR.out], HN.out _ 0⟩, by simp [intOf]; omega⟩
      · rw [decide_eq_false hk] at hbk
        have hr := HRN.out
        rw [if_neg (fun e => hk e.1), HVO.out] at hr
        have HR := Lib.hid hr
        clear hr HRN
        go_wp2_with fail
        exact ⟨⟨j + 1, by omega, by go_num, by rw [HR.out], by rw [HR.out], HN.out _ 0⟩, by simp [intOf]; omega⟩
    · obtain rfl : j = L.length := by omega
      have HC := Lib.hid hC
      rw [List.take_length]
      clear hlt hj hC c0
      go_wp2_with fail
      go_ret2
      exact ⟨rfl, HC.out⟩
/-- Is there a later one of the key, not later than the floor? -/
def laterW (m : Int) (x : Was) (r : List Was) : Bool := r.any fun y => decide (y.key = x.key) && decide (y.t ≤ m)
set_option maxRecDepth 100000 in
set_option maxHeartbeats 4000000 in
theorem rnext_any (h : RM w B rb L last floor v) (hL : L.length ≤ 1000000) {i : Nat} {x : Was} (hx : L[i]? = some x) (m : Int) :
    Calls Try.prog 33 #[.pointer (some ⟨rb, 0, none⟩), .int .i64 i, .int .i64 m] w fun e w' => e = .returned (.bool (laterW m x (L.drop (i + 1)))) ∧ NewW w w' := by
  have c0 := h.c0
  have HH := Lib.hid h
  obtain ⟨A, c, hv⟩ := own_form h.row
  subst hv
  have hil := lt_of_some hx
  obtain ⟨g, rfl, y0, y1, y2, y3⟩ := h.at_ hx
  have HY := Lib.hid y0
  obtain ⟨R, hR⟩ : ∃ R, laterW m x (L.drop (i + 1)) = R := ⟨_, rfl⟩
  rw [hR]
  have HR := Lib.hid hR
  clear h hR y0 y1 y2 y3 hx
  go_enter Try.func33, Try.ntmps33
  go_wp2_with fail
  go_loopw [7] (fun q w' => ∃ j : Nat, i + 1 ≤ j ∧ j ≤ L.length ∧ q = .int .i64 j ∧ (∀ p y, i + 1 ≤ p → p < j → L[p]? = some y → (decide (y.key = x.key) && decide (y.t ≤ m)) = false) ∧ NewW w w') (fun q _ => L.length - (intOf q).toNat)
  case atStart => exact ⟨i + 1, by omega, by omega, by go_num, fun p y h1 h2 => absurd h1 (by omega), Ch.refl _ _⟩
  case round =>
    obtain ⟨j, hj1, hj, rfl, hpre, hC⟩ := hrel
    have c0 := (HH.out.new_ hC).c0
    by_cases hlt : j < L.length
    · obtain ⟨y, hy⟩ := some_of_lt hlt
      obtain ⟨g', hg', x0, x1, x2, x3⟩ := (HH.out.new_ hC).at_ hy
      injection hg' with hg'
      injection hg' with hg' _
      subst hg'
      have z0 := new_cell hC HY.out
      have hbk := beq_key y.key x.key
      have HPRE := Lib.hid hpre
      have HYY := Lib.hid hy
      have HN := Lib.hid (fun k => ((hC : Ch (fun _ => False) w wr).drewN k : NewW w (wr.drewN k)))
      have hiI : (i : Int) < (L.length : Int) := by omega
      have hjI : (j : Int) < (L.length : Int) := by omega
      have hi0 : (0 : Int) ≤ (i : Int) := by omega
      have hj0 : (0 : Int) ≤ (j : Int) := by omega
      obtain ⟨kb, hkb⟩ : ∃ kb, decide (y.key = x.key) = kb := ⟨_, rfl⟩
      rw [hkb] at hbk
      have HKB := Lib.hid hkb
      obtain ⟨yk, yv, yh, yt⟩ := y
      simp only at x0 x1 x2 x3 hbk HKB
      obtain ⟨xk, xv, xh, xt⟩ := x
      simp only at z0 hbk
      clear hpre hy hC hkb
      cases kb
      · go_wp2_with fail
        go_quiet (fail)
        go_wp2_with fail
        refine ⟨⟨j + 1, by omega, by omega, by go_num, fun p y' h1 h2 hy' => ?_, HN.out _⟩, by simp [intOf]; omega⟩
        by_cases e : p = j
        · subst e
          have := HYY.out.symm.trans hy'
          injection this with this
          rw [← this, HKB.out]; rfl
        · exact HPRE.out p y' h1 (by omega) hy'
      · by_cases ht : yt ≤ m
        · have dt : decide (yt ≤ m) = true := by simpa using ht
          have HT := Lib.hid (show R = true from by
            rw [← HR.out]
            unfold laterW
            rw [List.any_eq_true]
            refine ⟨⟨yk, yv, yh, yt⟩, ?_, by rw [HKB.out]; simpa using ht⟩
            have : (L.drop (i + 1))[j - (i + 1)]? = some ⟨yk, yv, yh, yt⟩ := by rw [List.getElem?_drop, show i + 1 + (j - (i + 1)) = j by omega]; exact HYY.out
            exact mem_of_some this)
          go_wp2_with fail
          go_quiet (fail)
          go_wp2_with fail
          go_ret
          exact ⟨by rw [HT.out]; rfl, HN.out _⟩
        · have dt : decide (yt ≤ m) = false := by simpa using ht
          have HDT := Lib.hid dt
          go_wp2_with fail
          go_quiet (fail)
          go_wp2_with fail
          refine ⟨⟨j + 1, by omega, by omega, by go_num, fun p y' h1 h2 hy' => ?_, HN.out _⟩, by simp [intOf]; omega⟩
          by_cases e : p = j
          · subst e
            have := HYY.out.symm.trans hy'
            injection this with this
            rw [← this]; simp only; rw [HDT.out, Bool.and_false]
          · exact HPRE.out p y' h1 (by omega) hy'
    · obtain rfl : j = L.length := by omega
      have HT := Lib.hid (show R = false from by
        rw [← HR.out]
        unfold laterW
        rw [List.any_eq_false]
        intro y hy
        obtain ⟨p, hp⟩ := List.getElem?_of_mem hy
        rw [List.getElem?_drop] at hp
        have := hpre (i + 1 + p) y (by omega) (lt_of_some hp) hp
        simpa using this)
      have HC := Lib.hid hC
      clear hlt hj hpre hC
      go_wp2_with fail
      go_ret
      exact ⟨by rw [HT.out]; rfl, HC.out⟩
theorem goes_parts (m : Int) (x : Was) (r : List Was) : goesW m x r = (laterW m x r || (!x.has && decide (x.t ≤ m))) := rfl
theorem drop_cons {α : Type} {L : List α} {j : Nat} {x : α} (h : L[j]? = some x) : L.drop j = x :: L.drop (j + 1) := by
  have hlt := lt_of_some h
  rw [List.getElem?_eq_getElem hlt] at h
  injection h with h
  rw [← h, List.drop_eq_getElem_cons hlt]
theorem rtrim_fin {w1 : World} {A7 : Option Addr} {c7 : Nat} {L7 : List Was} {M : Int} (h : RM w B rb L last floor v) (hN : NewW w w1) (hB : B ≤ w.heap.size) (ho : w1.ownsRow w.heap.size 69 4 (.slice A7 L7.length c7) L7.length (flatR L7)) :
    RP B rb L7 last M w ((w1.setCell ⟨rb, 0, none⟩ (.slice A7 L7.length c7)).setCell ⟨rb, 2, none⟩ (.int .i64 M)) ∧ Blk w1 rb 30 #[v, .int .i64 last, .int .i64 floor] ∧ Blk (w1.setCell ⟨rb, 0, none⟩ (.slice A7 L7.length c7)) rb 30 #[.slice A7 L7.length c7, .int .i64 last, .int .i64 floor] := by
  have hrb := h.blk.lt
  have b7 := h.blk.ch (hN : Ch (fun _ => False) w w1) (fun h => h)
  have hs1 : Ch (fun g => g = rb) w1 (w1.setCell ⟨rb, 0, none⟩ (.slice A7 L7.length c7)) := (Ch.refl (fun g => g = rb) w1).setCell (p := ⟨rb, 0, none⟩) (.inl rfl) _
  have hs2 : Ch (fun g => g = rb) (w1.setCell ⟨rb, 0, none⟩ (.slice A7 L7.length c7)) ((w1.setCell ⟨rb, 0, none⟩ (.slice A7 L7.length c7)).setCell ⟨rb, 2, none⟩ (.int .i64 M)) := (Ch.refl (fun g => g = rb) _).setCell (p := ⟨rb, 2, none⟩) (.inl rfl) _
  have b8 : Blk (w1.setCell ⟨rb, 0, none⟩ (.slice A7 L7.length c7)) rb 30 #[.slice A7 L7.length c7, .int .i64 last, .int .i64 floor] := by
    have := b7.set_ 0 (.slice A7 L7.length c7)
    rwa [show (#[v, .int .i64 last, .int .i64 floor] : Array Value).setIfInBounds 0 (.slice A7 L7.length c7) = #[.slice A7 L7.length c7, .int .i64 last, .int .i64 floor] by simp] at this
  have hne : (Value.slice A7 L7.length c7).ownBlock ≠ some rb := fun e => by have := (own_lt ho e).1; omega
  refine ⟨⟨.slice A7 L7.length c7, ⟨?_, ?_, h.rB⟩, ((hN.mono fun _ h => h.elim).trans' hs1).trans' hs2, fun g hg => (own_lt ho hg).1⟩, b7, b8⟩
  · have := b8.set_ 2 (.int .i64 M)
    rwa [show (#[.slice A7 L7.length c7, .int .i64 last, .int .i64 floor] : Array Value).setIfInBounds 2 (.int .i64 M) = #[.slice A7 L7.length c7, .int .i64 last, .int .i64 M] by simp] at this
  · exact own_mono (own_ch (own_ch ho hs1 (fun g hg e => hne (e ▸ hg))) hs2 (fun g hg e => hne (e ▸ hg))) hB
set_option maxRecDepth 100000 in
set_option maxHeartbeats 8000000 in
theorem rtrim_any (h : RM w B rb L last floor v) (hB : B ≤ w.heap.size) (hL : L.length ≤ 1000000) (m : Int) :
    Calls Try.prog 26 #[.pointer (some ⟨rb, 0, none⟩), .int .i64 m] w fun e w' => e = .returned (.int .i64 ((L.length - (refKeep m L).length : Nat) : Int)) ∧ RP B rb (refKeep m L) last m w w' := by
  have c0 := h.c0
  have HH := Lib.hid h
  obtain ⟨A, c, hv⟩ := own_form h.row
  subst hv
  obtain ⟨i1, hi1, hy0, hy1, hy2⟩ := info_parts was_info
  clear h
  go_enter Try.func26, Try.ntmps26
  go_wp2_with fail
  go_loopw [5, 14] (fun o i w' => ∃ j : Nat, j ≤ L.length ∧ i = .int .i64 j ∧ (∃ ll, ll ++ refKeep m (L.drop j) = refKeep m L ∧ ll.length ≤ j ∧ w'.ownsRow w.heap.size 69 4 o ll.length (flatR ll)) ∧ NewW w w') (fun _ i _ => L.length - (intOf i).toNat)
  case atStart => exact ⟨0, by omega, rfl, ⟨[], by simp, by simp, ⟨rfl, .inl ⟨rfl, rfl⟩⟩⟩, Ch.refl _ _⟩
  case round =>
    obtain ⟨j, hj, rfl, ⟨ll, hll, hln, hout⟩, hC⟩ := hrel
    by_cases hlt : j < L.length
    · obtain ⟨x, hx⟩ := some_of_lt hlt
      obtain ⟨g, rfl, x0, x1, x2, x3⟩ := (HH.out.new_ hC).at_ hx
      have hdc := drop_cons hx
      have hC1 : NewW w (wr.alloc (.cells #[.string x.key, .string x.val, .bool x.has, .int .i64 x.t] 69)) := (hC : Ch (fun _ => False) w wr).alloc _
      have HNX := Lib.hid (rnext_any (HH.out.new_ hC1) hL hx m)
      have BX := Lib.hid (Blk.new wr 69 #[.string x.key, .string x.val, .bool x.has, .int .i64 x.t])
      have HO := Lib.hid (own_ch hout ((Ch.refl (fun _ => False) wr).alloc (.cells #[.string x.key, .string x.val, .bool x.has, .int .i64 x.t] 69)) (fun _ _ h => h))
      have HC := Lib.hid hC1
      have hsz : w.heap.size ≤ (wr.alloc (.cells #[.string x.key, .string x.val, .bool x.has, .int .i64 x.t] 69)).heap.size := hC1.size
      have HLL := Lib.hid hll
      have HDC := Lib.hid hdc
      have HGP := Lib.hid (goes_parts m x (L.drop (j + 1)))
      obtain ⟨lt, hlt'⟩ : ∃ lt, laterW m x (L.drop (j + 1)) = lt := ⟨_, rfl⟩
      rw [hlt'] at HNX HGP
      obtain ⟨xk, xv, xh, xt⟩ := x
      simp only at x0 x1 x2 x3 HGP
      clear hx hout hC hC1 hll hdc hlt' c0
      go_upto_region 5 with (fail)
      generalize wr.alloc (.cells #[.string xk, .string xv, .bool xh, .int .i64 xt] 69) = wb at *
      generalize wr.heap.size = bx at *
      clear x0 x1 x2 x3
      go_wp2_with fail
      refine HNX.out.mono ?_
      rintro e w2 ⟨rfl, hN2⟩
      dsimp only
      have b2 := BX.out.ch (hN2 : Ch (fun _ => False) wb w2) (fun h => h)
      have f0 : w2.cell? ⟨bx, 0, none⟩ = some (.string xk) := by rw [b2.cell]; rfl
      have f1 : w2.cell? ⟨bx, 1, none⟩ = some (.string xv) := by rw [b2.cell]; rfl
      have f2 : w2.cell? ⟨bx, 2, none⟩ = some (.bool xh) := by rw [b2.cell]; rfl
      have f3 : w2.cell? ⟨bx, 3, none⟩ = some (.int .i64 xt) := by rw [b2.cell]; rfl
      have HO2 := Lib.hid (own_ch HO.out (hN2 : Ch (fun _ => False) wb w2) (fun _ _ h => h))
      have HC2 := Lib.hid (HC.out.trans' hN2)
      have hsz2 : w.heap.size ≤ w2.heap.size := HC2.out.size
      clear hN2 b2 HNX BX HO HC
      obtain ⟨gg, hgg⟩ : ∃ gg, goesW m (⟨xk, xv, xh, xt⟩ : Was) (L.drop (j + 1)) = gg := ⟨_, rfl⟩
      have HGG := Lib.hid hgg
      have hgp := HGP.out
      rw [hgg] at hgp
      have hstay : gg = false → (ll ++ [(⟨xk, xv, xh, xt⟩ : Was)]) ++ refKeep m (L.drop (j + 1)) = refKeep m L := fun e => by
        rw [← HLL.out, HDC.out]
        show _ = ll ++ (if goesW m _ _ = true then _ else _)
        rw [hgg, e]
        simp
      have hgo : gg = true → ll ++ refKeep m (L.drop (j + 1)) = refKeep m L := fun e => by
        rw [← HLL.out, HDC.out]
        show _ = ll ++ (if goesW m _ _ = true then _ else _)
        rw [hgg, e]
        simp
      have HST := Lib.hid hstay
      have HGO := Lib.hid hgo
      clear hgg hstay hgo HGP HGG
      cases lt
      · cases xh
        · by_cases ht : xt ≤ m
          · have dt : decide (xt ≤ m) = true := by simpa using ht
            have HX := Lib.hid (HGO.out (by rw [hgp]; simp [ht]))
            clear hgp HST HGO
            go_wp2_with fail
            exact ⟨⟨j + 1, by omega, by go_num, ⟨ll, HX.out, by omega, HO2.out⟩, HC2.out⟩, by simp [intOf]; omega⟩
          · have dt : decide (xt ≤ m) = false := by simpa using ht
            have HX := Lib.hid (HST.out (by rw [hgp]; simp [ht]))
            clear hgp HST HGO
            go_wp2_with (first
              | (at_builtin
                 refine wpList_append_any _ rfl (.tmp 34) (.tmp 36) _ rfl w.heap.size 69 i1 _ 4 48 Try.underlying28 hi1 hy0 hy1 hy2 rfl (by omega) _ ll.length (flatR ll) rfl
                   (own_ch HO2.out ((Ch.refl (fun _ => False) _).alloc _) (fun _ _ h => h)) (w2.heap.size + 1) (some ⟨w2.heap.size, 0, none⟩) 1 1 [.string xk, .string xv, .bool false, .int .i64 xt] rfl (reads_new w2 69 #[.string xk, .string xv, .bool false, .int .i64 xt] 1 4 rfl) (by simp [Value.oneCell']) (by simp only [maxLen]; omega) (by omega) (by simp; omega) ?_
                 intro v7 w7 hown7 hg7 hat7
                 have HO7 := Lib.hid hown7
                 have HG7 := Lib.hid hg7
                 clear hown7 hg7 hat7))
            exact ⟨⟨j + 1, by omega, by go_num, ⟨ll ++ [⟨xk, xv, false, xt⟩], HX.out, by simp; omega, by rw [List.length_append, flatR_snoc]; exact HO7.out⟩,
              ((HC2.out.alloc _).grown HG7.out (fun q hq => .inr (own_lt HO2.out hq).1))⟩, by simp [intOf]; omega⟩
        · have HX := Lib.hid (HST.out (by rw [hgp]; simp))
          clear hgp HST HGO
          go_wp2_with (first
            | (at_builtin
               refine wpList_append_any _ rfl (.tmp 34) (.tmp 36) _ rfl w.heap.size 69 i1 _ 4 48 Try.underlying28 hi1 hy0 hy1 hy2 rfl (by omega) _ ll.length (flatR ll) rfl
                 (own_ch HO2.out ((Ch.refl (fun _ => False) _).alloc _) (fun _ _ h => h)) (w2.heap.size + 1) (some ⟨w2.heap.size, 0, none⟩) 1 1 [.string xk, .string xv, .bool true, .int .i64 xt] rfl (reads_new w2 69 #[.string xk, .string xv, .bool true, .int .i64 xt] 1 4 rfl) (by simp [Value.oneCell']) (by simp only [maxLen]; omega) (by omega) (by simp; omega) ?_
               intro v7 w7 hown7 hg7 hat7
               have HO7 := Lib.hid hown7
               have HG7 := Lib.hid hg7
               clear hown7 hg7 hat7))
          exact ⟨⟨j + 1, by omega, by go_num, ⟨ll ++ [⟨xk, xv, true, xt⟩], HX.out, by simp; omega, by rw [List.length_append, flatR_snoc]; exact HO7.out⟩,
            ((HC2.out.alloc _).grown HG7.out (fun q hq => .inr (own_lt HO2.out hq).1))⟩, by simp [intOf]; omega⟩
      · have HX := Lib.hid (HGO.out (by rw [hgp]; simp))
        clear hgp HST HGO
        go_wp2_with fail
        exact ⟨⟨j + 1, by omega, by go_num, ⟨ll, HX.out, by omega, HO2.out⟩, HC2.out⟩, by simp [intOf]; omega⟩
    · obtain rfl : j = L.length := by omega
      rw [List.drop_length] at hll
      have hll2 : ll = refKeep m L := by rw [← hll]; show ll = ll ++ []; rw [List.append_nil]
      obtain ⟨A9, c9, hv9⟩ := own_form hout
      subst hv9
      have hr2 := (HH.out.new_ hC).c0
      obtain ⟨z1, z2, z3⟩ := rtrim_fin (M := m) HH.out hC hB hout
      have HZ := Lib.hid z1
      have HLL2 := Lib.hid hll2
      have f0 := z2.frozen 0
      have g0 := z2.cell 0
      have f2 := z3.frozen 2
      have g2 := z3.cell 2
      have hlk : ll.length ≤ L.length := hln
      have hq : ((L.length : Int) - (ll.length : Int)) = ((L.length - ll.length : Nat) : Int) := by omega
      have HQ := Lib.hid hq
      simp at g0 g2
      clear hll hll2 hout hC z1 z2 z3 hlt hj c0 hq
      go_wp2_with fail
      go_ret
      exact ⟨by rw [← HLL2.out]; first | rfl | (rw [← HQ.out]; rfl), by rw [← HLL2.out]; exact HZ.out⟩
end
end Go.Proofs.Ytfcdplfnhjbdnaa
