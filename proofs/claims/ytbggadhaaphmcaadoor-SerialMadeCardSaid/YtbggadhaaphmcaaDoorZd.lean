/- serial: a history in memory; which one may be (the program's and the document's); whether it is little. -/
import Derived.Test.YtbggadhaaphmcaaDoorZb
import Derived.Test.YtbggadhaaphmcaaDoorRi
import Derived.Test.YtbggadhaaphmcaaDoorRr
import Derived.Test.YtbggadhaaphmcaaDoorFe
namespace Go.Proofs.YtbggadhaaphmcaaDoor
open Go.Lib Go.RowKit
set_option linter.unusedVariables false

structure DeedAt (w : World) (b i : Nat) (d : DeedD) : Prop where
  c0 : w.cell? ⟨b, i, none⟩ = some (.int .i64 d.fr)
  c1 : w.cell? ⟨b, i + 1, none⟩ = some (.int .i64 d.to)
  c2 : ∃ A c, w.cell? ⟨b, i + 2, none⟩ = some (.slice A d.plan.length c) ∧ Ops w A d.plan.length d.plan
  c3 : ∃ A c, w.cell? ⟨b, i + 3, none⟩ = some (.slice A d.res.length c) ∧ Prs w A d.res.length d.res
  c4 : w.cell? ⟨b, i + 4, none⟩ = some (.bool d.op)
  lp : d.plan.length ≤ maxLen
  lr : d.res.length ≤ maxLen
def Deeds (w : World) (A : Option Addr) (n : Nat) (l : Hist) : Prop :=
  l.length = n ∧ n ≤ maxLen ∧ (0 < n → ∃ b off, A = some ⟨b, off, none⟩ ∧ b < w.heap.size ∧ ∀ i d, l[i]? = some d → DeedAt w b (off + i * 5) d)
section
variable {w w' w0 : World} {A : Option Addr} {n : Nat} {l : Hist}
theorem DeedAt.below {b i : Nat} {d : DeedD} (h : DeedAt w0 b i d) (hb : Below w0.heap.size w0 w) (hlt : b < w0.heap.size) : DeedAt w b i d := by
  obtain ⟨A, c, h1, h2⟩ := h.c2
  obtain ⟨A', c', h3, h4⟩ := h.c3
  exact ⟨(hb.cell (p := ⟨b, i, none⟩) hlt).trans h.c0, (hb.cell (p := ⟨b, i + 1, none⟩) hlt).trans h.c1, ⟨A, c, (hb.cell (p := ⟨b, i + 2, none⟩) hlt).trans h1, h2.below hb⟩,
    ⟨A', c', (hb.cell (p := ⟨b, i + 3, none⟩) hlt).trans h3, h4.below hb⟩, (hb.cell (p := ⟨b, i + 4, none⟩) hlt).trans h.c4, h.lp, h.lr⟩
theorem Deeds.below (h : Deeds w0 A n l) (hb : Below w0.heap.size w0 w) : Deeds w A n l := by
  refine ⟨h.1, h.2.1, fun hn => ?_⟩
  obtain ⟨b, off, hA, hlt, hp⟩ := h.2.2 hn
  exact ⟨b, off, hA, Nat.lt_of_lt_of_le hlt hb.size, fun i p hi => (hp i p hi).below hb hlt⟩
theorem Deeds.new_ (h : Deeds w A n l) (hc : NewW w w') : Deeds w' A n l := h.below (hc.to_below (fun _ h => h.elim) (Nat.le_refl _))
theorem Deeds.at_ (h : Deeds w A n l) {i : Nat} {d : DeedD} (hi : l[i]? = some d) : ∃ b off, A = some ⟨b, off, none⟩ ∧ DeedAt w b (off + i * 5) d := by
  obtain ⟨b, off, hA, _, hp⟩ := h.2.2 (by have := lt_of_some hi; have := h.1; omega)
  exact ⟨b, off, hA, hp i d hi⟩
end
theorem any_snoc {α : Type} {f : α → Bool} {l : List α} {k : Nat} {o : α} (h : l[k]? = some o) : (l.take (k + 1)).any f = ((l.take k).any f || f o) := by
  have hk := lt_of_some h
  rw [List.take_succ_eq_append_getElem hk]
  rw [List.getElem?_eq_getElem hk] at h
  injection h with h
  simp [h]
theorem any_at {α : Type} {f : α → Bool} {l : List α} {k : Nat} {o : α} (h : l[k]? = some o) (hb : f o = true) : l.any f = true := List.any_eq_true.2 ⟨o, mem_of_some h, hb⟩
/-- None of the first k has a wrong plan. -/
def clean (l : Hist) : Bool := l.all fun d => decide (rightE d.plan = 0)
theorem planE_zero : ∀ {l : Hist}, clean l = true → planE l = 0
  | [], _ => rfl
  | d :: r, h => by
    unfold clean at h
    rw [List.all_cons, Bool.and_eq_true] at h
    rw [planE, if_pos (of_decide_eq_true h.1)]
    exact planE_zero h.2
theorem planE_at : ∀ {l : Hist} {k : Nat} {d : DeedD}, clean (l.take k) = true → l[k]? = some d → rightE d.plan ≠ 0 → planE l = rightE d.plan
  | [], k, d, _, h, _ => by simp at h
  | a :: r, 0, d, _, h, hd => by
    simp only [List.getElem?_cons_zero, Option.some.injEq] at h
    subst h
    rw [planE, if_neg hd]
  | a :: r, k + 1, d, hc, h, hd => by
    unfold clean at hc
    rw [List.take_succ_cons, List.all_cons, Bool.and_eq_true] at hc
    rw [planE, if_pos (of_decide_eq_true hc.1)]
    exact planE_at (k := k) hc.2 (by simpa using h) hd
theorem clean_snoc {l : Hist} {k : Nat} {d : DeedD} (h : l[k]? = some d) : clean (l.take (k + 1)) = (clean (l.take k) && decide (rightE d.plan = 0)) := allS h
set_option maxRecDepth 100000 in
set_option maxHeartbeats 4000000 in
theorem RightD_any {w : World} {A : Option Addr} {n c : Nat} {l : Hist} (h : Deeds w A n l) :
    Calls Tryd.prog 48 #[.slice A n c] w fun e w' => e = .returned (.int .i64 (rightD l)) ∧ NewW w w' := by
  have HL := Lib.hid h.1
  have hnm := h.2.1
  have hnI : (n : Int) ≤ 9223372036854775807 := by unfold maxLen at hnm; omega
  have H := Lib.hid h
  obtain ⟨R, hR⟩ : ∃ R, rightD l = R := ⟨_, rfl⟩
  have HR := Lib.hid hR
  rw [hR]
  clear h hR hnm
  by_cases h8 : 8 < n
  · have d : decide (8 < (n : Int)) = true := by simp; omega
    have d' : decide (8 < n) = true := by simpa using h8
    obtain rfl : R = 4 := by rw [← HR.out]; unfold rightD; rw [if_pos (by rw [HL.out]; exact h8)]
    clear h8
    go_enter Tryd.func48, Tryd.ntmps48
    go_wp2_with fail
    go_ret
    exact ⟨rfl, Ch.refl _ _⟩
  have d : decide (8 < (n : Int)) = false := by simp; omega
  have d' : decide (8 < n) = false := by simpa using h8
  have hn8 : (n : Int) ≤ 8 := by omega
  have HR := Lib.hid (show (if l.any rangeB then (5 : Int) else planE l) = R from by rw [← HR.out]; unfold rightD; exact (if_neg (by rw [HL.out]; exact h8)).symm)
  clear h8
  go_enter Tryd.func48, Tryd.ntmps48
  go_wp2_with fail
  go_loopw [13] (fun i wr => ∃ k : Nat, k ≤ n ∧ i = .int .i64 k ∧ (l.take k).any rangeB = false ∧ NewW w wr) (fun i _ => n - (intOf i).toNat)
  case atStart => exact ⟨0, by omega, rfl, by simp, Ch.refl _ _⟩
  case round =>
    obtain ⟨k, hk, rfl, hall, hC⟩ := hrel
    have HC := Lib.hid hC
    have HA := Lib.hid hall
    clear hall hC
    by_cases hlt : k < n
    · obtain ⟨dd, hp⟩ := some_of_lt (show k < l.length by rw [HL.out]; exact hlt)
      obtain ⟨b, off, rfl, hat⟩ := (H.out.new_ HC.out).at_ hp
      have x0 := hat.c0
      have x1 := hat.c1
      obtain ⟨A2, c2, x2, _⟩ := hat.c2
      obtain ⟨A3, c3, x3, _⟩ := hat.c3
      have x4 := hat.c4
      have HS := Lib.hid (any_snoc (f := rangeB) hp)
      have HB := Lib.hid (fun hb => any_at (f := rangeB) hp hb)
      clear hat hp
      obtain ⟨fr, to, plan, res, op⟩ := dd
      dsimp only at x0 x1 x2 x3 x4
      generalize hLP : plan.length = LP at *
      generalize hLR : res.length = LR at *
      have HCB := Lib.hid (HC.out.alloc (.cells #[.int .i64 fr, .int .i64 to, .slice A2 LP c2, .slice A3 LR c3, .bool op] 89))
      clear hLP hLR
      by_cases q1 : fr < 0
      · have dq : decide (fr < 0) = true := by simpa using q1
        obtain rfl : R = 5 := by rw [← HR.out, if_pos (HB.out (by unfold rangeB; rw [dq]; rfl))]
        clear q1
        go_wp2_with fail
        go_ret
        exact ⟨rfl, HCB.out⟩
      have dq : decide (fr < 0) = false := by simpa using q1
      by_cases q2 : to < fr
      · have dq2 : decide (to < fr) = true := by simpa using q2
        obtain rfl : R = 5 := by rw [← HR.out, if_pos (HB.out (by unfold rangeB; rw [dq2]; simp))]
        clear q1 q2
        go_wp2_with fail
        go_ret
        exact ⟨rfl, HCB.out⟩
      have dq2 : decide (to < fr) = false := by simpa using q2
      have HN := Lib.hid (show (l.take (k + 1)).any rangeB = false by rw [HS.out, HA.out]; unfold rangeB; rw [dq, dq2]; rfl)
      clear q1 q2
      go_wp2_with fail
      exact ⟨⟨k + 1, by omega, by go_num, HN.out, HCB.out⟩, by simp [intOf]; omega⟩
    · obtain rfl : k = n := by omega
      have ht : l.take k = l := by rw [← HL.out, List.take_length]
      rw [ht] at HA
      have HR := Lib.hid (show planE l = R by rw [← HR.out, HA.out]; rfl)
      have HK := Lib.hid hk
      clear hlt hk ht HA
      go_wp2_with fail
      go_loopw [30] (fun i wr => ∃ j : Nat, j ≤ k ∧ i = .int .i64 j ∧ clean (l.take j) = true ∧ NewW w wr) (fun i _ => k - (intOf i).toNat)
      case atStart => exact ⟨0, by omega, rfl, by simp [clean], HC.out⟩
      case round =>
        obtain ⟨j, hj, rfl, hcl, hC2⟩ := hrel
        have HC2 := Lib.hid hC2
        have HA := Lib.hid hcl
        clear hcl hC2
        by_cases hlt : j < k
        · obtain ⟨dd, hp⟩ := some_of_lt (show j < l.length by rw [HL.out]; exact hlt)
          obtain ⟨b, off, rfl, hat⟩ := (H.out.new_ HC2.out).at_ hp
          have x0 := hat.c0
          have x1 := hat.c1
          obtain ⟨A2, c2, x2, hO⟩ := hat.c2
          obtain ⟨A3, c3, x3, _⟩ := hat.c3
          have x4 := hat.c4
          have HS := Lib.hid (clean_snoc hp)
          have HB := Lib.hid (fun hb => planE_at HA.out hp hb)
          clear hat hp
          obtain ⟨fr, to, plan, res, op⟩ := dd
          dsimp only at x0 x1 x2 x3 x4 hO
          have hCB := HC2.out.alloc (.cells #[.int .i64 fr, .int .i64 to, .slice A2 plan.length c2, .slice A3 res.length c3, .bool op] 89)
          have HRT := Lib.hid (Right_any (c := c2) (hO.new_ ((Ch.refl (fun _ => False) _).alloc (.cells #[.int .i64 fr, .int .i64 to, .slice A2 plan.length c2, .slice A3 res.length c3, .bool op] 89))))
          have HCB := Lib.hid hCB
          clear hO hCB
          dsimp only at HS HB
          generalize plan.length = LP at *
          generalize res.length = LR at *
          generalize hE : rightE plan = E at *
          have HE := Lib.hid hE
          clear hE
          by_cases q : E = 0
          · subst q
            have HN := Lib.hid (show clean (l.take (j + 1)) = true by rw [HS.out, HA.out]; rfl)
            clear HS HB
            go_wp2_with fail
            refine HRT.out.mono ?_
            rintro e w2 ⟨rfl, hN⟩
            dsimp only
            have HN2 := Lib.hid (HCB.out.trans' hN)
            clear hN HRT
            go_wp2_with fail
            exact ⟨⟨j + 1, by omega, by go_num, HN.out, HN2.out⟩, by simp [intOf]; omega⟩
          · have dq : decide (E = 0) = false := by simpa using q
            have dq' : (E != 0) = true := by simpa using q
            have dq'' : (E == 0) = false := by simpa using q
            obtain rfl : R = E := by rw [← HR.out, HB.out q]
            clear q HS HB
            go_wp2_with fail
            refine HRT.out.mono ?_
            rintro e w2 ⟨rfl, hN⟩
            dsimp only
            have HN2 := Lib.hid (HCB.out.trans' hN)
            clear hN HRT
            go_wp2_with fail
            go_ret
            exact ⟨rfl, HN2.out⟩
        · obtain rfl : j = k := by omega
          have ht : l.take j = l := by rw [← HL.out, List.take_length]
          rw [ht] at HA
          obtain rfl : R = 0 := by rw [← HR.out]; exact planE_zero HA.out
          clear hlt hj ht
          go_wp2_with fail
          go_ret
          exact ⟨rfl, HC2.out⟩
set_option maxRecDepth 100000 in
set_option maxHeartbeats 4000000 in
theorem RightD_ref {w : World} {A : Option Addr} {n c : Nat} {l : Hist} (h : Deeds w A n l) :
    Calls Tryd.prog 44 #[.slice A n c] w fun e w' => e = .returned (.int .i64 (rightD l)) ∧ NewW w w' := by
  have HL := Lib.hid h.1
  have hnm := h.2.1
  have hnI : (n : Int) ≤ 9223372036854775807 := by unfold maxLen at hnm; omega
  have H := Lib.hid h
  obtain ⟨R, hR⟩ : ∃ R, rightD l = R := ⟨_, rfl⟩
  have HR := Lib.hid hR
  rw [hR]
  clear h hR hnm
  by_cases h8 : 8 < n
  · have d : decide (8 < (n : Int)) = true := by simp; omega
    have d' : decide (8 < n) = true := by simpa using h8
    obtain rfl : R = 4 := by rw [← HR.out]; unfold rightD; rw [if_pos (by rw [HL.out]; exact h8)]
    clear h8
    go_enter Tryd.func44, Tryd.ntmps44
    go_wp2_with fail
    go_ret
    exact ⟨rfl, Ch.refl _ _⟩
  have d : decide (8 < (n : Int)) = false := by simp; omega
  have d' : decide (8 < n) = false := by simpa using h8
  have hn8 : (n : Int) ≤ 8 := by omega
  have HR := Lib.hid (show (if l.any rangeB then (5 : Int) else planE l) = R from by rw [← HR.out]; unfold rightD; exact (if_neg (by rw [HL.out]; exact h8)).symm)
  clear h8
  go_enter Tryd.func44, Tryd.ntmps44
  go_wp2_with fail
  go_loopw [13] (fun i wr => ∃ k : Nat, k ≤ n ∧ i = .int .i64 k ∧ (l.take k).any rangeB = false ∧ NewW w wr) (fun i _ => n - (intOf i).toNat)
  case atStart => exact ⟨0, by omega, rfl, by simp, Ch.refl _ _⟩
  case round =>
    obtain ⟨k, hk, rfl, hall, hC⟩ := hrel
    have HC := Lib.hid hC
    have HA := Lib.hid hall
    clear hall hC
    by_cases hlt : k < n
    · obtain ⟨dd, hp⟩ := some_of_lt (show k < l.length by rw [HL.out]; exact hlt)
      obtain ⟨b, off, rfl, hat⟩ := (H.out.new_ HC.out).at_ hp
      have x0 := hat.c0
      have x1 := hat.c1
      obtain ⟨A2, c2, x2, _⟩ := hat.c2
      obtain ⟨A3, c3, x3, _⟩ := hat.c3
      have x4 := hat.c4
      have HS := Lib.hid (any_snoc (f := rangeB) hp)
      have HB := Lib.hid (fun hb => any_at (f := rangeB) hp hb)
      clear hat hp
      obtain ⟨fr, to, plan, res, op⟩ := dd
      dsimp only at x0 x1 x2 x3 x4
      generalize hLP : plan.length = LP at *
      generalize hLR : res.length = LR at *
      have HCB := Lib.hid (HC.out.alloc (.cells #[.int .i64 fr, .int .i64 to, .slice A2 LP c2, .slice A3 LR c3, .bool op] 89))
      clear hLP hLR
      by_cases q1 : fr < 0
      · have dq : decide (fr < 0) = true := by simpa using q1
        obtain rfl : R = 5 := by rw [← HR.out, if_pos (HB.out (by unfold rangeB; rw [dq]; rfl))]
        clear q1
        go_wp2_with fail
        go_ret
        exact ⟨rfl, HCB.out⟩
      have dq : decide (fr < 0) = false := by simpa using q1
      by_cases q2 : to < fr
      · have dq2 : decide (to < fr) = true := by simpa using q2
        obtain rfl : R = 5 := by rw [← HR.out, if_pos (HB.out (by unfold rangeB; rw [dq2]; simp))]
        clear q1 q2
        go_wp2_with fail
        go_ret
        exact ⟨rfl, HCB.out⟩
      have dq2 : decide (to < fr) = false := by simpa using q2
      have HN := Lib.hid (show (l.take (k + 1)).any rangeB = false by rw [HS.out, HA.out]; unfold rangeB; rw [dq, dq2]; rfl)
      clear q1 q2
      go_wp2_with fail
      exact ⟨⟨k + 1, by omega, by go_num, HN.out, HCB.out⟩, by simp [intOf]; omega⟩
    · obtain rfl : k = n := by omega
      have ht : l.take k = l := by rw [← HL.out, List.take_length]
      rw [ht] at HA
      have HR := Lib.hid (show planE l = R by rw [← HR.out, HA.out]; rfl)
      have HK := Lib.hid hk
      clear hlt hk ht HA
      go_wp2_with fail
      go_loopw [30] (fun i wr => ∃ j : Nat, j ≤ k ∧ i = .int .i64 j ∧ clean (l.take j) = true ∧ NewW w wr) (fun i _ => k - (intOf i).toNat)
      case atStart => exact ⟨0, by omega, rfl, by simp [clean], HC.out⟩
      case round =>
        obtain ⟨j, hj, rfl, hcl, hC2⟩ := hrel
        have HC2 := Lib.hid hC2
        have HA := Lib.hid hcl
        clear hcl hC2
        by_cases hlt : j < k
        · obtain ⟨dd, hp⟩ := some_of_lt (show j < l.length by rw [HL.out]; exact hlt)
          obtain ⟨b, off, rfl, hat⟩ := (H.out.new_ HC2.out).at_ hp
          have x0 := hat.c0
          have x1 := hat.c1
          obtain ⟨A2, c2, x2, hO⟩ := hat.c2
          obtain ⟨A3, c3, x3, _⟩ := hat.c3
          have x4 := hat.c4
          have HS := Lib.hid (clean_snoc hp)
          have HB := Lib.hid (fun hb => planE_at HA.out hp hb)
          clear hat hp
          obtain ⟨fr, to, plan, res, op⟩ := dd
          dsimp only at x0 x1 x2 x3 x4 hO
          have hCB := HC2.out.alloc (.cells #[.int .i64 fr, .int .i64 to, .slice A2 plan.length c2, .slice A3 res.length c3, .bool op] 89)
          have HRT := Lib.hid (Right_ref (c := c2) (hO.new_ ((Ch.refl (fun _ => False) _).alloc (.cells #[.int .i64 fr, .int .i64 to, .slice A2 plan.length c2, .slice A3 res.length c3, .bool op] 89))))
          have HCB := Lib.hid hCB
          clear hO hCB
          dsimp only at HS HB
          generalize plan.length = LP at *
          generalize res.length = LR at *
          generalize hE : rightE plan = E at *
          have HE := Lib.hid hE
          clear hE
          by_cases q : E = 0
          · subst q
            have HN := Lib.hid (show clean (l.take (j + 1)) = true by rw [HS.out, HA.out]; rfl)
            clear HS HB
            go_wp2_with fail
            refine HRT.out.mono ?_
            rintro e w2 ⟨rfl, hN⟩
            dsimp only
            have HN2 := Lib.hid (HCB.out.trans' hN)
            clear hN HRT
            go_wp2_with fail
            exact ⟨⟨j + 1, by omega, by go_num, HN.out, HN2.out⟩, by simp [intOf]; omega⟩
          · have dq : decide (E = 0) = false := by simpa using q
            have dq' : (E != 0) = true := by simpa using q
            have dq'' : (E == 0) = false := by simpa using q
            obtain rfl : R = E := by rw [← HR.out, HB.out q]
            clear q HS HB
            go_wp2_with fail
            refine HRT.out.mono ?_
            rintro e w2 ⟨rfl, hN⟩
            dsimp only
            have HN2 := Lib.hid (HCB.out.trans' hN)
            clear hN HRT
            go_wp2_with fail
            go_ret
            exact ⟨rfl, HN2.out⟩
        · obtain rfl : j = k := by omega
          have ht : l.take j = l := by rw [← HL.out, List.take_length]
          rw [ht] at HA
          obtain rfl : R = 0 := by rw [← HR.out]; exact planE_zero HA.out
          clear hlt hj ht
          go_wp2_with fail
          go_ret
          exact ⟨rfl, HC2.out⟩
end Go.Proofs.YtbggadhaaphmcaaDoor
