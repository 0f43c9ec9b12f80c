/- few: are plans short enough? -/
import Derived.Test.YtbggadhaaphmcaaDoorRi
namespace Go.Proofs.YtbggadhaaphmcaaDoor
open Go.Lib Go.RowKit
set_option linter.unusedVariables false

def okO (o : OpD) : Bool := !decide (100 < o.key.size) && !decide (100 < o.val.size)
def okP (p : List OpD) : Bool := !decide (30 < p.length) && p.all okO
def fewB (ps : List (List OpD)) : Bool := ps.all okP && decide (ps.length ≤ 20)
structure PlanAt (w : World) (b i : Nat) (p : List OpD) : Prop where
  read : ∃ A c, w.cell? ⟨b, i, none⟩ = some (.slice A p.length c) ∧ Ops w A p.length p
  len : p.length ≤ maxLen
def Plans (w : World) (A : Option Addr) (n : Nat) (ps : List (List OpD)) : Prop :=
  ps.length = n ∧ n ≤ maxLen ∧ (0 < n → ∃ b off, A = some ⟨b, off, none⟩ ∧ b < w.heap.size ∧ ∀ i p, ps[i]? = some p → PlanAt w b (off + i) p)
section
variable {w w' w0 : World} {A : Option Addr} {n : Nat} {ps : List (List OpD)}
theorem PlanAt.below {b i : Nat} {p : List OpD} (h : PlanAt w0 b i p) (hb : Below w0.heap.size w0 w) (hlt : b < w0.heap.size) : PlanAt w b i p := by
  obtain ⟨⟨A, c, h1, h2⟩, h3⟩ := h
  exact ⟨⟨A, c, (hb.cell (p := ⟨b, i, none⟩) hlt).trans h1, h2.below hb⟩, h3⟩
theorem Plans.below (h : Plans w0 A n ps) (hb : Below w0.heap.size w0 w) : Plans w A n ps := by
  refine ⟨h.1, h.2.1, fun hn => ?_⟩
  obtain ⟨b, off, hA, hlt, hp⟩ := h.2.2 hn
  exact ⟨b, off, hA, Nat.lt_of_lt_of_le hlt hb.size, fun i p hi => (hp i p hi).below hb hlt⟩
theorem Plans.new_ (h : Plans w A n ps) (hc : NewW w w') : Plans w' A n ps := h.below (hc.to_below (fun _ h => h.elim) (Nat.le_refl _))
theorem Plans.at_ (h : Plans w A n ps) {i : Nat} {p : List OpD} (hi : ps[i]? = some p) : ∃ b off, A = some ⟨b, off, none⟩ ∧ PlanAt w b (off + i) p := by
  obtain ⟨b, off, hA, _, hp⟩ := h.2.2 (by have := lt_of_some hi; have := h.1; omega)
  exact ⟨b, off, hA, hp i p hi⟩
end
theorem cell_new {w w' : World} {p : Addr} {v : Value} (h : w.cell? p = some v) (hc : NewW w w') : w'.cell? p = some v :=
  ((hc.to_below (fun _ h => h.elim) (Nat.le_refl _)).cell (by obtain ⟨b, o, q⟩ := p; exact block_lt_of_cell h)).trans h
theorem allS {α : Type} {f : α → Bool} {l : List α} {k : Nat} {o : α} (h : l[k]? = some o) : (l.take (k + 1)).all f = ((l.take k).all f && f o) := by
  have hk := lt_of_some h
  rw [List.take_succ_eq_append_getElem hk]
  rw [List.getElem?_eq_getElem hk] at h
  injection h with h
  simp [h]
theorem allN {α : Type} {f : α → Bool} {l : List α} {k : Nat} {o : α} (h : l[k]? = some o) (hb : f o = false) : l.all f = false := by
  rw [List.all_eq_false]
  exact ⟨o, mem_of_some h, by rw [hb]; simp⟩
set_option maxRecDepth 100000 in
set_option maxHeartbeats 4000000 in
theorem few_any {w : World} {A : Option Addr} {n c : Nat} {ps : List (List OpD)} (h : Plans w A n ps) :
    Calls Tryd.prog 14 #[.slice A n c] w fun e w' => e = .returned (.bool (fewB ps)) ∧ NewW w w' := by
  have HL := Lib.hid h.1
  have hnm := h.2.1
  have hnI : (n : Int) ≤ 9223372036854775807 := by unfold maxLen at hnm; omega
  have H := Lib.hid h
  obtain ⟨R, hR⟩ : ∃ R, fewB ps = R := ⟨_, rfl⟩
  have HR := Lib.hid hR
  rw [hR]
  clear h hR hnm
  go_enter Tryd.func14, Tryd.ntmps14
  go_wp2_with fail
  go_loopw [9] (fun i wr => ∃ k : Nat, k ≤ n ∧ i = .int .i64 k ∧ (ps.take k).all okP = true ∧ NewW w wr) (fun i _ => n - (intOf i).toNat)
  case atStart => exact ⟨0, by omega, rfl, by simp, Ch.refl _ _⟩
  case round =>
    obtain ⟨k, hk, rfl, hall, hC⟩ := hrel
    have HC := Lib.hid hC
    have HA := Lib.hid hall
    clear hall hC
    by_cases hlt : k < n
    · obtain ⟨p, hp⟩ := some_of_lt (show k < ps.length by rw [HL.out]; exact hlt)
      obtain ⟨b, off, rfl, ⟨A2, c2, x0, hO⟩, hpl⟩ := H.out.at_ hp
      replace x0 := cell_new x0 HC.out
      have HO := Lib.hid hO
      have HS := Lib.hid (allS (f := okP) hp)
      have HN := Lib.hid (fun hb => allN (f := okP) hp hb)
      have HPM := Lib.hid hpl
      obtain ⟨m, hm⟩ : ∃ m, p.length = m := ⟨_, rfl⟩
      have HM := Lib.hid hm
      have hmI : (m : Int) ≤ 9223372036854775807 := by unfold maxLen at hpl; omega
      rw [hm] at x0
      clear hp hO hpl hm
      by_cases h30 : 30 < m
      · have d : decide (30 < (m : Int)) = true := by simp; omega
        have d' : decide (30 < m) = true := by simpa using h30
        have hr : R = false := by
          rw [← HR.out]
          have := HN.out (by unfold okP; rw [HM.out, d']; rfl)
          unfold fewB
          rw [this]; rfl
        subst hr
        clear h30
        go_wp2_with fail
        go_ret
        exact ⟨rfl, HC.out⟩
      have d : decide (30 < (m : Int)) = false := by simp; omega
      have d' : decide (30 < m) = false := by simpa using h30
      have hm30 : (m : Int) ≤ 30 := by omega
      have HD := Lib.hid d'
      clear h30
      go_wp2_with fail
      go_loopw [18] (fun i wr => ∃ j : Nat, j ≤ m ∧ i = .int .i64 j ∧ (p.take j).all okO = true ∧ NewW w wr) (fun i _ => m - (intOf i).toNat)
      case atStart => exact ⟨0, by omega, rfl, by simp, HC.out⟩
      case round =>
        obtain ⟨j, hj, rfl, hall, hC2⟩ := hrel
        have HC2 := Lib.hid hC2
        have HA2 := Lib.hid hall
        clear hall hC2
        by_cases hjm : j < m
        · obtain ⟨o, ho⟩ := some_of_lt (show j < p.length by rw [HM.out]; exact hjm)
          obtain ⟨b2, off2, rfl, y0, y1, y2, y3⟩ := (HO.out.new_ HC2.out).at_ ho
          have HS2 := Lib.hid (allS (f := okO) ho)
          have HN2 := Lib.hid (fun hb => allN (f := okO) ho hb)
          obtain ⟨K, key, val, N⟩ := o
          dsimp only at y0 y1 y2 y3
          have HCB := Lib.hid (HC2.out.alloc (.cells #[.int .i64 K, .string key, .string val, .int .i64 N] 41))
          clear ho
          have HBD := Lib.hid (fun (h : okO ⟨K, key, val, N⟩ = false) => show R = false by
            rw [← HR.out]
            have := HN.out (by unfold okP; rw [HN2.out h, Bool.and_false])
            unfold fewB
            rw [this]; rfl)
          have HOK := Lib.hid (show okO ⟨K, key, val, N⟩ = (!decide (100 < key.size) && !decide (100 < val.size)) from rfl)
          by_cases h1 : 100 < key.size
          · have d1 : decide (100 < (key.size : Int)) = true := by simp; omega
            have d1' : decide (100 < key.size) = true := by simpa using h1
            have hr := HBD.out (by rw [HOK.out, d1']; rfl)
            subst hr
            clear h1
            go_wp2_with fail
            go_ret
            exact ⟨rfl, HCB.out⟩
          have d1 : decide (100 < (key.size : Int)) = false := by simp; omega
          have d1' : decide (100 < key.size) = false := by simpa using h1
          by_cases h2 : 100 < val.size
          · have d2 : decide (100 < (val.size : Int)) = true := by simp; omega
            have d2' : decide (100 < val.size) = true := by simpa using h2
            have hr := HBD.out (by rw [HOK.out, d1', d2']; rfl)
            subst hr
            clear h1 h2
            go_wp2_with fail
            go_ret
            exact ⟨rfl, HCB.out⟩
          have d2 : decide (100 < (val.size : Int)) = false := by simp; omega
          have d2' : decide (100 < val.size) = false := by simpa using h2
          have HY := Lib.hid (show okO ⟨K, key, val, N⟩ = true by rw [HOK.out, d1', d2']; rfl)
          clear h1 h2
          go_wp2_with fail
          exact ⟨⟨j + 1, by omega, by go_num, by rw [HS2.out, HA2.out, HY.out]; rfl, HCB.out⟩, by simp [intOf]; omega⟩
        · obtain rfl : j = m := by omega
          have HP := Lib.hid (show okP p = true by
            have := HA2.out
            rw [List.take_of_length_le (by rw [HM.out]; omega)] at this
            unfold okP
            rw [HM.out, HD.out, this]; rfl)
          clear hjm
          go_wp2_with fail
          exact ⟨⟨k + 1, by omega, by go_num, by rw [HS.out, HA.out, HP.out]; rfl, HC2.out⟩, by simp [intOf]; omega⟩
    · obtain rfl : k = n := by omega
      have hr : R = decide (k ≤ 20) := by
        rw [← HR.out]
        unfold fewB
        have := HA.out
        rw [List.take_of_length_le (by rw [HL.out]; omega)] at this
        rw [this, HL.out]; rfl
      subst hr
      have d : decide ((k : Int) ≤ 20) = decide (k ≤ 20) := by congr 1; simp; omega
      clear hlt hk
      go_wp2_with fail
      go_ret
      exact ⟨by first | rfl | rw [d], HC.out⟩
end Go.Proofs.YtbggadhaaphmcaaDoor
