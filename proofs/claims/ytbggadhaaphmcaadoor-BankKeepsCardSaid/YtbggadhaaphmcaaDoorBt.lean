/- bank: Total, Poor. -/
import Derived.Test.YtbggadhaaphmcaaDoorBa
namespace Go.Proofs.YtbggadhaaphmcaaDoor
open Go.Lib Go.RowKit
set_option linter.unusedVariables false

def sumI (l : List Int) : Int := l.sum
theorem rowI_get {l : List Int} {k : Nat} {x : Int} (h : l[k]? = some x) : (rowI l)[k]? = some (.int .i64 x) := by
  unfold rowI
  rw [List.getElem?_map, h]
  rfl
theorem sumI_take {l : List Int} {k : Nat} {x : Int} (h : l[k]? = some x) : sumI (l.take (k + 1)) = sumI (l.take k) + x := by
  have hk := lt_of_some h
  unfold sumI
  rw [List.take_succ_eq_append_getElem hk]
  rw [List.getElem?_eq_getElem hk] at h
  injection h with h
  simp [h]
theorem bals_bound {l : List Pr} {x : Int} (h : x ∈ bals l) : -1125899906842624 ≤ x ∧ x ≤ 1125899906842624 := by
  unfold bals at h
  obtain ⟨p, _, rfl⟩ := List.mem_map.1 h
  unfold balI
  split
  · exact numR_bound _
  · omega
theorem sumI_bound {l : List Int} (h : ∀ x ∈ l, -1125899906842624 ≤ x ∧ x ≤ 1125899906842624) : -1125899906842624 * (l.length : Int) ≤ sumI l ∧ sumI l ≤ 1125899906842624 * (l.length : Int) := by
  induction l with
  | nil => simp [sumI]
  | cons a r ih =>
    have h1 := ih (fun x hx => h x (List.mem_cons_of_mem _ hx))
    have h2 := h a List.mem_cons_self
    have : sumI (a :: r) = a + sumI r := by simp [sumI]
    rw [this, List.length_cons]
    omega
set_option maxRecDepth 100000 in
set_option maxHeartbeats 4000000 in
theorem Total_any {w : World} {A : Option Addr} {n c : Nat} {l : List Pr} (h : Prs w A n l) (hn : n ≤ 1000) (hs : ∀ p ∈ l, p.1.size ≤ 281474976710656) (hE : Env w) :
    Calls Tryd.prog 39 #[.slice A n c] w fun e w' => e = .returned (.int .i64 (sumI (bals l))) ∧ NewW w w' := by
  have HB := Lib.hid (Balances_any (c := c) h hn hs hE)
  have HL := Lib.hid (show (bals l).length = n by rw [bals_len]; exact h.1)
  have HBD := Lib.hid (fun x (hx : x ∈ bals l) => bals_bound hx)
  generalize bals l = bs at *
  clear h hs hE
  have hnI : (n : Int) ≤ 1000 := by omega
  go_enter Tryd.func39, Tryd.ntmps39
  go_wp2_with fail
  refine HB.out.mono ?_
  rintro e w2 ⟨A2, c2, rfl, ho, hN⟩
  dsimp only
  have HO := Lib.hid ho
  have HN := Lib.hid hN
  clear ho hN HB
  go_wp2_with fail
  go_loopw [3, 9] (fun s i wr => ∃ k : Nat, k ≤ n ∧ i = .int .i64 k ∧ s = .int .i64 (sumI (bs.take k)) ∧ NewW w2 wr) (fun _ i _ => n - (intOf i).toNat)
  case atStart => exact ⟨0, by omega, rfl, rfl, Ch.refl _ _⟩
  case round =>
    obtain ⟨k, hk, rfl, rfl, hC⟩ := hrel
    have HC := Lib.hid hC
    clear hC
    by_cases hlt : k < n
    · obtain ⟨x, hx⟩ := some_of_lt (show k < bs.length by rw [HL.out]; exact hlt)
      have hrow := own_ch HO.out HC.out (fun _ _ h => h)
      obtain ⟨g, qq, hv, _, _⟩ := hrow.form (by omega)
      injection hv with hv _ hq
      subst hv hq
      have x0 := hrow.cells (g := g) rfl k _ (rowI_get hx)
      rw [add_mk, Nat.zero_add] at x0
      have HST := Lib.hid (sumI_take hx)
      have b1 := sumI_bound (l := bs.take k) (fun y hy => HBD.out y (List.mem_of_mem_take hy))
      have b2 := HBD.out x (mem_of_some hx)
      have b3 : (bs.take k).length = k := by rw [List.length_take, HL.out]; omega
      rw [b3] at b1
      generalize hS : sumI (bs.take k) = S at *
      have hS1 : IntKind.i64.wrap (S + x) = S + x := IntWalk.i64_in _ ⟨by omega, by omega⟩
      clear hrow hx hS b3
      go_wp2_with fail
      exact ⟨⟨k + 1, by omega, by go_num, by rw [HST.out], HC.out⟩, by simp [intOf]; omega⟩
    · obtain rfl : k = n := by omega
      have ht : bs.take k = bs := by rw [← HL.out, List.take_length]
      rw [ht]
      clear hlt hk ht
      go_wp2_with fail
      go_ret
      exact ⟨rfl, HN.out.trans' HC.out⟩
/-- The first one below 0. -/
def poorI : List Int → Nat → Option Nat
  | [], _ => none
  | x :: r, k => if x < 0 then some k else poorI r (k + 1)
theorem poor_none {l : List Int} : ∀ {k : Nat}, (∀ x ∈ l, ¬ x < 0) → poorI l k = none := by
  induction l with
  | nil => intros; rfl
  | cons a r ih =>
    intro k h
    unfold poorI
    rw [if_neg (h a List.mem_cons_self)]
    exact ih (fun x hx => h x (List.mem_cons_of_mem _ hx))
theorem poor_some {l : List Int} : ∀ {j k : Nat} {x : Int}, (∀ y ∈ l.take j, ¬ y < 0) → l[j]? = some x → x < 0 → poorI l k = some (k + j) := by
  induction l with
  | nil => intro j k x _ h; simp at h
  | cons a r ih =>
    intro j k x h hx hlt
    cases j with
    | zero =>
      simp at hx
      subst hx
      unfold poorI
      rw [if_pos hlt]
      rfl
    | succ j =>
      unfold poorI
      rw [if_neg (h a (by simp))]
      rw [ih (j := j) (fun y hy => h y (by simp [hy])) (by simpa using hx) hlt]
      congr 1
      omega
set_option maxRecDepth 100000 in
set_option maxHeartbeats 4000000 in
theorem Poor_any {w : World} {A : Option Addr} {n c : Nat} {l : List Pr} (h : Prs w A n l) (hn : n ≤ 1000) (hs : ∀ p ∈ l, p.1.size ≤ 281474976710656) (hE : Env w) :
    Calls Tryd.prog 40 #[.slice A n c] w fun e w' => e = .returned (.tuple #[.int .i64 (((poorI (bals l) 0).getD 0 : Nat) : Int), .bool (poorI (bals l) 0).isSome]) ∧ NewW w w' := by
  have HB := Lib.hid (Balances_any (c := c) h hn hs hE)
  have HL := Lib.hid (show (bals l).length = n by rw [bals_len]; exact h.1)
  generalize bals l = bs at *
  clear h hs hE
  have hnI : (n : Int) ≤ 1000 := by omega
  obtain ⟨R, hR⟩ : ∃ R, poorI bs 0 = R := ⟨_, rfl⟩
  have HR := Lib.hid hR
  rw [hR]
  clear hR
  go_enter Tryd.func40, Tryd.ntmps40
  go_wp2_with fail
  refine HB.out.mono ?_
  rintro e w2 ⟨A2, c2, rfl, ho, hN⟩
  dsimp only
  have HO := Lib.hid ho
  have HN := Lib.hid hN
  clear ho hN HB
  go_wp2_with fail
  go_loopw [9] (fun i wr => ∃ k : Nat, k ≤ n ∧ i = .int .i64 k ∧ (∀ y ∈ bs.take k, ¬ y < 0) ∧ NewW w2 wr) (fun i _ => n - (intOf i).toNat)
  case atStart => exact ⟨0, by omega, rfl, by simp, Ch.refl _ _⟩
  case round =>
    obtain ⟨k, hk, rfl, hal, hC⟩ := hrel
    have HC := Lib.hid hC
    have HA := Lib.hid hal
    clear hC hal
    by_cases hlt : k < n
    · obtain ⟨x, hx⟩ := some_of_lt (show k < bs.length by rw [HL.out]; exact hlt)
      have hrow := own_ch HO.out HC.out (fun _ _ h => h)
      obtain ⟨g, qq, hv, _, _⟩ := hrow.form (by omega)
      injection hv with hv _ hq
      subst hv hq
      have x0 := hrow.cells (g := g) rfl k _ (rowI_get hx)
      rw [add_mk, Nat.zero_add] at x0
      have HX := Lib.hid hx
      clear hrow hx
      by_cases hneg : x < 0
      · have d : decide (x < 0) = true := by simpa using hneg
        have hr : R = some k := by
          rw [← HR.out, poor_some HA.out HX.out hneg, Nat.zero_add]
        subst hr
        clear hneg
        go_wp2_with fail
        go_ret2
        exact ⟨rfl, HN.out.trans' HC.out⟩
      · have d : decide (x < 0) = false := by simpa using hneg
        have HA2 := Lib.hid (show ∀ y ∈ bs.take (k + 1), ¬ y < 0 by
          have hkl := lt_of_some HX.out
          rw [List.take_succ_eq_append_getElem hkl]
          intro y hy
          rcases List.mem_append.1 hy with hy | hy
          · exact HA.out y hy
          · have h0 := HX.out
            rw [List.getElem?_eq_getElem hkl] at h0
            injection h0 with h0
            simp at hy
            subst hy
            rw [h0]; exact hneg)
        clear hneg
        go_wp2_with fail
        exact ⟨⟨k + 1, by omega, by go_num, HA2.out, HC.out⟩, by simp [intOf]; omega⟩
    · obtain rfl : k = n := by omega
      have hr : R = none := by
        rw [← HR.out]
        have := HA.out
        rw [← HL.out, List.take_length] at this
        exact poor_none this
      subst hr
      clear hlt hk
      go_wp2_with fail
      go_ret2
      exact ⟨rfl, HN.out.trans' HC.out⟩
end Go.Proofs.YtbggadhaaphmcaaDoor
