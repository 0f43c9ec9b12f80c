/- Cyclic, Reaches, Oldest: the walks. -/
import Derived.Test.YtfcdplfnhjbdnabDoorGw
namespace Go.Proofs.YtfcdplfnhjbdnabDoor
open Go.RowKit
set_option linter.unusedVariables false

def allN (l : List Nd) : Nat := 2 ^ l.length - 1
noncomputable def cycAt (l : List Nd) (i : Nat) : Bool := (fromG l (allN l) i).testBit i
def Cyc (l : List Nd) (r : Bool) : Prop := (r = true ∧ ∃ i, i < l.length ∧ cycAt l i = true) ∨ (r = false ∧ ∀ i, i < l.length → cycAt l i = false)
theorem cyclic_any {w : World} {B b : Nat} {l : List Nd} {v : Value} (h : GM w B b l v) (hT : Tab w) :
    Calls Tryd.prog 12 #[.pointer (some ⟨b, 0, none⟩)] w fun e w' => (∃ r, e = .returned (.bool r) ∧ Cyc l r) ∧ NewW w w' := by
  obtain ⟨A, q, rfl⟩ := own_form h.own
  have c0 := h.c0
  have h64 := h.ok.len
  have HH := Lib.hid h
  have HT := Lib.hid hT
  clear h hT
  generalize hn : l.length = n at *
  have HN := Lib.hid hn
  clear hn
  have hmax : (n : Int) ≤ 64 := by omega
  go_enter Tryd.func12, Tryd.ntmps12
  go_wp2_with fail
  go_loopw [11] (fun i w' => ∃ k : Nat, k ≤ n ∧ i = .int .i64 k ∧ (∀ j, j < k → cycAt l j = false) ∧ NewW w w') (fun i _ => n - (intOf i).toNat)
  case atStart => exact ⟨0, by omega, rfl, fun j hj => absurd hj (by omega), Ch.refl _ _⟩
  case round =>
    obtain ⟨k, hk, rfl, hpre, hC⟩ := hrel
    have HP := Lib.hid hpre
    have HC := Lib.hid hC
    clear hpre hC
    by_cases hlt : k < n
    · have HAL := Lib.hid (all_any (HH.out.new_ HC.out))
      have HFR := Lib.hid (fun w' (hc : NewW wr w') => from_any (a := k) (by_ := allN l) ((HH.out.new_ HC.out).new_ hc) ((HT.out.new_ HC.out).new_ hc) (by rw [HN.out]; exact hlt) (allN_lt HH.out.ok.len))
      have HHA := Lib.hid (fun w' => has_any (fromG l (allN l) k) k (fromG_64 HH.out.ok _ _) (by omega) w')
      obtain ⟨cb, hcb⟩ : ∃ cb, cycAt l k = cb := ⟨_, rfl⟩
      rw [show (fromG l (allN l) k).testBit k = cb from hcb] at HHA
      have HCB := Lib.hid hcb
      clear hcb
      generalize fromG l (allN l) k = F at *
      go_wp2_with fail
      refine HAL.out.mono ?_
      rintro e w2 ⟨rfl, hN2⟩
      have HN2 := Lib.hid hN2
      clear hN2 HAL
      dsimp only
      go_wp2_with fail
      refine (HFR.out _ HN2.out).mono ?_
      rintro e w3 ⟨rfl, hN3⟩
      have HN3 := Lib.hid (HC.out.trans' (HN2.out.trans' hN3))
      clear hN3 HFR HN2
      dsimp only
      go_wp2_with fail
      refine (HHA.out _).mono ?_
      rintro e w4 ⟨rfl, rfl⟩
      dsimp only
      cases cb
      · go_wp2_with fail
        refine ⟨⟨k + 1, by omega, by go_num, fun j hj => ?_, HN3.out⟩, by simp [intOf]; omega⟩
        by_cases e : j = k
        · rw [e]; exact HCB.out
        · exact HP.out j (by omega)
      · go_wp2_with fail
        go_ret
        exact ⟨⟨true, rfl, .inl ⟨rfl, k, by rw [HN.out]; exact hlt, HCB.out⟩⟩, HN3.out⟩
    · obtain rfl : k = n := by omega
      clear hlt hk
      go_wp2_with fail
      go_ret
      exact ⟨⟨false, rfl, .inr ⟨rfl, fun i hi => HP.out i (by rw [← HN.out]; exact hi)⟩⟩, HC.out⟩
theorem cyclic_nil (w : World) : Calls Tryd.prog 12 #[.pointer none] w fun e w' => e = .returned (.bool false) ∧ w = w' := by
  go_enter Tryd.func12, Tryd.ntmps12
  go_wp2_with fail
  go_ret
  exact ⟨rfl, rfl⟩
/-! ### Reaches -/
noncomputable def reachB (l : List Nd) (a b : Int) : Bool := (decide (0 ≤ idxOf l a) && decide (0 ≤ idxOf l b)) && (fromG l (allN l) (idxOf l a).toNat).testBit (idxOf l b).toNat
theorem reaches_any {w : World} {B b : Nat} {l : List Nd} {v : Value} (h : GM w B b l v) (hT : Tab w) (x y : Int) :
    Calls Tryd.prog 13 #[.pointer (some ⟨b, 0, none⟩), .int .i64 x, .int .i64 y] w fun e w' => e = .returned (.bool (reachB l x y)) ∧ NewW w w' := by
  have HFA := Lib.hid (find_any h x)
  have HFB := Lib.hid (fun w' (hc : NewW w w') => find_any (h.new_ hc) y)
  have HAL := Lib.hid (fun w' (hc : NewW w w') => all_any (h.new_ hc))
  have HH := Lib.hid h
  have HT := Lib.hid hT
  obtain ⟨R, hR⟩ : ∃ R, reachB l x y = R := ⟨_, rfl⟩
  rw [hR]
  unfold reachB at hR
  have h64 := h.ok.len
  clear h hT
  rcases idx_cases l x with ⟨hx, _⟩ | ⟨i, p, hx, hxi, _⟩
  · rw [hx] at HFA hR
    have HR := Lib.hid (show R = false by rw [← hR]; rfl)
    clear hx hR
    go_enter Tryd.func13, Tryd.ntmps13
    go_wp2_with fail
    refine HFA.out.mono ?_
    rintro e w2 ⟨rfl, hN2⟩
    have HN2 := Lib.hid hN2
    clear hN2 HFA
    dsimp only
    go_wp2_with fail
    refine (HFB.out _ HN2.out).mono ?_
    rintro e w3 ⟨rfl, hN3⟩
    have HN3 := Lib.hid (HN2.out.trans' hN3)
    clear hN3 HFB HN2
    dsimp only
    go_wp2_with fail
    go_ret
    exact ⟨by rw [HR.out]; rfl, HN3.out⟩
  · rcases idx_cases l y with ⟨hy, _⟩ | ⟨j, p', hy, hyj, _⟩
    · rw [hx] at HFA hR
      rw [hy] at HFB hR
      have HR := Lib.hid (show R = false by rw [← hR, show decide ((0 : Int) ≤ -1) = false from rfl, Bool.and_false, Bool.false_and])
      clear hx hy hR hxi
      go_enter Tryd.func13, Tryd.ntmps13
      go_wp2_with fail
      refine HFA.out.mono ?_
      rintro e w2 ⟨rfl, hN2⟩
      have HN2 := Lib.hid hN2
      clear hN2 HFA
      dsimp only
      go_wp2_with fail
      refine (HFB.out _ HN2.out).mono ?_
      rintro e w3 ⟨rfl, hN3⟩
      have HN3 := Lib.hid (HN2.out.trans' hN3)
      clear hN3 HFB HN2
      dsimp only
      go_wp2_with fail
      go_ret
      exact ⟨by rw [HR.out]; rfl, HN3.out⟩
    · rw [hx] at HFA hR
      rw [hy] at HFB hR
      have hil := lt_of_some hxi
      have hjl := lt_of_some hyj
      have HFR := Lib.hid (fun w' (hc : NewW w w') => from_any (a := i) (by_ := allN l) (HH.out.new_ hc) (HT.out.new_ hc) hil (allN_lt HH.out.ok.len))
      have HHA := Lib.hid (fun w' => has_any (fromG l (allN l) i) j (fromG_64 HH.out.ok _ _) (by omega) w')
      have HR := Lib.hid (show (fromG l (allN l) i).testBit j = R by
        rw [← hR, decide_eq_true (show (0 : Int) ≤ (i : Int) by omega), decide_eq_true (show (0 : Int) ≤ (j : Int) by omega), Int.toNat_natCast, Int.toNat_natCast]
        rfl)
      rw [HR.out] at HHA
      have d1 : decide ((0 : Int) ≤ (i : Int)) = true := by simp
      have d2 : decide ((0 : Int) ≤ (j : Int)) = true := by simp
      have HALN := Lib.hid (show (2 ^ l.length - 1 : Nat) = allN l from rfl)
      rw [HALN.out] at HAL
      clear hx hy hR hxi hyj hil hjl HR HALN
      generalize fromG l (allN l) i = F at *
      generalize allN l = AN at *
      go_enter Tryd.func13, Tryd.ntmps13
      go_wp2_with fail
      refine HFA.out.mono ?_
      rintro e w2 ⟨rfl, hN2⟩
      have HN2 := Lib.hid hN2
      clear hN2 HFA
      dsimp only
      go_wp2_with fail
      refine (HFB.out _ HN2.out).mono ?_
      rintro e w3 ⟨rfl, hN3⟩
      have HN3 := Lib.hid (HN2.out.trans' hN3)
      clear hN3 HFB HN2
      dsimp only
      go_wp2_with fail
      refine (HAL.out _ HN3.out).mono ?_
      rintro e w4 ⟨rfl, hN4⟩
      have HN4 := Lib.hid (HN3.out.trans' hN4)
      clear hN4 HAL HN3
      dsimp only
      go_wp2_with fail
      refine (HFR.out _ HN4.out).mono ?_
      rintro e w5 ⟨rfl, hN5⟩
      have HN5 := Lib.hid (HN4.out.trans' hN5)
      clear hN5 HFR HN4
      dsimp only
      go_wp2_with fail
      refine (HHA.out _).mono ?_
      rintro e w6 ⟨rfl, rfl⟩
      dsimp only
      go_wp2_with fail
      go_ret
      exact ⟨rfl, HN5.out⟩
end Go.Proofs.YtfcdplfnhjbdnabDoor
