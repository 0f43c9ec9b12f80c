/- Elder: the walk. -/
import Derived.Test.YtfcdplfnhjbdnabDoorBw
import Derived.Deep.RegionHeld3
namespace Go.Proofs.YtfcdplfnhjbdnabDoor
open Go.RowKit Go.Sort
set_option linter.unusedVariables false

def elderB (l : List Nd) (a b : Int) : Bool := (decide (0 ≤ idxOf l a) && decide (0 ≤ idxOf l b)) && bef (ndAt l (idxOf l a).toNat) (ndAt l (idxOf l b).toNat)
set_option maxHeartbeats 2000000 in
theorem elder_any {w : World} {B b : Nat} {l : List Nd} {v : Value} (h : GM w B b l v) (x y : Int) :
    Calls Tryd.prog 18 #[.pointer (some ⟨b, 0, none⟩), .int .i64 x, .int .i64 y] w fun e w' => e = .returned (.bool (elderB l x y)) ∧ NewW w w' := by
  have HFA := Lib.hid (find_any h x)
  have HFB := Lib.hid (fun w' (hc : NewW w w') => find_any (h.new_ hc) y)
  have HH := Lib.hid h
  obtain ⟨R, hR⟩ : ∃ R, elderB l x y = R := ⟨_, rfl⟩
  rw [hR]
  unfold elderB at hR
  have h64 := h.ok.len
  rcases idx_cases l x with ⟨hx, _⟩ | ⟨i, p, hx, hxi, -⟩
  · rw [hx] at HFA hR
    have HR := Lib.hid (show R = false by rw [← hR]; rfl)
    clear hx hR h
    go_enter Tryd.func18, Tryd.ntmps18
    go_wp2_with fail
    refine HFA.out.mono ?_
    rintro e w2 ⟨rfl, hN2⟩
    have HN2 := Lib.hid hN2
    clear hN2 HFA
    dsimp only
    go_wp2_with fail
    refine (HFB.out _ HN2.out).mono ?_
    rintro e w3 ⟨rfl, hN3⟩
    have HN3 := Lib.hid (fun n => (Ch.drewN (HN2.out.trans' hN3) n : NewW w (w3.drewN n)))
    clear hN3 HFB HN2
    dsimp only
    go_wp2_with fail
    go_quiet (fail)
    go_wp2_with fail
    go_ret
    exact ⟨by rw [HR.out]; rfl, HN3.out _⟩
  · have dx : decide ((0 : Int) ≤ (i : Int)) = true := by simp
    rcases idx_cases l y with ⟨hy, _⟩ | ⟨j, p', hy, hyj, -⟩
    · rw [hx] at HFA hR
      rw [hy] at HFB hR
      have HR := Lib.hid (show R = false by rw [← hR, show decide ((0 : Int) ≤ -1) = false from rfl, Bool.and_false, Bool.false_and])
      clear hx hy hR hxi h
      go_enter Tryd.func18, Tryd.ntmps18
      go_wp2_with fail
      refine HFA.out.mono ?_
      rintro e w2 ⟨rfl, hN2⟩
      have HN2 := Lib.hid hN2
      clear hN2 HFA
      dsimp only
      go_wp2_with fail
      refine (HFB.out _ HN2.out).mono ?_
      rintro e w3 ⟨rfl, hN3⟩
      have HN3 := Lib.hid (fun n => (Ch.drewN (HN2.out.trans' hN3) n : NewW w (w3.drewN n)))
      clear hN3 HFB HN2
      dsimp only
      go_wp2_with fail
      go_quiet (fail)
      go_wp2_with fail
      go_ret
      exact ⟨by rw [HR.out]; rfl, HN3.out _⟩
    · have dy : decide ((0 : Int) ≤ (j : Int)) = true := by simp
      rw [hx] at HFA hR
      rw [hy] at HFB hR
      obtain ⟨g, q, rfl, _, _, _⟩ := h.at_ hxi
      have hiI : (i : Int) < (l.length : Int) := by have := lt_of_some hxi; omega
      have hjI : (j : Int) < (l.length : Int) := by have := lt_of_some hyj; omega
      have HBE := Lib.hid (fun w' => before_any p p' w')
      have HR := Lib.hid (show bef p p' = R by
        rw [← hR, dx, dy, Int.toNat_natCast, Int.toNat_natCast, ndAt_of hxi, ndAt_of hyj]
        rfl)
      rw [HR.out] at HBE
      have HXI := Lib.hid hxi
      have HYJ := Lib.hid hyj
      clear hx hy hR hxi hyj h
      go_enter Tryd.func18, Tryd.ntmps18
      go_wp2_with fail
      refine HFA.out.mono ?_
      rintro e w2 ⟨rfl, hN2⟩
      have HN2 := Lib.hid hN2
      clear hN2 HFA
      dsimp only
      go_wp2_with fail
      refine (HFB.out _ HN2.out).mono ?_
      rintro e w3 ⟨rfl, hN3⟩
      have HN3 := Lib.hid (show NewW w w3 from HN2.out.trans' hN3)
      have hm := HH.out.new_ (HN2.out.trans' hN3)
      have c0 := hm.c0
      obtain ⟨x0, x1, x2⟩ := hm.cel HXI.out
      obtain ⟨y0, y1, y2⟩ := hm.cel HYJ.out
      clear hN3 HFB HN2 hm
      dsimp only
      go_wp2_with fail
      have HST := Lib.hid (fun w' (hc : Ch (fun _ => False) w3 w') => And.intro (new_cell hc c0) (And.intro (new_cell hc x0) (And.intro (new_cell hc x1) (And.intro (new_cell hc x2) (And.intro (new_cell hc y0) (And.intro (new_cell hc y1) (new_cell hc y2)))))))
      go_region_held3 (fun w' => w'.cell? ⟨b, 0, none⟩ = some (.slice (some ⟨g, 0, none⟩) l.length q) ∧ w'.cell? ⟨g, i * 3, none⟩ = some (.int .i64 p.id) ∧ w'.cell? ⟨g, i * 3 + 1, none⟩ = some (.int .i64 p.st) ∧ w'.cell? ⟨g, i * 3 + 2, none⟩ = some (.int .u64 p.to) ∧ w'.cell? ⟨g, j * 3, none⟩ = some (.int .i64 p'.id) ∧ w'.cell? ⟨g, j * 3 + 1, none⟩ = some (.int .i64 p'.st) ∧ w'.cell? ⟨g, j * 3 + 2, none⟩ = some (.int .u64 p'.to)) (exact HST.out _ (by repeat (first | with_reducible exact hN5 | with_reducible exact Ch.refl _ _ | with_reducible refine Ch.drew ?_ | with_reducible refine Ch.drewN ?_ _ | with_reducible refine Ch.trans' ?_ hN5)))
        (first
          | (go_at_call 35; refine (HBE.out _).mono ?_; rintro e w5 ⟨rfl, hN5⟩; have hN5 : Ch (fun _ => False) _ w5 := hN5))
      all_goals
        have HE := Lib.hid (HN3.out.trans' ((Ch.refl (fun _ => False) w3).drew.trans' hN5))
        clear hN5 x0 x1 x2 y0 y1 y2 c0 HST HBE
        go_wp2_with fail
        go_ret
        exact ⟨rfl, HE.out⟩
end Go.Proofs.YtfcdplfnhjbdnabDoor
