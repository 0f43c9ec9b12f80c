/- serial: the fixed histories, in plain words. -/
import Derived.Test.YtbggadhaaphmcaaDoorZk
import Derived.Test.YtbggadhaaphmcaaDoorFp
namespace Go.Proofs.YtbggadhaaphmcaaDoor
open Go.Lib Go.RowKit
set_option linter.unusedVariables false

def t1 : ByteArray := ⟨#[49]⟩
def pA : List OpD := [⟨2, ka, t1, 0⟩]
def pB : List OpD := [⟨1, ka, emp, 0⟩]
def dA : DeedD := ⟨0, 1, pA, [(emp, false)], false⟩
def dB (f : Int) : DeedD := ⟨f, 3, pB, [(emp, false)], false⟩
def H1 : Hist := [dA, dB 2]
def H2 : Hist := [dA, dB 1]
def H3 : Hist := [⟨1, 0, [], [], false⟩]
def fA : Has := putF none0 [97] (some t1)
theorem goodA : goodB pA = true := by decide
theorem goodB_ : goodB pB = true := by decide
theorem runA : runS none0 pA = ⟨fA, none, [none]⟩ := by
  show stepS ⟨none0, none, []⟩ _ = _
  rw [stepS_put (s := ⟨none0, none, []⟩) rfl]
  rfl
theorem runB (f : Has) : runS f pB = ⟨f, f [97], [f [97]]⟩ := by
  show stepS ⟨f, none, []⟩ _ = _
  rw [stepS_get (s := ⟨f, none, []⟩) rfl]
  rfl
theorem outA : runO none0 pA = [none] ∧ runF none0 pA = fA := by
  obtain ⟨a, b⟩ := run_good (f := none0) goodA
  rw [a, b, runA]
  exact ⟨rfl, rfl⟩
theorem outB (f : Has) : runO f pB = [f [97]] ∧ runF f pB = f := by
  obtain ⟨a, b⟩ := run_good (f := f) goodB_
  rw [a, b, runB]
  exact ⟨rfl, rfl⟩
theorem tell_of {d : DeedD} {f : Has} {r : List Res} {b : Bool} (h : runO f d.plan = r) (hb : (d.op || decide (r.map prR = d.res)) = b) : tellB d f = b := by
  subst h; exact hb
theorem tellA : tellB dA none0 = true := tell_of (r := [none]) outA.1 (by decide)
theorem tellB0 (f : Int) : tellB (dB f) none0 = true := tell_of (r := [none]) (outB none0).1 (by show (false || decide ([none].map prR = [(emp, false)])) = true; decide)
theorem tellBA (f : Int) : tellB (dB f) fA = false := tell_of (r := [some t1]) (outB fA).1 (by show (false || decide ([some t1].map prR = [(emp, false)])) = false; decide)
theorem h1r : rightD H1 = 0 := by decide
theorem h2r : rightD H2 = 0 := by decide
theorem h3r : rightD H3 = 5 := by decide
theorem find1 : findS H1 2 [] none0 = none := by
  have a0 : allB H1 [] = false := by decide
  have a1 : allB H1 [0] = false := by decide
  have m0 : mayB H1 [] 0 = true := by decide
  have m1 : mayB H1 [] 1 = false := by decide
  have m2 : mayB H1 [0] 0 = false := by decide
  have m3 : mayB H1 [0] 1 = true := by decide
  have hr : List.range H1.length = [0, 1] := rfl
  have g0 : H1.get 0 = dA := rfl
  have g1 : H1.get 1 = dB 2 := rfl
  have r0 : runF none0 dA.plan = fA := outA.2
  simp [findS, a0, a1, m0, m1, m2, m3, hr, g0, g1, r0, tellA, tellBA]
theorem find2 : findS H2 2 [] none0 = some [1, 0] := by
  have a0 : allB H2 [] = false := by decide
  have a1 : allB H2 [0] = false := by decide
  have a2 : allB H2 [1] = false := by decide
  have a3 : allB H2 [1, 0] = true := by decide
  have m0 : mayB H2 [] 0 = true := by decide
  have m1 : mayB H2 [] 1 = true := by decide
  have m2 : mayB H2 [0] 0 = false := by decide
  have m3 : mayB H2 [0] 1 = true := by decide
  have m4 : mayB H2 [1] 0 = true := by decide
  have hr : List.range H2.length = [0, 1] := rfl
  have g0 : H2.get 0 = dA := rfl
  have g1 : H2.get 1 = dB 1 := rfl
  have r0 : runF none0 dA.plan = fA := outA.2
  have r1 : runF none0 (dB 1).plan = none0 := (outB none0).2
  simp [findS, a0, a1, a2, a3, m0, m1, m2, m3, m4, hr, g0, g1, r0, r1, tellA, tellBA, tellB0]
theorem expl1 : explO H1 = none := by unfold explO; rw [if_pos h1r]; exact find1
theorem expl2 : explO H2 = some [1, 0] := by unfold explO; rw [if_pos h2r]; exact find2
theorem expl3 : explO H3 = none := by unfold explO; rw [if_neg (by rw [h3r]; decide)]
theorem check1 : checkO H2 [0, 1] = false := by
  unfold checkO
  have r0 : runF none0 dA.plan = fA := outA.2
  have m0 : mayB H2 [] 0 = true := by decide
  have m3 : mayB H2 [0] 1 = true := by decide
  have g0 : H2.get 0 = dA := rfl
  have g1 : H2.get 1 = dB 1 := rfl
  simp [chkB, h2r, m0, m3, g0, g1, r0, tellA, tellBA]
theorem check2 : checkO H2 [1, 0] = true := by
  unfold checkO
  have hl : H2.length = 2 := rfl
  have m1 : mayB H2 [] 1 = true := by decide
  have m4 : mayB H2 [1] 0 = true := by decide
  have a3 : allB H2 [1, 0] = true := by decide
  have g0 : H2.get 0 = dA := rfl
  have g1 : H2.get 1 = dB 1 := rfl
  have r1 : runF none0 (dB 1).plan = none0 := (outB none0).2
  simp [chkB, hl, h2r, m1, m4, a3, g0, g1, r1, tellA, tellB0]
theorem fAt1 : fAt [pA, pB] 1 = fA := outA.2
theorem fAt2 : fAt [pA, pB] 2 = fA := by
  show runF (runF none0 pA) pB = fA
  rw [outA.2]
  exact (outB fA).2
theorem out_row : runO (fAt [pA, pB] 1) pB = [some t1] := by rw [fAt1]; exact (outB fA).1
theorem all_fA {L : Wl} (h : SortedW L fA) : L.length = 1 := by
  have : SortedW [(ka, t1)] fA := by
    refine ⟨by simp, fun k v => ?_⟩
    simp only [List.mem_cons, List.not_mem_nil, or_false, Prod.mk.injEq]
    unfold fA putF
    by_cases h1 : k.data.toList = [97]
    · have e : k = ka := key_inj h1
      subst e
      simp [ka, eq_comm]
    · rw [if_neg h1]
      constructor
      · rintro ⟨rfl, _⟩
        exact absurd rfl h1
      · intro h; cases h
  rw [sorted_unique h this]
  rfl
end Go.Proofs.YtbggadhaaphmcaaDoor
