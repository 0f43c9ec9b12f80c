/- The fixed plans, in plain words. -/
import Derived.Test.YtbggadhaaphmcaaDoorRn
namespace Go.Proofs.YtbggadhaaphmcaaDoor
open Go.RowKit
set_option linter.unusedVariables false

theorem itoa_5 : Lib.itoa 5 = [53] := by rw [itoa_pos (by decide)]; exact dec_small (by decide)
theorem itoa_m2 : Lib.itoa (-2) = [45, 50] := by
  rw [itoa_minus (by decide)]
  have : Lib.decDigits 2 = [50] := dec_small (by decide)
  exact congrArg _ this
theorem itoa_30 : Lib.itoa 30 = [51, 48] := by
  rw [itoa_pos (by decide)]
  show Lib.decDigits 30 = _
  rw [dec_big (by decide)]
  have : Lib.decDigits (30 / 10) = [51] := dec_small (by decide)
  rw [this]; rfl
theorem itoa_m12 : Lib.itoa (-12) = [45, 49, 50] := by
  rw [itoa_minus (by decide)]
  show 45 :: Lib.decDigits 12 = _
  rw [dec_big (by decide)]
  have : Lib.decDigits (12 / 10) = [49] := dec_small (by decide)
  rw [this]; rfl
theorem itoa_7 : Lib.itoa 7 = [55] := by rw [itoa_pos (by decide)]; exact dec_small (by decide)
theorem txt_5 : txt 5 = ⟨#[53]⟩ := by unfold txt mkT; rw [itoa_5]
theorem txt_m2 : txt (-2) = ⟨#[45, 50]⟩ := by unfold txt mkT; rw [itoa_m2]
theorem txt_30 : txt 30 = ⟨#[51, 48]⟩ := by unfold txt mkT; rw [itoa_30]
theorem num_007 : numR ⟨#[48, 48, 55]⟩ = 0 := by
  refine numOf_eq (.inr ⟨rfl, fun n a b e => ?_⟩)
  have h := spell_itoa n
  rw [e] at h
  have h7 : spell [48, 48, 55] = 7 := by decide
  have hn : n = 7 := h.symm.trans h7
  rw [hn, itoa_7] at e
  simp at e
theorem num_m12 : numR ⟨#[45, 49, 50]⟩ = -12 := numOf_eq (.inl ⟨by decide, by decide, itoa_m12⟩)
theorem num_emp : numR emp = 0 := numOf_eq (num_ref_short (.inl rfl))
theorem num_txt {n : Int} (h0 : -1125899906842624 ≤ n) (h1 : n ≤ 1125899906842624) : numR (txt n) = n := by
  unfold numR
  rw [txt_data]
  exact numOf_itoa h0 h1
theorem stepS_add {s : Rs} {o : OpD} (h : o.k = 5) : stepS s o = ⟨putF s.f o.key.data.toList (some (txt (sumOf o (s.f o.key.data.toList)))), some (txt (sumOf o (s.f o.key.data.toList))), s.out ++ [some (txt (sumOf o (s.f o.key.data.toList)))]⟩ := by
  unfold stepS stepW stepR wrB
  simp [h]
theorem stepS_get {s : Rs} {o : OpD} (h : o.k = 1) : stepS s o = ⟨s.f, s.f o.key.data.toList, s.out ++ [s.f o.key.data.toList]⟩ := by
  unfold stepS stepR wrB
  simp [h]
theorem stepS_copy {s : Rs} {o : OpD} (h : o.k = 4) : stepS s o = ⟨putF s.f o.key.data.toList s.last, s.f o.key.data.toList, s.out ++ [s.f o.key.data.toList]⟩ := by
  unfold stepS stepW stepR wrB
  simp [h]
theorem stepS_put {s : Rs} {o : OpD} (h : o.k = 2) : stepS s o = ⟨putF s.f o.key.data.toList (some o.val), s.f o.key.data.toList, s.out ++ [s.f o.key.data.toList]⟩ := by
  unfold stepS stepW stepR wrB
  simp [h]
def ka : ByteArray := ⟨#[97]⟩
def kb : ByteArray := ⟨#[98]⟩
def p1 : List OpD := [⟨5, ka, emp, 5⟩, ⟨5, ka, emp, -7⟩]
def p2 : List OpD := [⟨3, ka, emp, 0⟩, ⟨6, emp, emp, 0⟩]
def p3 : List OpD := [⟨1, ka, emp, 0⟩, ⟨4, kb, emp, 0⟩]
def fa : Has := putF (putF none0 [97] (some ⟨#[53]⟩)) [97] (some ⟨#[45, 50]⟩)
def fb : Has := putF fa [98] (some ⟨#[45, 50]⟩)
theorem good1 : goodB p1 = true := by decide
theorem good2 : goodB p2 = false := by decide
theorem good3 : goodB p3 = true := by decide
theorem sum1 : sumOf ⟨5, ka, emp, 5⟩ none = 5 := by
  unfold sumOf
  show clampI (numR emp + clampI 5) = 5
  rw [num_emp]; decide
theorem sum2 : sumOf ⟨5, ka, emp, -7⟩ (some ⟨#[53]⟩) = -2 := by
  unfold sumOf
  show clampI (numR ⟨#[53]⟩ + clampI (-7)) = -2
  rw [← txt_5, num_txt (by decide) (by decide)]; decide
theorem run1 : runS none0 p1 = ⟨fa, some ⟨#[45, 50]⟩, [some ⟨#[53]⟩, some ⟨#[45, 50]⟩]⟩ := by
  show stepS (stepS ⟨none0, none, []⟩ _) _ = _
  rw [stepS_add (s := ⟨none0, none, []⟩) rfl]
  rw [show sumOf ⟨5, ka, emp, 5⟩ (none0 ka.data.toList) = 5 from sum1, txt_5]
  rw [stepS_add rfl]
  rw [show sumOf ⟨5, ka, emp, -7⟩ (putF none0 ka.data.toList (some ⟨#[53]⟩) ka.data.toList) = -2 from by rw [putF_same]; exact sum2, txt_m2]
  rfl
theorem run3 : runS fa p3 = ⟨fb, none, [some ⟨#[45, 50]⟩, none]⟩ := by
  show stepS (stepS ⟨fa, none, []⟩ _) _ = _
  rw [stepS_get (s := ⟨fa, none, []⟩) rfl, stepS_copy rfl]
  rfl
theorem out1 : runO none0 p1 = [some ⟨#[53]⟩, some ⟨#[45, 50]⟩] ∧ runF none0 p1 = fa := by
  obtain ⟨a, b⟩ := run_good (f := none0) good1
  rw [a, b, run1]
  exact ⟨rfl, rfl⟩
theorem out2 : runO fa p2 = [] ∧ runF fa p2 = fa := run_bad good2
theorem out3 : runO fa p3 = [some ⟨#[45, 50]⟩, none] ∧ runF fa p3 = fb := by
  obtain ⟨a, b⟩ := run_good (f := fa) good3
  rw [a, b, run3]
  exact ⟨rfl, rfl⟩
theorem get_fa : fa ka.data.toList = some ⟨#[45, 50]⟩ := rfl
theorem get_fb : fb kb.data.toList = some ⟨#[45, 50]⟩ := rfl
theorem all_fb {L : Wl} (h : SortedW L fb) : L.length = 2 := by
  have : SortedW [(ka, ⟨#[45, 50]⟩), (kb, ⟨#[45, 50]⟩)] fb := by
    refine ⟨by simp [kOf, ka, kb]; decide, fun k v => ?_⟩
    simp only [List.mem_cons, List.not_mem_nil, or_false, Prod.mk.injEq]
    unfold fb fa putF
    by_cases h2 : k.data.toList = [98]
    · have e : k = kb := key_inj h2
      subst e
      simp [ka, kb, eq_comm]
    · rw [if_neg h2]
      by_cases h1 : k.data.toList = [97]
      · have e : k = ka := key_inj h1
        subst e
        simp [ka, kb, eq_comm]
      · rw [if_neg h1, if_neg h1]
        constructor
        · rintro (⟨rfl, _⟩ | ⟨rfl, _⟩)
          · exact absurd rfl h1
          · exact absurd rfl h2
        · intro h; cases h
  rw [sorted_unique h this]
  rfl
end Go.Proofs.YtbggadhaaphmcaaDoor
