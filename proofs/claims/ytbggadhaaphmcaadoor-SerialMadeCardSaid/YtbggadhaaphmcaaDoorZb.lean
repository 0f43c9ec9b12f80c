/- serial: a set of numbers as a word's bits; what a map has as one text. No program is spoken of. -/
import Derived.Test.YtbggadhaaphmcaaDoorZf
import Derived.Laws.BitsAllLaws
namespace Go.Proofs.YtbggadhaaphmcaaDoor
open Go.Lib Go.RowKit
set_option linter.unusedVariables false

def maskN (ps : List Nat) : Nat := ps.foldl (fun m i => m ||| 2 ^ i) 0
theorem mask_snoc (ps : List Nat) (i : Nat) : maskN (ps ++ [i]) = maskN ps ||| 2 ^ i := by simp [maskN]
theorem mask_bit : ∀ (ps : List Nat) (j : Nat), (maskN ps).testBit j = decide (j ∈ ps) := by
  have key : ∀ (ps : List Nat) (m j : Nat), (ps.foldl (fun m i => m ||| 2 ^ i) m).testBit j = (m.testBit j || decide (j ∈ ps)) := by
    intro ps
    induction ps with
    | nil => intro m j; simp
    | cons a ps ih =>
      intro m j
      rw [List.foldl_cons, ih, Nat.testBit_or, Nat.testBit_two_pow]
      by_cases e : a = j
      · subst e; simp
      · have : ¬ j = a := fun h => e h.symm
        simp [e, this]
  intro ps j
  rw [maskN, key]
  simp
theorem mask_lt {ps : List Nat} (h : ∀ i ∈ ps, i < 64) : maskN ps < 18446744073709551616 := by
  have key : ∀ (ps : List Nat) (m : Nat), m < 2 ^ 64 → (∀ i ∈ ps, i < 64) → ps.foldl (fun m i => m ||| 2 ^ i) m < 2 ^ 64 := by
    intro ps
    induction ps with
    | nil => intro m hm _; exact hm
    | cons a ps ih =>
      intro m hm hp
      exact ih _ (Nat.or_lt_two_pow hm (Nat.pow_lt_pow_right (by decide) (hp a (by simp)))) (fun i hi => hp i (List.mem_cons_of_mem _ hi))
  exact key ps 0 (by decide) h
theorem mask_and {ps : List Nat} (h : ∀ i ∈ ps, i < 64) (j : Nat) : bits .and .u64 ((maskN ps : Int) / 2 ^ j) 1 = if j ∈ ps then 1 else 0 := by
  have hlt := mask_lt h
  have e1 : ((maskN ps : Int) / 2 ^ j) = ((maskN ps / 2 ^ j : Nat) : Int) := by simp
  have e2 : (1 : Int) = ((1 : Nat) : Int) := rfl
  have hd : maskN ps / 2 ^ j < 18446744073709551616 := Nat.lt_of_le_of_lt (Nat.div_le_self _ _) hlt
  rw [e1, e2, u64_and_nat _ _ hd (by decide), Nat.and_one_is_mod]
  have hb := mask_bit ps j
  rw [Nat.testBit_eq_decide_div_mod_eq] at hb
  have hb2 := decide_eq_decide.1 hb
  by_cases hj : j ∈ ps
  · rw [if_pos hj, hb2.2 hj]
  · rw [if_neg hj]
    have : ¬ maskN ps / 2 ^ j % 2 = 1 := fun e => hj (hb2.1 e)
    have : maskN ps / 2 ^ j % 2 = 0 := by omega
    rw [this]
    rfl
theorem u64_pow {i : Nat} (hi : i < 64) : IntKind.u64.wrap ((2 : Int) ^ i) = ((2 ^ i : Nat) : Int) := by
  have h : (2 : Nat) ^ i < 18446744073709551616 := Nat.pow_lt_pow_right (a := 2) (n := 64) (by decide) hi
  have e : (2 : Int) ^ i = ((2 ^ i : Nat) : Int) := by simp
  rw [e]
  generalize (2 : Nat) ^ i = q at *
  rw [IntKind.wrap_u64]
  omega
theorem mask_or {ps : List Nat} (h : ∀ i ∈ ps, i < 64) {i : Nat} (hi : i < 64) : bits .or .u64 (maskN ps : Int) (IntKind.u64.wrap ((2 : Int) ^ i)) = (maskN (ps ++ [i]) : Int) := by
  rw [u64_pow hi, u64_or_nat _ _ (mask_lt h) (Nat.pow_lt_pow_right (a := 2) (n := 64) (by decide) hi), mask_snoc]
theorem mask_mem {ps qs : List Nat} (h : maskN ps = maskN qs) (j : Nat) : j ∈ ps ↔ j ∈ qs := by
  have := (mask_bit ps j).symm.trans ((congrArg (Nat.testBit · j) h).trans (mask_bit qs j))
  exact decide_eq_decide.1 this

/-! ### What a map has, as one text -/
def b8 (n : Nat) : UInt8 := UInt8.ofNat n
theorem b8_inj {a b : Nat} (ha : a < 256) (hb : b < 256) (h : b8 a = b8 b) : a = b := by
  have := congrArg UInt8.toNat h
  unfold b8 at this
  simp only [UInt8.toNat_ofNat'] at this
  omega
def textL (L : Wl) : List UInt8 := L.flatMap fun w => [b8 w.1.size, b8 w.2.size] ++ (w.1.data.toList ++ w.2.data.toList)
def LowW (L : Wl) : Prop := ∀ w ∈ L, w.1.size < 256 ∧ w.2.size < 256
theorem data_len (s : ByteArray) : s.data.toList.length = s.size := by cases s; rfl
theorem text_inj : ∀ {L M : Wl}, LowW L → LowW M → textL L = textL M → L = M
  | [], [], _, _, _ => rfl
  | [], b :: M, _, _, h => by simp [textL] at h
  | a :: L, [], _, _, h => by simp [textL] at h
  | a :: L, b :: M, hl, hm, h => by
    obtain ⟨a1, a2⟩ := a
    obtain ⟨b1, b2⟩ := b
    have h1 := hl (a1, a2) (by simp)
    have h2 := hm (b1, b2) (by simp)
    dsimp only at h1 h2
    unfold textL at h
    rw [List.flatMap_cons, List.flatMap_cons] at h
    simp only [List.cons_append, List.nil_append, List.append_assoc, List.cons.injEq] at h
    obtain ⟨e1, e2, h⟩ := h
    have e1 := b8_inj h1.1 h2.1 e1
    have e2 := b8_inj h1.2 h2.2 e2
    obtain ⟨k1, h⟩ := List.append_inj h (by rw [data_len, data_len, e1])
    obtain ⟨k2, h⟩ := List.append_inj h (by rw [data_len, data_len, e2])
    rw [key_inj k1, key_inj k2, text_inj (fun w hw => hl w (List.mem_cons_of_mem _ hw)) (fun w hw => hm w (List.mem_cons_of_mem _ hw)) h]
theorem textL_snoc (L : Wl) (w : ByteArray × ByteArray) : textL (L ++ [w]) = textL L ++ ([b8 w.1.size, b8 w.2.size] ++ (w.1.data.toList ++ w.2.data.toList)) := by simp [textL]
theorem textL_len {L : Wl} (h : LowW L) : (textL L).length ≤ 514 * L.length := by
  induction L with
  | nil => simp [textL]
  | cons a L ih =>
    have h1 := h a (by simp)
    have h2 := ih (fun w hw => h w (List.mem_cons_of_mem _ hw))
    have : textL (a :: L) = [b8 a.1.size, b8 a.2.size] ++ (a.1.data.toList ++ a.2.data.toList) ++ textL L := by simp [textL]
    rw [this, List.length_append, List.length_append, List.length_append, data_len, data_len, List.length_cons]
    simp
    omega
/-- One map has one list. -/
theorem sorted_same {L : Wl} {f g : Has} (h : SortedW L f) (h' : SortedW L g) : f = g := by
  funext x
  have e : (mkT x).data.toList = x := by simp [mkT]
  rcases hf : f x with _ | v
  · rcases hg : g x with _ | u
    · rfl
    · have h1 := (h'.2 (mkT x) u).2 (by rw [e]; exact hg)
      have h2 := (h.2 (mkT x) u).1 h1
      rw [e, hf] at h2
      cases h2
  · have h1 := (h.2 (mkT x) v).2 (by rw [e]; exact hf)
    have h2 := (h'.2 (mkT x) v).1 h1
    rw [e] at h2
    exact h2.symm
end Go.Proofs.YtbggadhaaphmcaaDoor
