/- Numbers' texts, in plain words: a number's text reads as it, and which number any text has. No program is spoken of. -/
import Derived.Lib.AtoiAll
import Derived.Lib.ItoaNum
import Derived.Lib.Hide
namespace Go.Proofs.YtbggadhaaphmcaaDoor
open Go.Lib
set_option linter.unusedVariables false

def isD (c : UInt8) : Prop := 48 ≤ c.toNat ∧ c.toNat ≤ 57
instance (c : UInt8) : Decidable (isD c) := by unfold isD; exact inferInstance
def valD (acc : Nat) (l : List UInt8) : Nat := l.foldl (fun a c => a * 10 + (c.toNat - 48)) acc
theorem valD_cons (acc : Nat) (c : UInt8) (l : List UInt8) : valD acc (c :: l) = valD (acc * 10 + (c.toNat - 48)) l := by
  unfold valD
  rw [List.foldl_cons]
theorem valD_snoc (acc : Nat) (l : List UInt8) (c : UInt8) : valD acc (l ++ [c]) = valD acc l * 10 + (c.toNat - 48) := by simp [valD]
theorem valD_ge : ∀ (l : List UInt8) (acc : Nat), acc ≤ valD acc l
  | [], acc => Nat.le_refl _
  | c :: l, acc => by
    rw [valD_cons]
    have := valD_ge l (acc * 10 + (c.toNat - 48))
    omega
theorem digit_toNat {d : Nat} (h : d < 10) : (UInt8.ofNat (48 + d)).toNat = 48 + d := by
  rw [UInt8.toNat_ofNat']
  exact Nat.mod_eq_of_lt (by omega)
theorem dec_induct {P : Nat → Prop} (h1 : ∀ u, u < 10 → P u) (h2 : ∀ u, ¬ u < 10 → P (u / 10) → P u) : ∀ u, P u := fun u => by
  induction u using Nat.strongRecOn with
  | ind u ih =>
    by_cases h : u < 10
    · exact h1 u h
    · exact h2 u h (ih _ (by omega))
theorem dec_small {u : Nat} (h : u < 10) : decDigits u = [UInt8.ofNat (48 + u)] := by rw [decDigits, dif_pos h]
theorem dec_big {u : Nat} (h : ¬ u < 10) : decDigits u = decDigits (u / 10) ++ [UInt8.ofNat (48 + u % 10)] := by rw [decDigits, dif_neg h]
theorem valD_dec : ∀ u, valD 0 (decDigits u) = u := dec_induct
  (fun u h => by rw [dec_small h]; simp only [valD, List.foldl]; rw [digit_toNat h]; omega)
  (fun u h ih => by rw [dec_big h, valD_snoc, ih, digit_toNat (by omega)]; omega)
theorem dec_isD : ∀ u, ∀ c ∈ decDigits u, isD c := dec_induct
  (fun u h c hc => by
    rw [dec_small h, List.mem_singleton] at hc
    subst hc
    unfold isD
    rw [digit_toNat h]; omega)
  (fun u h ih c hc => by
    rw [dec_big h, List.mem_append, List.mem_singleton] at hc
    rcases hc with hc | hc
    · exact ih c hc
    · subst hc
      unfold isD
      rw [digit_toNat (by omega)]; omega)
theorem dec_pos : ∀ u, 0 < (decDigits u).length := dec_induct
  (fun u h => by rw [dec_small h]; simp) (fun u h ih => by rw [dec_big h]; simp)
theorem dec_ne (u : Nat) : decDigits u ≠ [] := fun h => by have := dec_pos u; rw [h] at this; simp at this
theorem dec_len {k : Nat} : ∀ {u : Nat}, u < 10 ^ (k + 1) → (decDigits u).length ≤ k + 1 := by
  induction k with
  | zero => intro u h; rw [dec_small (by simpa using h)]; simp
  | succ k ih =>
    intro u h
    by_cases h10 : u < 10
    · rw [dec_small h10]; simp
    · rw [dec_big h10, List.length_append]
      have := ih (u := u / 10) (by rw [Nat.pow_succ] at h; omega)
      simp; omega
theorem itoa_pos {n : Int} (h : ¬ n < 0) : itoa n = decDigits n.toNat := by unfold itoa; rw [if_neg h]
theorem itoa_minus {n : Int} (h : n < 0) : itoa n = 45 :: decDigits n.natAbs := by unfold itoa; rw [if_pos h]
theorem head_dec {u : Nat} {c : UInt8} {r : List UInt8} (h : decDigits u = c :: r) : isD c := dec_isD u c (by rw [h]; simp)
theorem isD_not {c : UInt8} (h : isD c) : ¬ (c.toNat = 43 ∨ c.toNat = 45) := by unfold isD at h; omega
theorem itoa_inj {n m : Int} (h : itoa n = itoa m) : n = m := by
  have hd : ∀ (u v : Nat), decDigits u = decDigits v → u = v := fun u v e => by rw [← valD_dec u, ← valD_dec v, e]
  by_cases hn : n < 0 <;> by_cases hm : m < 0
  · rw [itoa_minus hn, itoa_minus hm] at h
    injection h with _ h
    have := hd _ _ h
    omega
  · rw [itoa_minus hn, itoa_pos hm] at h
    have := head_dec h.symm
    unfold isD at this
    simp at this
  · rw [itoa_pos hn, itoa_minus hm] at h
    have := head_dec h
    unfold isD at this
    simp at this
  · rw [itoa_pos hn, itoa_pos hm] at h
    have := hd _ _ h
    omega
theorem parse_ok : ∀ (l : List UInt8) (acc : Nat), (∀ c ∈ l, isD c) → valD acc l < 18446744073709551616 → parseUint10 acc l = .ok (valD acc l)
  | [], acc, _, _ => rfl
  | c :: r, acc, h, hv => by
    have hc := h c (by simp)
    unfold isD at hc
    rw [valD_cons] at hv ⊢
    have hge := valD_ge r (acc * 10 + (c.toNat - 48))
    unfold parseUint10
    rw [if_pos hc, if_neg (by omega), if_neg (by omega)]
    exact parse_ok r _ (fun x hx => h x (by simp [hx])) hv
/-- A number's text reads as the number. -/
theorem atoi_itoa {n : Int} (h0 : -9223372036854775808 ≤ n) (h1 : n ≤ 9223372036854775807) : atoiAll (itoa n) = .ok n := by
  by_cases hn : n < 0
  · rw [itoa_minus hn]
    have hp : parseMag (decDigits n.natAbs) = .ok n.natAbs := by
      unfold parseMag
      rw [if_neg (dec_ne _), parse_ok _ _ (dec_isD _) (by rw [valD_dec]; omega), valD_dec]
    unfold atoiAll
    simp only [show (45 : UInt8).toNat = 45 from rfl, or_true, if_true, hp]
    simp
    rw [if_neg (by omega)]
    congr 1
    omega
  · rw [itoa_pos hn]
    rcases hd : decDigits n.toNat with _ | ⟨c, r⟩
    · exact absurd hd (dec_ne _)
    · have hc := head_dec hd
      have hp : parseMag (c :: r) = .ok n.toNat := by
        unfold parseMag
        rw [← hd, if_neg (dec_ne _), parse_ok _ _ (dec_isD _) (by rw [valD_dec]; omega), valD_dec]
      unfold atoiAll
      have h45 : ¬ c.toNat = 45 := fun e => isD_not hc (.inr e)
      dsimp only
      rw [if_neg (isD_not hc), hp]
      dsimp only
      rw [if_neg (fun h => by omega), if_neg (fun h => h45 h.1), if_neg h45]
      congr 1
      omega
/-! ### Which number a text has -/
def maxN : Int := 1125899906842624
/-- The text's number is v: it is some number's text within the bounds, or v is 0. -/
def NumIs (s : List UInt8) (v : Int) : Prop := (-1125899906842624 ≤ v ∧ v ≤ 1125899906842624 ∧ itoa v = s) ∨ (v = 0 ∧ ∀ n : Int, -1125899906842624 ≤ n → n ≤ 1125899906842624 → itoa n ≠ s)
theorem NumIs.unique {s : List UInt8} {v w : Int} (h : NumIs s v) (h' : NumIs s w) : v = w := by
  rcases h with ⟨a, b, c⟩ | ⟨a, b⟩ <;> rcases h' with ⟨d, e, f⟩ | ⟨d, e⟩
  · exact itoa_inj (c.trans f.symm)
  · exact absurd c (e v a b)
  · exact absurd f (b w d e)
  · rw [a, d]
theorem NumIs.bound {s : List UInt8} {v : Int} (h : NumIs s v) : -1125899906842624 ≤ v ∧ v ≤ 1125899906842624 := by
  rcases h with ⟨a, b, c⟩ | ⟨a, b⟩ <;> omega
noncomputable def numOf (s : List UInt8) : Int := by
  classical
  exact if h : ∃ n : Int, -1125899906842624 ≤ n ∧ n ≤ 1125899906842624 ∧ itoa n = s then h.choose else 0
theorem numOf_is (s : List UInt8) : NumIs s (numOf s) := by
  unfold numOf
  split
  · rename_i h
    exact .inl h.choose_spec
  · rename_i h
    exact .inr ⟨rfl, fun n a b c => h ⟨n, a, b, c⟩⟩
theorem numOf_eq {s : List UInt8} {v : Int} (h : NumIs s v) : numOf s = v := (numOf_is s).unique h
theorem numOf_itoa {n : Int} (h0 : -1125899906842624 ≤ n) (h1 : n ≤ 1125899906842624) : numOf (itoa n) = n := numOf_eq (.inl ⟨h0, h1, rfl⟩)
theorem numOf_big {n : Int} (h : n < -1125899906842624 ∨ 1125899906842624 < n) : numOf (itoa n) = 0 :=
  numOf_eq (.inr ⟨rfl, fun m a b e => by have := itoa_inj e; omega⟩)
theorem numOf_bound (s : List UInt8) : -1125899906842624 ≤ numOf s ∧ numOf s ≤ 1125899906842624 := (numOf_is s).bound
/-- What the program makes of what strconv.Atoi tells. -/
theorem num_ok {s : List UInt8} {n : Int} (h : atoiAll s = .ok n) : NumIs s (if itoa n = s ∧ -1125899906842624 ≤ n ∧ n ≤ 1125899906842624 then n else 0) := by
  split
  · rename_i hc
    exact .inl ⟨hc.2.1, hc.2.2, hc.1⟩
  · rename_i hc
    refine .inr ⟨rfl, fun m a b e => hc ?_⟩
    rw [← e, atoi_itoa (by omega) (by omega)] at h
    injection h with h
    subst h
    exact ⟨e, a, b⟩
theorem num_bad {s : List UInt8} (h : ∀ n, atoiAll s ≠ .ok n) : NumIs s 0 :=
  .inr ⟨rfl, fun m a b e => h m (by rw [← e]; exact atoi_itoa (by omega) (by omega))⟩
theorem itoa_len {n : Int} (h0 : -9999999999999999 ≤ n) (h1 : n ≤ 9999999999999999) : (itoa n).length ≤ 17 := by
  by_cases hn : n < 0
  · rw [itoa_minus hn, List.length_cons]
    have := dec_len (k := 15) (u := n.natAbs) (by have : (10 : Nat) ^ (15 + 1) = 10000000000000000 := by decide
                                                  omega)
    omega
  · rw [itoa_pos hn]
    have := dec_len (k := 15) (u := n.toNat) (by have : (10 : Nat) ^ (15 + 1) = 10000000000000000 := by decide
                                                 omega)
    omega
theorem itoa_len20 {n : Int} (h0 : -9223372036854775808 ≤ n) (h1 : n ≤ 9223372036854775807) : (itoa n).length ≤ 21 := by
  by_cases hn : n < 0
  · rw [itoa_minus hn, List.length_cons]
    have := dec_len (k := 19) (u := n.natAbs) (by have : (10 : Nat) ^ (19 + 1) = 100000000000000000000 := by decide
                                                  omega)
    omega
  · rw [itoa_pos hn]
    have := dec_len (k := 19) (u := n.toNat) (by have : (10 : Nat) ^ (19 + 1) = 100000000000000000000 := by decide
                                                 omega)
    omega
/-! ### The document's reading, digit by digit -/
/-- The digits without the sign. -/
def unsign (s : List UInt8) : List UInt8 := match s with
  | c :: r => if c.toNat = 45 then r else s
  | [] => []
theorem unsign_digit {c : UInt8} {r : List UInt8} (h : isD c) : unsign (c :: r) = c :: r := by
  unfold unsign
  dsimp only
  rw [if_neg (fun e => isD_not h (.inr e))]
theorem num_ref_short {s : List UInt8} (h : unsign s = [] ∨ 16 < (unsign s).length) : NumIs s 0 := by
  refine .inr ⟨rfl, fun n a b e => ?_⟩
  subst e
  by_cases hn : n < 0
  · rw [itoa_minus hn] at h
    have hu : unsign (45 :: decDigits n.natAbs) = decDigits n.natAbs := rfl
    rw [hu] at h
    have := dec_len (k := 15) (u := n.natAbs) (by have : (10 : Nat) ^ (15 + 1) = 10000000000000000 := by decide
                                                  omega)
    rcases h with h | h
    · exact dec_ne _ h
    · omega
  · rw [itoa_pos hn] at h
    have hu : unsign (decDigits n.toNat) = decDigits n.toNat := by
      rcases hd : decDigits n.toNat with _ | ⟨c, r⟩
      · rfl
      · exact unsign_digit (head_dec hd)
    rw [hu] at h
    have := dec_len (k := 15) (u := n.toNat) (by have : (10 : Nat) ^ (15 + 1) = 10000000000000000 := by decide
                                                 omega)
    rcases h with h | h
    · exact dec_ne _ h
    · omega
theorem unsign_itoa (n : Int) : ∀ c ∈ unsign (itoa n), isD c := by
  by_cases hn : n < 0
  · rw [itoa_minus hn]
    exact dec_isD _
  · rw [itoa_pos hn]
    rcases hd : decDigits n.toNat with _ | ⟨c, r⟩
    · exact absurd hd (dec_ne _)
    · rw [unsign_digit (head_dec hd), ← hd]
      exact dec_isD _
theorem num_ref_bad {s : List UInt8} {c : UInt8} (hc : c ∈ unsign s) (h : ¬ isD c) : NumIs s 0 :=
  .inr ⟨rfl, fun n a b e => h (unsign_itoa n c (by rw [e]; exact hc))⟩
/-- What the digits spell, with the sign. -/
def spell (s : List UInt8) : Int := if (unsign s).length < s.length then -(valD 0 (unsign s) : Int) else valD 0 (unsign s)
theorem spell_itoa (n : Int) : spell (itoa n) = n := by
  unfold spell
  by_cases hn : n < 0
  · rw [itoa_minus hn]
    have hu : unsign (45 :: decDigits n.natAbs) = decDigits n.natAbs := rfl
    rw [hu, if_pos (by simp), valD_dec]
    omega
  · rw [itoa_pos hn]
    have hu : unsign (decDigits n.toNat) = decDigits n.toNat := by
      rcases hd : decDigits n.toNat with _ | ⟨c, r⟩
      · rfl
      · exact unsign_digit (head_dec hd)
    rw [hu, if_neg (by omega), valD_dec]
    omega
theorem num_ref (s : List UInt8) : NumIs s (if -1125899906842624 ≤ spell s ∧ spell s ≤ 1125899906842624 ∧ itoa (spell s) = s then spell s else 0) := by
  split
  · rename_i h
    exact .inl h
  · rename_i h
    refine .inr ⟨rfl, fun n a b e => h ?_⟩
    subst e
    rw [spell_itoa]
    exact ⟨a, b, rfl⟩
theorem valD_bound : ∀ (l : List UInt8) (acc k : Nat), (∀ c ∈ l, isD c) → acc < 10 ^ k → valD acc l < 10 ^ (k + l.length)
  | [], acc, k, _, h => by simpa [valD] using h
  | c :: r, acc, k, h, ha => by
    have hc := h c (by simp)
    unfold isD at hc
    rw [valD_cons, List.length_cons, show k + (r.length + 1) = (k + 1) + r.length by omega]
    exact valD_bound r _ (k + 1) (fun x hx => h x (by simp [hx])) (by rw [Nat.pow_succ]; omega)
end Go.Proofs.YtbggadhaaphmcaaDoor
