/- The plain mathematics of layer 28: ceilings, waits and their sums. No program is spoken of. -/
import Derived.Lib.BitFns
namespace Go.Proofs.Ytekibpfpkbgjkab
open Go

theorem bitLen_zero : Lib.bitLen 0 = 0 := by decide
theorem bitLen_bd : ∀ (f x : Nat), x ≤ f → x < 2 ^ 64 → 1 ≤ x → 2 ^ (Lib.bitLen x - 1) ≤ x ∧ x < 2 ^ Lib.bitLen x ∧ 1 ≤ Lib.bitLen x := by
  intro f
  induction f with
  | zero => intro x h0 _ h1; omega
  | succ f ih =>
    intro x hf hx h1
    have e := Lib.bitLen_half x (by omega) hx
    by_cases h2 : x / 2 = 0
    · have : x = 1 := by omega
      subst this
      decide
    · obtain ⟨i1, i2, i3⟩ := ih (x / 2) (by omega) (by omega) (by omega)
      rw [e, show 1 + Lib.bitLen (x / 2) - 1 = Lib.bitLen (x / 2) - 1 + 1 by omega, show 1 + Lib.bitLen (x / 2) = Lib.bitLen (x / 2) + 1 by omega, Nat.pow_succ, Nat.pow_succ]
      omega

/-- The longest wait behind try n. -/
def ceil (b t : Int) (n : Nat) : Int := min (b * 2 ^ n) t

theorem pow_pos' (n : Nat) : (1 : Int) ≤ 2 ^ n := by
  have := Int.pow_pos (n := 2) (m := n) (by decide)
  omega
theorem pow_cast (n : Nat) : ((2 ^ n : Nat) : Int) = 2 ^ n := by simp

theorem ceil_top {b t : Int} {n : Nat} (h : t ≤ b * 2 ^ n) : ceil b t n = t := Int.min_eq_right h
theorem mul_mono {b : Int} (hb : 0 ≤ b) {m n : Nat} (h : m ≤ n) : b * 2 ^ m ≤ b * 2 ^ n := by
  refine Int.mul_le_mul_of_nonneg_left ?_ hb
  exact_mod_cast Nat.pow_le_pow_right (by decide) h
theorem ceil_late {b t : Int} {m n : Nat} (hb : 0 ≤ b) (h : m ≤ n) (ht : t ≤ b * 2 ^ m) : ceil b t n = t := ceil_top (Int.le_trans ht (mul_mono hb h))

theorem ceil_le (b t : Int) (n : Nat) : ceil b t n ≤ t := Int.min_le_right _ _
theorem le_mul_pow (b : Int) (n : Nat) (hb : 0 ≤ b) : b ≤ b * 2 ^ n := by
  have := mul_mono hb (Nat.zero_le n)
  simpa using this
theorem base_le_ceil {b t : Int} (n : Nat) (hb : 0 ≤ b) (hbt : b ≤ t) : b ≤ ceil b t n := Int.le_min.2 ⟨le_mul_pow b n hb, hbt⟩
theorem ceil_mono {b t : Int} (hb : 0 ≤ b) {m n : Nat} (h : m ≤ n) : ceil b t m ≤ ceil b t n := by
  unfold ceil
  have := mul_mono hb h
  omega
theorem ceil_twice {b t : Int} (hb : 0 ≤ b) (ht : 0 ≤ t) (n : Nat) : ceil b t (n + 1) ≤ 2 * ceil b t n := by
  unfold ceil
  have h : b * 2 ^ (n + 1) = 2 * (b * 2 ^ n) := by rw [Int.pow_succ]; rw [← Int.mul_assoc, Int.mul_comm]
  rw [h]
  have := le_mul_pow b n hb
  omega
theorem ceil_64 {b t : Int} (hb : 1 ≤ b) (ht : t ≤ 1099511627776) {n : Nat} (h : 64 ≤ n) : ceil b t n = t := by
  refine ceil_late (m := 64) (by omega) h ?_
  have : (1 : Int) * 2 ^ 64 ≤ b * 2 ^ 64 := Int.mul_le_mul_of_nonneg_right hb (by decide)
  have e : (2 : Int) ^ 64 = 18446744073709551616 := by decide
  omega

/-- More doublings than the lengths in bits differ by pass the cap. -/
theorem ceil_far {b t : Nat} (hb : 1 ≤ b) (hbt : b ≤ t) (ht : t ≤ 1099511627776) (n : Nat) (h : Lib.bitLen t < n + Lib.bitLen b) : ceil b t n = t := by
  obtain ⟨b1, b2, b3⟩ := bitLen_bd b b (Nat.le_refl _) (by omega) hb
  obtain ⟨t1, t2, t3⟩ := bitLen_bd t t (Nat.le_refl _) (by omega) (by omega)
  refine ceil_top ?_
  have h1 : 2 ^ Lib.bitLen t ≤ b * 2 ^ n := by
    calc 2 ^ Lib.bitLen t ≤ 2 ^ (Lib.bitLen b - 1 + n) := Nat.pow_le_pow_right (by decide) (by omega)
      _ = 2 ^ (Lib.bitLen b - 1) * 2 ^ n := Nat.pow_add _ _ _
      _ ≤ b * 2 ^ n := Nat.mul_le_mul_right _ b1
  have h2 : t ≤ b * 2 ^ n := by omega
  exact_mod_cast h2
/-- Fewer ones do not overflow. -/
theorem ceil_near {b t : Nat} (hb : 1 ≤ b) (hbt : b ≤ t) (ht : t ≤ 1099511627776) (n : Nat) (h : n + Lib.bitLen b ≤ Lib.bitLen t) : n ≤ 63 ∧ b * 2 ^ n ≤ 2199023255552 := by
  obtain ⟨b1, b2, b3⟩ := bitLen_bd b b (Nat.le_refl _) (by omega) hb
  obtain ⟨t1, t2, t3⟩ := bitLen_bd t t (Nat.le_refl _) (by omega) (by omega)
  have h1 : b * 2 ^ n ≤ 2 ^ Lib.bitLen t := by
    calc b * 2 ^ n ≤ 2 ^ Lib.bitLen b * 2 ^ n := Nat.mul_le_mul_right _ (by omega)
      _ = 2 ^ (Lib.bitLen b + n) := (Nat.pow_add _ _ _).symm
      _ ≤ 2 ^ Lib.bitLen t := Nat.pow_le_pow_right (by decide) (by omega)
  have h2 : 2 ^ Lib.bitLen t = 2 * 2 ^ (Lib.bitLen t - 1) := by
    rw [show Lib.bitLen t = Lib.bitLen t - 1 + 1 by omega, Nat.pow_succ, Nat.mul_comm]
    simp
  have h3 : Lib.bitLen t ≤ 42 := by
    rcases Nat.lt_or_ge 42 (Lib.bitLen t) with h | h
    · have : 2 ^ 42 ≤ 2 ^ (Lib.bitLen t - 1) := Nat.pow_le_pow_right (by decide) (by omega)
      omega
    · exact h
  omega

/-- The wait behind a try of that ceiling, at that draw. -/
def wait (c d : Int) : Int := (c + 1) / 2 + max d 0 % (c - (c + 1) / 2 + 1)
theorem wait_bd (c d : Int) (hc : 1 ≤ c) : (c + 1) / 2 ≤ wait c d ∧ wait c d ≤ c := by
  unfold wait
  have h1 : 0 ≤ max d 0 % (c - (c + 1) / 2 + 1) := Int.emod_nonneg _ (by omega)
  have h2 : max d 0 % (c - (c + 1) / 2 + 1) < c - (c + 1) / 2 + 1 := Int.emod_lt_of_pos _ (by omega)
  omega

/-- The sum of the first n ceilings. -/
def most (b t : Int) : Nat → Int
  | 0 => 0
  | n + 1 => most b t n + ceil b t n
theorem most_bd {b t : Int} (hb : 1 ≤ b) (hbt : b ≤ t) (ht : t ≤ 1099511627776) (n : Nat) : 0 ≤ most b t n ∧ most b t n ≤ n * 1099511627776 := by
  induction n with
  | zero => simp [most]
  | succ n ih =>
    have h1 := ceil_le b t n
    have h2 := base_le_ceil (t := t) n (by omega) hbt
    have : ((n + 1 : Nat) : Int) * 1099511627776 = n * 1099511627776 + 1099511627776 := by push_cast; rw [Int.add_mul, Int.one_mul]
    unfold most
    omega
theorem most_add {b t : Int} (hb : 1 ≤ b) (hbt : b ≤ t) (m d : Nat) : most b t m ≤ most b t (m + d) := by
  induction d with
  | zero => exact Int.le_refl _
  | succ d ih =>
    have h3 := base_le_ceil (t := t) (m + d) (show 0 ≤ b by omega) hbt
    show most b t m ≤ most b t (m + d) + ceil b t (m + d)
    omega
theorem most_mono {b t : Int} (hb : 1 ≤ b) (hbt : b ≤ t) {m n : Nat} (h : m ≤ n) : most b t m ≤ most b t n := by
  obtain ⟨d, rfl⟩ := Nat.le.dest h
  exact most_add hb hbt m d
end Go.Proofs.Ytekibpfpkbgjkab
