/- The contracts of package backoff and of the reference of layer 28. -/
import Derived.Test.YtekibpfpkbgjkabRows
import Derived.Test.YtekibpfpkbgjkabLib
import Derived.Test.YtekibpfpkbgjkabPlain
import Derived.Test.YtekibpfpkbgjkabShelf
namespace Go.Proofs.Ytekibpfpkbgjkab
open Go.RowKit
set_option linter.unusedVariables false

theorem right_yes (b t : Int) (h0 : 1 ≤ b) (h1 : b ≤ t) (h2 : t ≤ 1099511627776) (w : World) :
    Calls Try.prog 17 #[.int .i64 b, .int .i64 t] w fun e w' => e = .returned (.bool true) ∧ w = w' := by
  go_enter Try.func17, Try.ntmps17
  go_wp2
  go_ret
  exact ⟨rfl, rfl⟩
theorem right_no (b t : Int) (h : b < 1 ∨ t < b ∨ 1099511627776 < t) (w : World) :
    Calls Try.prog 17 #[.int .i64 b, .int .i64 t] w fun e w' => e = .returned (.bool false) ∧ w = w' := by
  by_cases h0 : 1 ≤ b
  · by_cases h1 : b ≤ t
    · have h2 : ¬ t ≤ 1099511627776 := by omega
      clear h
      go_enter Try.func17, Try.ntmps17
      go_wp2
      go_ret
      exact ⟨rfl, rfl⟩
    · clear h
      go_enter Try.func17, Try.ntmps17
      go_wp2
      go_ret
      exact ⟨rfl, rfl⟩
  · clear h
    go_enter Try.func17, Try.ntmps17
    go_wp2
    go_ret
    exact ⟨rfl, rfl⟩
theorem rright_yes (b t : Int) (h0 : 1 ≤ b) (h1 : b ≤ t) (h2 : t ≤ 1099511627776) (w : World) :
    Calls Try.prog 12 #[.int .i64 b, .int .i64 t] w fun e w' => e = .returned (.bool true) ∧ w = w' := by
  go_enter Try.func12, Try.ntmps12
  go_wp2
  go_ret
  exact ⟨rfl, rfl⟩
theorem rright_no (b t : Int) (h : b < 1 ∨ t < b ∨ 1099511627776 < t) (w : World) :
    Calls Try.prog 12 #[.int .i64 b, .int .i64 t] w fun e w' => e = .returned (.bool false) ∧ w = w' := by
  by_cases h0 : 1 ≤ b
  · by_cases h1 : b ≤ t
    · have h2 : ¬ t ≤ 1099511627776 := by omega
      clear h
      go_enter Try.func12, Try.ntmps12
      go_wp2
      go_ret
      exact ⟨rfl, rfl⟩
    · clear h
      go_enter Try.func12, Try.ntmps12
      go_wp2
      go_ret
      exact ⟨rfl, rfl⟩
  · clear h
    go_enter Try.func12, Try.ntmps12
    go_wp2
    go_ret
    exact ⟨rfl, rfl⟩

def Bad (b t : Int) : Prop := b < 1 ∨ t < b ∨ 1099511627776 < t

theorem ceiling_bad (b t n : Int) (h : Bad b t) (w : World) :
    Calls Try.prog 11 #[.int .i64 b, .int .i64 t, .int .i64 n] w fun e w' => e = .returned (.tuple #[.int .i64 0, .int .i64 1]) ∧ w = w' := by
  go_enter Try.func11, Try.ntmps11
  go_wp2_with (go_at_call 17; refine (right_no _ _ h _).mono ?_; rintro e w' ⟨rfl, rfl⟩)
  go_ret2
  exact ⟨rfl, rfl⟩
theorem ceiling_neg (b t n : Int) (h0 : 1 ≤ b) (h1 : b ≤ t) (h2 : t ≤ 1099511627776) (h : n < 0) (w : World) :
    Calls Try.prog 11 #[.int .i64 b, .int .i64 t, .int .i64 n] w fun e w' => e = .returned (.tuple #[.int .i64 0, .int .i64 1]) ∧ w = w' := by
  go_enter Try.func11, Try.ntmps11
  go_wp2_with (go_at_call 17; refine (right_yes _ _ h0 h1 h2 _).mono ?_; rintro e w' ⟨rfl, rfl⟩)
  go_ret2
  exact ⟨rfl, rfl⟩

theorem len_at (x : Int) (l : Int) (h0 : 0 ≤ x) (h1 : x ≤ 1099511627776) (hl : (Lib.bitLen x.toNat : Int) = l) (w : World) :
    Calls Try.prog 18 #[.int .u64 x] w fun e w' => e = .returned (.int .i64 l) ∧ w = w' := by
  have := Try.bits_Len x w h0 (by omega)
  rw [hl] at this
  exact this.mono fun e w' h => ⟨h.1, h.2.symm⟩

theorem ceiling_any (b t n : Int) (h0 : 1 ≤ b) (h1 : b ≤ t) (h2 : t ≤ 1099511627776) (h3 : 0 ≤ n) (h4 : n ≤ 9223372036854775807) (w : World) :
    Calls Try.prog 11 #[.int .i64 b, .int .i64 t, .int .i64 n] w fun e w' => e = .returned (.tuple #[.int .i64 (ceil b t n.toNat), .int .i64 0]) ∧ w = w' := by
  obtain ⟨B, rfl⟩ := Int.eq_ofNat_of_zero_le (show 0 ≤ b by omega)
  obtain ⟨T, rfl⟩ := Int.eq_ofNat_of_zero_le (show 0 ≤ t by omega)
  obtain ⟨N, rfl⟩ := Int.eq_ofNat_of_zero_le h3
  have hB : Lib.bitLen B ≤ 41 ∧ Lib.bitLen T ≤ 41 := by
    obtain ⟨b1, b2, b3⟩ := bitLen_bd B B (Nat.le_refl _) (by omega) (by omega)
    obtain ⟨t1, t2, t3⟩ := bitLen_bd T T (Nat.le_refl _) (by omega) (by omega)
    constructor
    · rcases Nat.lt_or_ge 41 (Lib.bitLen B) with h | h
      · have : 2 ^ 41 ≤ 2 ^ (Lib.bitLen B - 1) := Nat.pow_le_pow_right (by decide) (by omega)
        omega
      · exact h
    · rcases Nat.lt_or_ge 41 (Lib.bitLen T) with h | h
      · have : 2 ^ 41 ≤ 2 ^ (Lib.bitLen T - 1) := Nat.pow_le_pow_right (by decide) (by omega)
        omega
      · exact h
  have hfar := ceil_far (b := B) (t := T) (by omega) (by omega) (by omega) N
  have hnear := ceil_near (b := B) (t := T) (by omega) (by omega) (by omega) N
  have LB := Lib.hid (len_at B (Lib.bitLen B) (by omega) (by omega) (by simp))
  have LT := Lib.hid (len_at T (Lib.bitLen T) (by omega) (by omega) (by simp))
  obtain ⟨hB1, hB2⟩ := hB
  generalize Lib.bitLen B = lb at *
  generalize Lib.bitLen T = lt at *
  rw [Int.toNat_natCast]
  by_cases hc : (lt : Int) - lb < N
  · have e := hfar (by omega)
    rw [e]
    clear hfar hnear e
    go_enter Try.func11, Try.ntmps11
    go_wp2_with fail
    refine (right_yes _ _ h0 h1 h2 _).mono ?_
    rintro e w' ⟨rfl, rfl⟩
    go_wp2_with fail
    refine (LT.out _).mono ?_
    rintro e w' ⟨rfl, rfl⟩
    go_wp2_with fail
    refine (LB.out _).mono ?_
    rintro e w' ⟨rfl, rfl⟩
    go_wp2_with fail
    go_ret2
    exact ⟨rfl, rfl⟩
  · obtain ⟨n1, n2⟩ := hnear (by omega)
    clear hfar hnear
    have p0 : (0 : Int) ≤ (B : Int) * 2 ^ N := Int.mul_nonneg (by omega) (by have := pow_pos' N; omega)
    have p1 : (B : Int) * 2 ^ N ≤ 2199023255552 := by rw [← pow_cast, ← Int.natCast_mul]; omega
    clear n2
    go_enter Try.func11, Try.ntmps11
    go_wp2_with fail
    refine (right_yes _ _ h0 h1 h2 _).mono ?_
    rintro e w' ⟨rfl, rfl⟩
    go_wp2_with fail
    refine (LT.out _).mono ?_
    rintro e w' ⟨rfl, rfl⟩
    go_wp2_with fail
    refine (LB.out _).mono ?_
    rintro e w' ⟨rfl, rfl⟩
    go_wp2_with fail
    go_ret2
    exact ⟨rfl, rfl⟩

/-- Tries at block b. -/
def Trs (w : World) (g : Nat) (b t tries made waited : Int) : Prop := Blk w g 39 #[.int .i64 b, .int .i64 t, .int .i64 tries, .int .i64 made, .int .i64 waited]

theorem new_bad (b t n : Int) (h : Bad b t) (w : World) :
    Calls Try.prog 7 #[.int .i64 b, .int .i64 t, .int .i64 n] w fun e w' => e = .returned (.tuple #[.pointer none, .int .i64 1]) ∧ w = w' := by
  go_enter Try.func7, Try.ntmps7
  go_wp2_with (go_at_call 17; refine (right_no _ _ h _).mono ?_; rintro e w' ⟨rfl, rfl⟩)
  go_ret2
  exact ⟨rfl, rfl⟩
theorem new_out (b t n : Int) (h0 : 1 ≤ b) (h1 : b ≤ t) (h2 : t ≤ 1099511627776) (h : n < 1 ∨ 64 < n) (w : World) :
    Calls Try.prog 7 #[.int .i64 b, .int .i64 t, .int .i64 n] w fun e w' => e = .returned (.tuple #[.pointer none, .int .i64 1]) ∧ w = w' := by
  by_cases hn : n < 1
  · clear h
    go_enter Try.func7, Try.ntmps7
    go_wp2_with (go_at_call 17; refine (right_yes _ _ h0 h1 h2 _).mono ?_; rintro e w' ⟨rfl, rfl⟩)
    go_ret2
    exact ⟨rfl, rfl⟩
  · have hn' : 64 < n := by omega
    clear h
    go_enter Try.func7, Try.ntmps7
    go_wp2_with (go_at_call 17; refine (right_yes _ _ h0 h1 h2 _).mono ?_; rintro e w' ⟨rfl, rfl⟩)
    go_ret2
    exact ⟨rfl, rfl⟩
theorem new_in (b t n : Int) (h0 : 1 ≤ b) (h1 : b ≤ t) (h2 : t ≤ 1099511627776) (h3 : 1 ≤ n) (h4 : n ≤ 64) (w : World) :
    Calls Try.prog 7 #[.int .i64 b, .int .i64 t, .int .i64 n] w fun e w' => e = .returned (.tuple #[.pointer (some ⟨w.heap.size, 0, none⟩), .int .i64 0]) ∧
      w' = w.alloc (.cells #[.int .i64 b, .int .i64 t, .int .i64 n, .int .i64 0, .int .i64 0] 39) := by
  have h5 : ¬ n < 1 := by omega
  have h6 : ¬ 64 < n := by omega
  go_enter Try.func7, Try.ntmps7
  go_wp2_with (go_at_call 17; refine (right_yes _ _ h0 h1 h2 _).mono ?_; rintro e w' ⟨rfl, rfl⟩)
  go_ret2
  exact ⟨rfl, rfl⟩

theorem next_nil (d : Int) (w : World) : Calls Try.prog 9 #[.pointer none, .int .i64 d] w fun e w' => e = .returned (.tuple #[.int .i64 0, .int .i64 1]) ∧ w = w' := by
  go_enter Try.func9, Try.ntmps9
  go_wp2_with fail
  go_ret2
  exact ⟨rfl, rfl⟩
theorem next_gone (g : Nat) (b t tries made waited d : Int) (w : World) (h : Trs w g b t tries made waited) (hm : tries ≤ made) :
    Calls Try.prog 9 #[.pointer (some ⟨g, 0, none⟩), .int .i64 d] w fun e w' => e = .returned (.tuple #[.int .i64 0, .int .i64 9]) ∧ Trs w' g b t tries made waited ∧ w.grownBy w' (some g) := by
  have c2 := h.cell 2
  have c3 := h.cell 3
  simp at c2 c3
  have H := Lib.hid h; clear h
  go_enter Try.func9, Try.ntmps9
  go_wp2_with fail
  go_quiet (fail)
  go_wp2_with fail
  go_ret2
  exact ⟨rfl, H.out.drewN _, only_drewN (World.grownBy.refl _ _) _⟩

theorem next_in (g : Nat) (b t tries made waited d : Int) (w : World) (h : Trs w g b t tries made waited) (h0 : 1 ≤ b) (h1 : b ≤ t) (h2 : t ≤ 1099511627776) (hm : made < tries) (ht : tries ≤ 64)
    (hm0 : 0 ≤ made) (hw0 : 0 ≤ waited) (hw1 : waited ≤ 100000000000000) :
    Calls Try.prog 9 #[.pointer (some ⟨g, 0, none⟩), .int .i64 d] w fun e w' => e = .returned (.tuple #[.int .i64 (wait (ceil b t made.toNat) d), .int .i64 0]) ∧
      Trs w' g b t tries (made + 1) (waited + wait (ceil b t made.toNat) d) ∧ w.grownBy w' (some g) := by
  have c0 := h.cell 0
  have c1 := h.cell 1
  have c2 := h.cell 2
  have c3 := h.cell 3
  have c4 := h.cell 4
  have f3 := h.frozen 3
  have f4 := h.frozen 4
  simp at c0 c1 c2 c3 c4
  have H := Lib.hid h; clear h
  have HC := Lib.hid (ceiling_any b t made h0 h1 h2 hm0 (by omega))
  have u0 := base_le_ceil (t := t) made.toNat (show 0 ≤ b by omega) h1
  have u1 := ceil_le b t made.toNat
  generalize ceil b t made.toNat = c at *
  have hwt := wait_bd c d (by omega)
  have h5 : ¬ tries ≤ made := by omega
  have h6 : 0 < c - (c + 1) / 2 + 1 := by omega
  have h7 : ¬ c - (c + 1) / 2 + 1 = 0 := by omega
  have e0 : 0 ≤ max d 0 % (c - (c + 1) / 2 + 1) := Int.emod_nonneg _ (by omega)
  have e1 : max d 0 % (c - (c + 1) / 2 + 1) < c - (c + 1) / 2 + 1 := Int.emod_lt_of_pos _ (by omega)
  have e2 : 0 ≤ max d 0 := by omega
  clear hwt
  go_enter Try.func9, Try.ntmps9
  go_wp2_with fail
  go_quiet (fail)
  go_wp2_with fail
  go_quiet ((first | (go_at_call 11; exact quiet_add_left (HC.out _))))
  go_wp2_with fail
  go_ret2
  refine ⟨rfl, ?_, ?_⟩
  · exact ((H.out.set_ 3 _).set_ 4 _).drewN _
  · repeat (first | exact World.grownBy.refl _ _ | with_reducible refine only_drewN ?_ _ | with_reducible refine only_setCell ?_ (Or.inl rfl) _)

theorem waited_nil (w : World) : Calls Try.prog 10 #[.pointer none] w fun e w' => e = .returned (.int .i64 0) ∧ w = w' := by
  go_enter Try.func10, Try.ntmps10
  go_wp2_with fail
  go_ret
  exact ⟨rfl, rfl⟩
theorem waited_any (g : Nat) (b t tries made waited : Int) (w : World) (h : Trs w g b t tries made waited) :
    Calls Try.prog 10 #[.pointer (some ⟨g, 0, none⟩)] w fun e w' => e = .returned (.int .i64 waited) ∧ w = w' := by
  have c4 := h.cell 4
  simp at c4
  clear h
  go_enter Try.func10, Try.ntmps10
  go_wp2_with fail
  go_ret
  exact ⟨rfl, rfl⟩
theorem left_nil (w : World) : Calls Try.prog 16 #[.pointer none] w fun e w' => e = .returned (.int .i64 0) ∧ w = w' := by
  go_enter Try.func16, Try.ntmps16
  go_wp2_with fail
  go_ret
  exact ⟨rfl, rfl⟩
theorem left_any (g : Nat) (b t tries made waited : Int) (w : World) (h : Trs w g b t tries made waited) (h0 : 0 ≤ made) (h1 : made ≤ tries) (h2 : tries ≤ 64) :
    Calls Try.prog 16 #[.pointer (some ⟨g, 0, none⟩)] w fun e w' => e = .returned (.int .i64 (tries - made)) ∧ ∃ k, w' = w.drewN k := by
  have c2 := h.cell 2
  have c3 := h.cell 3
  simp at c2 c3
  clear h
  go_enter Try.func16, Try.ntmps16
  go_wp2_with fail
  go_quiet (fail)
  go_wp2_with fail
  go_ret
  exact ⟨rfl, _, rfl⟩
theorem reset_any (g : Nat) (b t tries made waited : Int) (w : World) (h : Trs w g b t tries made waited) :
    Calls Try.prog 14 #[.pointer (some ⟨g, 0, none⟩)] w fun e w' => e = .returned (.tuple #[]) ∧ Trs w' g b t tries 0 0 ∧ w.grownBy w' (some g) := by
  have c3 := h.cell 3
  have c4 := h.cell 4
  have f3 := h.frozen 3
  have f4 := h.frozen 4
  simp at c3 c4
  have H := Lib.hid h; clear h
  go_enter Try.func14, Try.ntmps14
  go_wp2_with fail
  go_end0
  refine ⟨rfl, (H.out.set_ 3 _).set_ 4 _, ?_⟩
  repeat (first | exact World.grownBy.refl _ _ | with_reducible refine only_drewN ?_ _ | with_reducible refine only_setCell ?_ (Or.inl rfl) _)

theorem most_bad (b t n : Int) (h : Bad b t) (w : World) :
    Calls Try.prog 8 #[.int .i64 b, .int .i64 t, .int .i64 n] w fun e w' => e = .returned (.tuple #[.int .i64 0, .int .i64 1]) ∧ w = w' := by
  have H := Lib.hid h; clear h
  go_enter Try.func8, Try.ntmps8
  go_wp2_with (go_at_call 7; refine (new_bad _ _ _ H.out _).mono ?_; rintro e w' ⟨rfl, rfl⟩)
  go_ret2
  exact ⟨rfl, rfl⟩
theorem most_out (b t n : Int) (h0 : 1 ≤ b) (h1 : b ≤ t) (h2 : t ≤ 1099511627776) (h : n < 1 ∨ 64 < n) (w : World) :
    Calls Try.prog 8 #[.int .i64 b, .int .i64 t, .int .i64 n] w fun e w' => e = .returned (.tuple #[.int .i64 0, .int .i64 1]) ∧ w = w' := by
  have H := Lib.hid h; clear h
  go_enter Try.func8, Try.ntmps8
  go_wp2_with (go_at_call 7; refine (new_out _ _ _ h0 h1 h2 H.out _).mono ?_; rintro e w' ⟨rfl, rfl⟩)
  go_ret2
  exact ⟨rfl, rfl⟩
theorem most_in (b t : Int) (n : Nat) (h0 : 1 ≤ b) (h1 : b ≤ t) (h2 : t ≤ 1099511627776) (h3 : 1 ≤ n) (h4 : n ≤ 64) (w : World) :
    Calls Try.prog 8 #[.int .i64 b, .int .i64 t, .int .i64 n] w fun e w' => e = .returned (.tuple #[.int .i64 (most b t n), .int .i64 0]) ∧ Below w.heap.size w w' := by
  go_enter Try.func8, Try.ntmps8
  go_wp2_with fail
  refine (new_in b t n h0 h1 h2 (by omega) (by omega) _).mono ?_
  rintro e w1 ⟨rfl, hw1⟩
  have b1 : Below w.heap.size w w1 := by rw [hw1]; exact (Below.refl _ _).alloc (Nat.le_refl _) _
  clear hw1
  go_wp2_with fail
  go_loop [10, 25] (fun s i => ∃ k : Nat, k ≤ n ∧ i = .int .i64 k ∧ s = .int .i64 (most b t k)) (fun _ i => n - (intOf i).toNat)
  case atStart => exact ⟨0, Nat.zero_le _, rfl, rfl⟩
  case round =>
    obtain ⟨k, hk, rfl, rfl⟩ := hrel
    by_cases hlt : k < n
    · have mb := most_bd h0 h1 h2 k
      have hcl := ceil_le b t k
      have hcb := base_le_ceil (t := t) k (show 0 ≤ b by omega) h1
      have HM := Lib.hid (show most b t (k + 1) = most b t k + ceil b t k from rfl)
      have HC := Lib.hid (ceiling_any b t k h0 h1 h2 (by omega) (by omega))
      rw [Int.toNat_natCast] at HC
      have mk : (k : Int) * 1099511627776 ≤ 64 * 1099511627776 := Int.mul_le_mul_of_nonneg_right (by omega) (by decide)
      generalize ceil b t k = c at *
      generalize most b t k = s at *
      go_wp2_with fail
      refine (HC.out _).mono ?_
      rintro e w2 ⟨rfl, rfl⟩
      go_wp2_with fail
      go_round
      case rel => exact ⟨k + 1, by omega, by go_num, by rw [HM.out]⟩
      case measure => simp [intOf]; omega
    · have hk' : k = n := by omega
      subst hk'
      go_wp2_with fail
      go_ret2
      exact ⟨rfl, b1⟩

/-- The reference's ceiling: doubled one by one. -/
theorem rceiling_any (b t : Int) (n : Nat) (h0 : 1 ≤ b) (h1 : b ≤ t) (h2 : t ≤ 1099511627776) (h3 : (n : Int) ≤ 9223372036854775807) (w : World) :
    Calls Try.prog 13 #[.int .i64 b, .int .i64 t, .int .i64 n] w fun e w' => e = .returned (.int .i64 (ceil b t n)) ∧ w = w' := by
  go_enter Try.func13, Try.ntmps13
  go_wp2_with fail
  go_loop [0, 7] (fun s i => ∃ k : Nat, k ≤ n ∧ i = .int .i64 k ∧ s = .int .i64 (b * 2 ^ k) ∧ b * 2 ^ k ≤ 2 * t) (fun _ i => n - (intOf i).toNat)
  case atStart => exact ⟨0, Nat.zero_le _, rfl, by simp, by simp; omega⟩
  case round =>
    obtain ⟨k, hk, rfl, rfl, hb⟩ := hrel
    have hp := le_mul_pow b k (by omega)
    have he : b * 2 ^ (k + 1) = b * 2 ^ k * 2 := by rw [Int.pow_succ, Int.mul_assoc]
    by_cases hlt : k < n
    · by_cases hx : b * 2 ^ k < t
      · have HE := Lib.hid he; clear he
        generalize b * 2 ^ k = x at *
        go_wp2_with fail
        go_round
        case rel => exact ⟨k + 1, by omega, by go_num, by rw [HE.out], by rw [HE.out]; omega⟩
        case measure => simp [intOf]; omega
      · have HCe := Lib.hid (show ceil b t n = t from ceil_late (m := k) (by omega) hk (by omega))
        clear he
        generalize b * 2 ^ k = x at *
        by_cases hxt : t < x
        · go_wp2_with fail
          go_ret
          exact ⟨by rw [HCe.out]; rfl, rfl⟩
        · have hxe : x = t := by omega
          subst hxe
          go_wp2_with fail
          go_ret
          exact ⟨by rw [HCe.out]; rfl, rfl⟩
    · have hk' : k = n := by omega
      subst hk'
      have HCe := Lib.hid (show ceil b t k = if t < b * 2 ^ k then t else b * 2 ^ k by unfold ceil; split <;> omega)
      clear he
      generalize b * 2 ^ k = x at *
      by_cases hxt : t < x
      · go_wp2_with fail
        go_ret
        exact ⟨by rw [HCe.out, if_pos hxt]; rfl, rfl⟩
      · go_wp2_with fail
        go_ret
        exact ⟨by rw [HCe.out, if_neg (by omega)]; rfl, rfl⟩

theorem rwait_any (c d : Int) (h0 : 1 ≤ c) (h1 : c ≤ 1099511627776) (w : World) :
    Calls Try.prog 15 #[.int .i64 c, .int .i64 d] w fun e w' => e = .returned (.int .i64 (wait c d)) ∧ w = w' := by
  have hh : c - c / 2 = (c + 1) / 2 := by omega
  by_cases hd : d < 0
  · have e0 : 0 ≤ (0 : Int) % (c - (c - c / 2) + 1) := by simp
    have hw : wait c d = c - c / 2 + 0 % (c - (c - c / 2) + 1) := by unfold wait; rw [← hh, Int.max_eq_right (by omega)]
    rw [hw]; clear hw hh
    have h5 : ¬ c - (c - c / 2) + 1 = 0 := by omega
    go_enter Try.func15, Try.ntmps15
    go_wp2_with fail
    go_ret
    exact ⟨by simp, rfl⟩
  · have e0 : 0 ≤ d % (c - (c - c / 2) + 1) := Int.emod_nonneg _ (by omega)
    have e1 : d % (c - (c - c / 2) + 1) < c - (c - c / 2) + 1 := Int.emod_lt_of_pos _ (by omega)
    have hw : wait c d = c - c / 2 + d % (c - (c - c / 2) + 1) := by unfold wait; rw [← hh, Int.max_eq_left (by omega)]
    rw [hw]; clear hw hh
    have h5 : ¬ c - (c - c / 2) + 1 = 0 := by omega
    go_enter Try.func15, Try.ntmps15
    go_wp2_with fail
    go_ret
    exact ⟨rfl, rfl⟩
end Go.Proofs.Ytekibpfpkbgjkab
