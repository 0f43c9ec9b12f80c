/- The walks of the three laws of layer 28. -/
import Derived.Test.YtekibpfpkbgjkabFns
import Derived.Test.YtekibpfpkbgjkabLibArgs
namespace Go.Proofs.Ytekibpfpkbgjkab
open Go.RowKit
set_option linter.unusedVariables false

theorem ceiling_at (b t n r : Int) (hr : ceil b t n.toNat = r) (h0 : 1 ≤ b) (h1 : b ≤ t) (h2 : t ≤ 1099511627776) (h3 : 0 ≤ n) (h4 : n ≤ 9223372036854775807) (w : World) :
    Calls Try.prog 11 #[.int .i64 b, .int .i64 t, .int .i64 n] w fun e w' => e = .returned (.tuple #[.int .i64 r, .int .i64 0]) ∧ w = w' := by
  have := ceiling_any b t n h0 h1 h2 h3 h4 w
  rwa [hr] at this
theorem next_at (b t tries made waited d x made' waited' : Int) (hx : wait (ceil b t made.toNat) d = x) (hm' : made + 1 = made') (hw' : waited + x = waited') (h0 : 1 ≤ b) (h1 : b ≤ t) (h2 : t ≤ 1099511627776) (hm : made < tries) (ht : tries ≤ 64)
    (hm0 : 0 ≤ made) (hw0 : 0 ≤ waited) (hw1 : waited ≤ 100000000000000) (g : Nat) (w : World) (h : Trs w g b t tries made waited) :
    Calls Try.prog 9 #[.pointer (some ⟨g, 0, none⟩), .int .i64 d] w fun e w' => e = .returned (.tuple #[.int .i64 x, .int .i64 0]) ∧ Trs w' g b t tries made' waited' ∧ w.grownBy w' (some g) := by
  have := next_in g b t tries made waited d w h h0 h1 h2 hm ht hm0 hw0 hw1
  rw [hx, hm', hw'] at this
  exact this
theorem most_at (b t : Int) (n : Nat) (r : Int) (hr : most b t n = r) (h0 : 1 ≤ b) (h1 : b ≤ t) (h2 : t ≤ 1099511627776) (h3 : 1 ≤ n) (h4 : n ≤ 64) (w : World) :
    Calls Try.prog 8 #[.int .i64 b, .int .i64 t, .int .i64 n] w fun e w' => e = .returned (.tuple #[.int .i64 r, .int .i64 0]) ∧ Below w.heap.size w w' := by
  have := most_in b t n h0 h1 h2 h3 h4 w
  rwa [hr] at this

set_option maxRecDepth 100000 in
set_option maxHeartbeats 2000000 in
theorem fixed_true (w : World) : Calls Try.prog 6 #[] w fun e w' => e = .returned (.bool true) ∧ Below w.heap.size w w' := by
  have a1 := Lib.hid (ceiling_at 4 10 1 8 (by decide) (by decide) (by decide) (by decide) (by decide) (by decide))
  have a2 := Lib.hid (ceiling_at 4 10 2 10 (by decide) (by decide) (by decide) (by decide) (by decide) (by decide))
  have a3 := Lib.hid (next_at 4 10 2 0 0 1 3 1 3 (by decide) rfl rfl (by decide) (by decide) (by decide) (by decide) (by decide) (by decide) (by decide) (by decide))
  have a4 := Lib.hid (next_at 4 10 2 1 3 (-5) 4 2 7 (by decide) rfl rfl (by decide) (by decide) (by decide) (by decide) (by decide) (by decide) (by decide) (by decide))
  have a5 := Lib.hid (most_at 4 10 4 32 (by decide) (by decide) (by decide) (by decide) (by decide) (by decide))
  go_enter Try.func6, Try.ntmps6
  go_wp2_with fail
  with_reducible refine (a1.out _).mono ?_
  rintro e w1 ⟨rfl, rfl⟩
  go_wp2_with fail
  with_reducible refine (a2.out _).mono ?_
  rintro e w1 ⟨rfl, rfl⟩
  go_wp2_with fail
  with_reducible refine (new_in 4 10 2 (by decide) (by decide) (by decide) (by decide) (by decide) _).mono ?_
  rintro e w1 ⟨rfl, hw1⟩
  have s1 : Trs w1 w.heap.size 4 10 2 0 0 := by rw [hw1]; exact Blk.new _ _ _
  have b1 : Below w.heap.size w w1 := by rw [hw1]; exact (Below.refl _ _).alloc (Nat.le_refl _) _
  clear hw1
  go_wp2_with fail
  with_reducible refine (a3.out _ _ s1).mono ?_
  rintro e w2 ⟨rfl, s2, g2⟩
  go_wp2_with fail
  with_reducible refine (a4.out _ _ s2).mono ?_
  rintro e w3 ⟨rfl, s3, g3⟩
  go_wp2_with fail
  with_reducible refine (next_gone _ _ _ _ _ _ _ _ s3 (by decide)).mono ?_
  rintro e w4 ⟨rfl, s4, g4⟩
  go_wp2_with fail
  refine (a5.out _).mono ?_
  rintro e w5 ⟨rfl, b5⟩
  have s5 : Trs w5 w.heap.size 4 10 2 2 7 := Blk.below s4 b5 s4.lt
  go_wp2_with fail
  with_reducible refine (new_bad 5 4 1 (by unfold Bad; decide) _).mono ?_
  rintro e w' ⟨rfl, rfl⟩
  go_wp2_with fail
  with_reducible refine (next_nil 0 _).mono ?_
  rintro e w' ⟨rfl, rfl⟩
  go_wp2_with fail
  with_reducible refine (left_any _ _ _ _ _ _ _ s5 (by decide) (by decide) (by decide)).mono ?_
  rintro e w6 ⟨rfl, k, hw6⟩
  have s6 : Trs (w5.drewN k) w.heap.size 4 10 2 2 7 := Blk.drewN s5 k
  rw [← hw6] at s6
  have HW6 := Lib.hid hw6; clear hw6
  go_wp2_with fail
  with_reducible refine (waited_any _ _ _ _ _ _ _ s6).mono ?_
  rintro e w' ⟨rfl, rfl⟩
  go_wp2_with fail
  with_reducible refine (left_nil _).mono ?_
  rintro e w' ⟨rfl, rfl⟩
  go_wp2_with fail
  go_ret
  refine ⟨rfl, ?_⟩
  have hr : ∀ k, some w.heap.size = some k → w.heap.size ≤ k := by rintro k hk; injection hk with hk; omega
  have B2 := b1.grown g2 b1.size hr
  have B3 := B2.grown g3 B2.size hr
  have B4 := B3.grown g4 B3.size hr
  have B5 := B4.trans (b5.mono B4.size)
  rw [HW6.out]
  exact below_drewN B5 k

set_option maxHeartbeats 4000000 in
theorem ceilings_walk (b t n : Int) (hn : n ≤ 9223372036854775807) (w : World) :
    Calls Try.prog 4 #[.int .i64 b, .int .i64 t, .int .i64 n] w fun e w' => e = .returned (.bool true) ∧ Below w.heap.size w w' := by
  by_cases hb : Bad b t
  · have HB := Lib.hid (show b < 1 ∨ t < b ∨ 1099511627776 < t from hb)
    go_enter Try.func4, Try.ntmps4
    go_wp2_with fail
    with_reducible refine (fixed_true _).mono ?_
    rintro e w1 ⟨rfl, b1⟩
    go_wp2_with fail
    with_reducible refine (ceiling_bad _ _ _ hb _).mono ?_
    rintro e w' ⟨rfl, rfl⟩
    go_wp2_with fail
    with_reducible refine (rright_no _ _ HB.out _).mono ?_
    rintro e w' ⟨rfl, rfl⟩
    go_wp2_with fail
    go_ret
    exact ⟨rfl, b1⟩
  · have h0 : 1 ≤ b := by unfold Bad at hb; omega
    have h1 : b ≤ t := by unfold Bad at hb; omega
    have h2 : t ≤ 1099511627776 := by unfold Bad at hb; omega
    clear hb
    by_cases hneg : n < 0
    · go_enter Try.func4, Try.ntmps4
      go_wp2_with fail
      with_reducible refine (fixed_true _).mono ?_
      rintro e w1 ⟨rfl, b1⟩
      go_wp2_with fail
      with_reducible refine (ceiling_neg _ _ _ h0 h1 h2 hneg _).mono ?_
      rintro e w' ⟨rfl, rfl⟩
      go_wp2_with fail
      with_reducible refine (rright_yes _ _ h0 h1 h2 _).mono ?_
      rintro e w' ⟨rfl, rfl⟩
      go_wp2_with fail
      go_ret
      exact ⟨rfl, b1⟩
    · obtain ⟨N, rfl⟩ := Int.eq_ofNat_of_zero_le (show 0 ≤ n by omega)
      have key : ∃ x y : Int, ceil b t N = x ∧ (∀ m : Int, m = N - 1 → 0 ≤ m → ceil b t m.toNat = y) ∧ (N = 0 → x = y) ∧ (N = 0 → ceil b t 0 = y) ∧ y ≤ x ∧ x - y ≤ y ∧ 0 ≤ y ∧ x ≤ 1099511627776 ∧ (64 ≤ N → x = t) := by
        cases N with
        | zero =>
          have h4 := base_le_ceil (t := t) 0 (show 0 ≤ b by omega) h1
          have h5 := ceil_le b t 0
          exact ⟨_, _, rfl, fun m h h' => by omega, fun _ => rfl, fun _ => rfl, Int.le_refl _, by omega, by omega, by omega, fun h => by omega⟩
        | succ N =>
          have h3 := ceil_mono (b := b) (t := t) (by omega) (Nat.le_succ N)
          have h4 := base_le_ceil (t := t) N (show 0 ≤ b by omega) h1
          have h5 := ceil_le b t (N + 1)
          have h6 := ceil_twice (b := b) (t := t) (by omega) (by omega) N
          refine ⟨_, ceil b t N, rfl, fun m h h' => ?_, fun h => by omega, fun h => by omega, h3, by omega, by omega, by omega, fun h => ceil_64 h0 h2 h⟩
          rw [show m.toNat = N by omega]
      obtain ⟨x, y, hx, hy, hxy0, hy0, k1, k2, k3, k5, k4⟩ := key
      have c1 := Lib.hid (ceiling_at b t N x (by simpa using hx) h0 h1 h2 (by omega) hn)
      have c2 := Lib.hid (fun w => rceiling_any b t N h0 h1 h2 hn w)
      rw [hx] at c2
      have HY := Lib.hid hy; clear hy
      have HY0 := Lib.hid hy0; clear hy0
      clear hx hxy0
      have k4' : N < 64 ∨ (x == t) = true := by
        by_cases h : N < 64
        · exact .inl h
        · exact .inr (by rw [beq_iff_eq]; exact k4 (by omega))
      clear k4
      by_cases hN : N = 0
      · subst hN
        clear k4'
        have c3 := Lib.hid (ceiling_at b t (max (-1) 0) y (by rw [show (max (-1 : Int) 0).toNat = 0 from by decide]; exact HY0.out rfl) h0 h1 h2 (by omega) (by omega))
        go_enter Try.func4, Try.ntmps4
        go_wp2_with fail
        with_reducible refine (fixed_true _).mono ?_
        rintro e w1 ⟨rfl, b1⟩
        go_wp2_with fail
        refine (c1.out _).mono ?_
        rintro e w' ⟨rfl, rfl⟩
        go_wp2_with fail
        with_reducible refine (rright_yes _ _ h0 h1 h2 _).mono ?_
        rintro e w' ⟨rfl, rfl⟩
        go_wp2_with fail
        with_reducible refine (c3.out _).mono ?_
        rintro e w' ⟨rfl, rfl⟩
        go_wp2_with fail
        refine (c2.out _).mono ?_
        rintro e w' ⟨rfl, rfl⟩
        go_wp2_with fail
        go_ret
        exact ⟨rfl, b1⟩
      · have hm : 0 ≤ (N : Int) - 1 := by omega
        have hN1 : 1 ≤ (N : Int) := by omega
        have c3 := Lib.hid (ceiling_at b t (max ((N : Int) - 1) 0) y (by rw [show max ((N : Int) - 1) 0 = N - 1 by omega]; exact HY.out _ rfl hm) h0 h1 h2 (by omega) (by omega))
        rcases k4' with k4 | k4
        · go_enter Try.func4, Try.ntmps4
          go_wp2_with fail
          with_reducible refine (fixed_true _).mono ?_
          rintro e w1 ⟨rfl, b1⟩
          go_wp2_with fail
          with_reducible refine (c1.out _).mono ?_
          rintro e w' ⟨rfl, rfl⟩
          go_wp2_with fail
          with_reducible refine (rright_yes _ _ h0 h1 h2 _).mono ?_
          rintro e w' ⟨rfl, rfl⟩
          go_wp2_with fail
          with_reducible refine (c3.out _).mono ?_
          rintro e w' ⟨rfl, rfl⟩
          go_wp2_with fail
          with_reducible refine (c2.out _).mono ?_
          rintro e w' ⟨rfl, rfl⟩
          go_wp2_with fail
          go_ret
          exact ⟨rfl, b1⟩
        · by_cases k6 : N < 64
          all_goals
            go_enter Try.func4, Try.ntmps4
            go_wp2_with fail
            with_reducible refine (fixed_true _).mono ?_
            rintro e w1 ⟨rfl, b1⟩
            go_wp2_with fail
            with_reducible refine (c1.out _).mono ?_
            rintro e w' ⟨rfl, rfl⟩
            go_wp2_with fail
            with_reducible refine (rright_yes _ _ h0 h1 h2 _).mono ?_
            rintro e w' ⟨rfl, rfl⟩
            go_wp2_with fail
            with_reducible refine (c3.out _).mono ?_
            rintro e w' ⟨rfl, rfl⟩
            go_wp2_with fail
            with_reducible refine (c2.out _).mono ?_
            rintro e w' ⟨rfl, rfl⟩
            go_wp2_with fail
            go_ret
            exact ⟨rfl, b1⟩
end Go.Proofs.Ytekibpfpkbgjkab
