/- The walks of BackoffBounds and BackoffWaits. -/
import Derived.Test.YtekibpfpkbgjkabLaws
namespace Go.Proofs.Ytekibpfpkbgjkab
open Go.RowKit
set_option linter.unusedVariables false

theorem ret_bool {a b : Bool} (h : a = b) : Ending.returned (.bool a) = .returned (.bool b) := by rw [h]

theorem rceiling_at (b t n r : Int) (hr : ceil b t n.toNat = r) (h0 : 1 ≤ b) (h1 : b ≤ t) (h2 : t ≤ 1099511627776) (h3 : 0 ≤ n) (h4 : n ≤ 9223372036854775807) (w : World) :
    Calls Try.prog 13 #[.int .i64 b, .int .i64 t, .int .i64 n] w fun e w' => e = .returned (.int .i64 r) ∧ w = w' := by
  obtain ⟨N, rfl⟩ := Int.eq_ofNat_of_zero_le h3
  have := rceiling_any b t N h0 h1 h2 h4 w
  rw [Int.toNat_natCast] at hr
  rwa [hr] at this

set_option maxRecDepth 100000 in
set_option maxHeartbeats 4000000 in
theorem bounds_walk (b t tries : Int) (A : Option Addr) (n c : Nat) (zs : List Int) (w : World) (hA : Ints .i64 w A n zs) :
    Calls Try.prog 3 #[.int .i64 b, .int .i64 t, .int .i64 tries, .slice A n c] w fun e w' => e = .returned (.bool true) ∧ Below w.heap.size w w' := by
  have hml : (n : Int) ≤ 9223372036854775807 := by have := hA.2.1; unfold maxLen at this; omega
  have HA := Lib.hid hA; clear hA
  by_cases hb : Bad b t
  · go_enter Try.func3, Try.ntmps3
    go_wp2_with fail
    with_reducible refine (fixed_true _).mono ?_
    rintro e w1 ⟨rfl, b1⟩
    go_wp2_with fail
    with_reducible refine (new_bad _ _ _ hb _).mono ?_
    rintro e w' ⟨rfl, rfl⟩
    go_wp2_with fail
    with_reducible refine (most_bad _ _ _ hb _).mono ?_
    rintro e w' ⟨rfl, rfl⟩
    go_wp2_with fail
    go_ret
    exact ⟨rfl, b1⟩
  · have h0 : 1 ≤ b := by unfold Bad at hb; omega
    have h1 : b ≤ t := by unfold Bad at hb; omega
    have h2 : t ≤ 1099511627776 := by unfold Bad at hb; omega
    clear hb
    by_cases ht : tries < 1 ∨ 64 < tries
    · have HT := Lib.hid ht; clear ht
      go_enter Try.func3, Try.ntmps3
      go_wp2_with fail
      with_reducible refine (fixed_true _).mono ?_
      rintro e w1 ⟨rfl, b1⟩
      go_wp2_with fail
      with_reducible refine (new_out _ _ _ h0 h1 h2 HT.out _).mono ?_
      rintro e w' ⟨rfl, rfl⟩
      go_wp2_with fail
      with_reducible refine (most_out _ _ _ h0 h1 h2 HT.out _).mono ?_
      rintro e w' ⟨rfl, rfl⟩
      go_wp2_with fail
      go_ret
      exact ⟨rfl, b1⟩
    · obtain ⟨T, rfl⟩ := Int.eq_ofNat_of_zero_le (show 0 ≤ tries by omega)
      have t0 : 1 ≤ T := by omega
      have t1 : T ≤ 64 := by omega
      clear ht
      have HM := Lib.hid (fun w => most_at b t T _ rfl h0 h1 h2 t0 t1 w)
      have mT := most_bd h0 h1 h2 T
      have mk : (T : Int) * 1099511627776 ≤ 64 * 1099511627776 := Int.mul_le_mul_of_nonneg_right (by omega) (by decide)
      have HMM := Lib.hid (fun m (hm : m ≤ T) => most_mono h0 h1 hm)
      generalize hMT : most b t T = MT at *
      have HEq := Lib.hid hMT
      clear hMT
      go_enter Try.func3, Try.ntmps3
      go_wp2_with fail
      with_reducible refine (fixed_true _).mono ?_
      rintro e w1 ⟨rfl, b1⟩
      go_wp2_with fail
      with_reducible refine (new_in b t T h0 h1 h2 (by omega) (by omega) _).mono ?_
      rintro e w2 ⟨rfl, hw2⟩
      have s2 : Trs w2 w1.heap.size b t T 0 0 := by rw [hw2]; exact Blk.new _ _ _
      have b2 : Below w.heap.size w w2 := by rw [hw2]; exact b1.alloc b1.size _
      have hg := b1.size
      clear hw2 b1
      generalize w1.heap.size = g at *
      go_wp2_with fail
      with_reducible refine (HM.out _).mono ?_
      rintro e w3 ⟨rfl, b3⟩
      have s3 : Trs w3 g b t T 0 0 := Blk.below s2 b3 s2.lt
      have b4 := b2.trans (b3.mono b2.size)
      clear s2 b2 b3
      by_cases hn : n ≤ 200
      · go_wp2_with fail
        go_loopw [13, 54] (fun m i wr => ∃ (k m' : Nat) (wt : Int), k ≤ n ∧ i = .int .i64 k ∧ m = .int .i64 m' ∧ m' ≤ T ∧ Trs wr g b t T m' wt ∧ 0 ≤ wt ∧ most b t m' ≤ 2 * wt ∧ wt ≤ most b t m' ∧ Below w.heap.size w wr) (fun _ i _ => n - (intOf i).toNat)
        case atStart => exact ⟨0, 0, 0, Nat.zero_le _, rfl, rfl, Nat.zero_le _, s3, by omega, by simp [most], by simp [most], b4⟩
        case round =>
          clear s3 b4
          obtain ⟨k, m, wt, hk, rfl, rfl, hm, hs, hw0, hw1, hw2, hb⟩ := hrel
          have hmm := HMM.out m hm
          by_cases hlt : k < n
          · obtain ⟨hzl, _, _, hac⟩ := HA.out
            obtain ⟨b0, off, rfl, hblt, hc⟩ := hac (by omega)
            have hz := (hb.cell (p := ⟨b0, off + k, none⟩) hblt).trans (hc k zs[k] (List.getElem?_eq_getElem (by omega)))
            generalize zs[k] = d at *
            clear hac hc
            by_cases hmT : m < T
            · have hcl := ceil_le b t m
              have hcb := base_le_ceil (t := t) m (show 0 ≤ b by omega) h1
              have hwb := wait_bd (ceil b t m) d (by omega)
              have HS := Lib.hid (show most b t (m + 1) = most b t m + ceil b t m from rfl)
              have HN := Lib.hid (next_at b t T m wt d _ (m + 1) _ rfl rfl rfl h0 h1 h2 (by omega) (by omega) (by omega) hw0 (by omega) g)
              rw [Int.toNat_natCast] at HN
              generalize ceil b t m = cc at *
              generalize wait cc d = x at *
              generalize most b t m = mo at *
              go_wp2_with fail
              with_reducible refine (HN.out _ hs).mono ?_
              rintro e w5 ⟨rfl, s5, g5⟩
              have b5 := hb.grown g5 hb.size (by rintro k hk; injection hk with hk; omega)
              clear HN hs hb
              go_wp2_with fail
              go_roundw
              case rel => exact ⟨k + 1, m + 1, wt + x, by omega, by go_num, by go_num, by omega, s5, by omega, by rw [HS.out]; omega, by rw [HS.out]; omega, b5⟩
              case measure => simp [intOf]; omega
            · have hmT' : m = T := by omega
              subst hmT'
              generalize most b t m = mo at *
              go_wp2_with fail
              with_reducible refine (next_gone _ _ _ _ _ _ _ _ hs (by omega)).mono ?_
              rintro e w5 ⟨rfl, s5, g5⟩
              have b5 := hb.grown g5 hb.size (by rintro k hk; injection hk with hk; omega)
              clear hs hb
              go_wp2_with fail
              with_reducible refine (waited_any _ _ _ _ _ _ _ s5).mono ?_
              rintro e w' ⟨rfl, rfl⟩
              go_wp2_with fail
              with_reducible refine (waited_any _ _ _ _ _ _ _ s5).mono ?_
              rintro e w' ⟨rfl, rfl⟩
              go_wp2_with fail
              with_reducible refine (waited_any _ _ _ _ _ _ _ s5).mono ?_
              rintro e w' ⟨rfl, rfl⟩
              go_wp2_with fail
              go_ret
              exact ⟨ret_bool (by have := HEq.out; simp; omega), b5⟩
          · generalize most b t m = mo at *
            go_wp2_with fail
            with_reducible refine (waited_any _ _ _ _ _ _ _ hs).mono ?_
            rintro e w5 ⟨rfl, rfl⟩
            go_wp2_with fail
            go_ret
            exact ⟨ret_bool (by simp; omega), hb⟩
      · have hn' : (200 : Int) < n := by omega
        go_wp2_with fail
        go_ret
        exact ⟨rfl, b4⟩

set_option maxRecDepth 100000 in
set_option maxHeartbeats 8000000 in
theorem waits_walk (b t tries : Int) (A : Option Addr) (n c : Nat) (zs : List Int) (r : Int) (hr0 : 0 ≤ r) (hr1 : r ≤ 255) (w : World) (hA : Ints .i64 w A n zs) :
    Calls Try.prog 5 #[.int .i64 b, .int .i64 t, .int .i64 tries, .slice A n c, .int .u8 r] w fun e w' => e = .returned (.bool true) ∧ Below w.heap.size w w' := by
  have hml : (n : Int) ≤ 9223372036854775807 := by have := hA.2.1; unfold maxLen at this; omega
  have HA := Lib.hid hA; clear hA
  by_cases hn : n ≤ 200
  · by_cases hb : Bad b t
    · have HB := Lib.hid (show b < 1 ∨ t < b ∨ 1099511627776 < t from hb)
      go_enter Try.func5, Try.ntmps5
      go_wp2_with fail
      with_reducible refine (fixed_true _).mono ?_
      rintro e w1 ⟨rfl, b1⟩
      go_wp2_with fail
      with_reducible refine (new_bad _ _ _ hb _).mono ?_
      rintro e w' ⟨rfl, rfl⟩
      go_wp2_with fail
      with_reducible refine (rright_no _ _ HB.out _).mono ?_
      rintro e w' ⟨rfl, rfl⟩
      go_wp2_with fail
      go_ret
      exact ⟨rfl, b1⟩
    · have h0 : 1 ≤ b := by unfold Bad at hb; omega
      have h1 : b ≤ t := by unfold Bad at hb; omega
      have h2 : t ≤ 1099511627776 := by unfold Bad at hb; omega
      clear hb
      by_cases ht : tries < 1 ∨ 64 < tries
      · have HT := Lib.hid ht
        by_cases ht1 : tries < 1
        · clear ht
          go_enter Try.func5, Try.ntmps5
          go_wp2_with fail
          with_reducible refine (fixed_true _).mono ?_
          rintro e w1 ⟨rfl, b1⟩
          go_wp2_with fail
          with_reducible refine (new_out _ _ _ h0 h1 h2 HT.out _).mono ?_
          rintro e w' ⟨rfl, rfl⟩
          go_wp2_with fail
          with_reducible refine (rright_yes _ _ h0 h1 h2 _).mono ?_
          rintro e w' ⟨rfl, rfl⟩
          go_wp2_with fail
          go_ret
          exact ⟨rfl, b1⟩
        · have ht2 : 64 < tries := by omega
          clear ht
          go_enter Try.func5, Try.ntmps5
          go_wp2_with fail
          with_reducible refine (fixed_true _).mono ?_
          rintro e w1 ⟨rfl, b1⟩
          go_wp2_with fail
          with_reducible refine (new_out _ _ _ h0 h1 h2 HT.out _).mono ?_
          rintro e w' ⟨rfl, rfl⟩
          go_wp2_with fail
          with_reducible refine (rright_yes _ _ h0 h1 h2 _).mono ?_
          rintro e w' ⟨rfl, rfl⟩
          go_wp2_with fail
          go_ret
          exact ⟨rfl, b1⟩
      · obtain ⟨T, rfl⟩ := Int.eq_ofNat_of_zero_le (show 0 ≤ tries by omega)
        have t0 : 1 ≤ T := by omega
        have t1 : T ≤ 64 := by omega
        clear ht
        go_enter Try.func5, Try.ntmps5
        go_wp2_with fail
        with_reducible refine (fixed_true _).mono ?_
        rintro e w1 ⟨rfl, b1⟩
        go_wp2_with fail
        with_reducible refine (new_in b t T h0 h1 h2 (by omega) (by omega) _).mono ?_
        rintro e w2 ⟨rfl, hw2⟩
        have s2 : Trs w2 w1.heap.size b t T 0 0 := by rw [hw2]; exact Blk.new _ _ _
        have b2 : Below w.heap.size w w2 := by rw [hw2]; exact b1.alloc b1.size _
        have hg := b1.size
        clear hw2 b1
        generalize w1.heap.size = g at *
        go_wp2_with fail
        with_reducible refine (rright_yes _ _ h0 h1 h2 _).mono ?_
        rintro e w' ⟨rfl, rfl⟩
        go_wp2_with fail
        go_loopw [13, 14, 52] (fun m s i wr => ∃ (k m' : Nat) (wt : Int), k ≤ n ∧ i = .int .i64 k ∧ m = .int .i64 m' ∧ s = .int .i64 wt ∧ m' ≤ T ∧ Trs wr g b t T m' wt ∧ 0 ≤ wt ∧ wt ≤ m' * 1099511627776 ∧ Below w.heap.size w wr) (fun _ _ i _ => n - (intOf i).toNat)
        case atStart => exact ⟨0, 0, 0, Nat.zero_le _, rfl, rfl, rfl, Nat.zero_le _, s2, by omega, by omega, b2⟩
        case round =>
          clear s2 b2
          obtain ⟨k, m, wt, hk, rfl, rfl, rfl, hm, hs, hw0, hw1, hb⟩ := hrel
          have mk : (m : Int) * 1099511627776 ≤ 64 * 1099511627776 := Int.mul_le_mul_of_nonneg_right (by omega) (by decide)
          by_cases hlt : k < n
          · obtain ⟨hzl, _, _, hac⟩ := HA.out
            obtain ⟨b0, off, rfl, hblt, hc⟩ := hac (by omega)
            have hz := (hb.cell (p := ⟨b0, off + k, none⟩) hblt).trans (hc k zs[k] (List.getElem?_eq_getElem (by omega)))
            generalize zs[k] = d at *
            clear hac hc
            by_cases hkr : (k : Int) = r
            · have hkr' : ((k : Int) == r) = true := by rw [beq_iff_eq]; exact hkr
              clear hkr
              go_wp2_with fail
              with_reducible refine (reset_any _ _ _ _ _ _ _ hs).mono ?_
              rintro e w4 ⟨rfl, s4, g4⟩
              have b4 := hb.grown g4 hb.size (by rintro k hk; injection hk with hk; omega)
              clear hs hb g4
              by_cases hmT : 0 < T
              · have hcl := ceil_le b t 0
                have hcb := base_le_ceil (t := t) 0 (show 0 ≤ b by omega) h1
                have hwb := wait_bd (ceil b t 0) d (by omega)
                have HN := Lib.hid (next_at b t T 0 0 d _ (0 + 1) _ rfl rfl rfl h0 h1 h2 (by omega) (by omega) (by omega) (by omega) (by omega) g)
                have HC := Lib.hid (rceiling_at b t 0 _ rfl h0 h1 h2 (by omega) (by omega))
                have eN : (0 : Int).toNat = 0 := by simp
                rw [eN] at HN HC
                clear eN
                have HW := Lib.hid (fun w => rwait_any (ceil b t 0) d (by omega) (by omega) w)
                generalize ceil b t 0 = cc at *
                generalize wait cc d = x at *
                go_wp2_with fail
                with_reducible refine (HN.out _ s4).mono ?_
                rintro e w5 ⟨rfl, s5, g5⟩
                have b5 := b4.grown g5 b4.size (by rintro k hk; injection hk with hk; omega)
                have HL := Lib.hid (left_any g b t T _ _ w5 s5 (by omega) (by omega) (by omega))
                clear HN s4 b4 g5
                go_wp2_with fail
                with_reducible refine (HC.out _).mono ?_
                rintro e w' ⟨rfl, rfl⟩
                go_wp2_with fail
                with_reducible refine (HW.out _).mono ?_
                rintro e w' ⟨rfl, rfl⟩
                go_wp2_with fail
                with_reducible refine (HL.out).mono ?_
                rintro e w6 ⟨rfl, kk, hw6⟩
                have s6 : Trs w6 g b t T (0 + 1) (0 + x) := by rw [hw6]; exact s5.drewN kk
                have b6 := below_drewN b5 kk
                rw [← hw6] at b6
                clear hw6 HL s5 b5
                go_wp2_with fail
                with_reducible refine (waited_any _ _ _ _ _ _ _ s6).mono ?_
                rintro e w' ⟨rfl, rfl⟩
                go_wp2_with fail
                go_roundw
                case rel => exact ⟨k + 1, 0 + 1, 0 + x, by omega, by go_num, by first | rfl | go_num, by first | rfl | simp, by omega, by simpa using s6, by omega, by push_cast; omega, b6⟩
                case measure => simp [intOf]; omega
              · omega
            · have hkr' : ((k : Int) == r) = false := by rw [beq_eq_false_iff_ne]; exact hkr
              clear hkr
              by_cases hmT : m < T
              · have hcl := ceil_le b t m
                have hcb := base_le_ceil (t := t) m (show 0 ≤ b by omega) h1
                have hwb := wait_bd (ceil b t m) d (by omega)
                have HN := Lib.hid (next_at b t T (m : Int) wt d _ ((m : Int) + 1) _ rfl rfl rfl h0 h1 h2 (by omega) (by omega) (by omega) (by omega) (by omega) g)
                have HC := Lib.hid (rceiling_at b t (m : Int) _ rfl h0 h1 h2 (by omega) (by omega))
                have eN : ((m : Int) : Int).toNat = m := by simp
                rw [eN] at HN HC
                clear eN
                have HW := Lib.hid (fun w => rwait_any (ceil b t m) d (by omega) (by omega) w)
                generalize ceil b t m = cc at *
                generalize wait cc d = x at *
                go_wp2_with fail
                with_reducible refine (HN.out _ hs).mono ?_
                rintro e w5 ⟨rfl, s5, g5⟩
                have b5 := hb.grown g5 hb.size (by rintro k hk; injection hk with hk; omega)
                have HL := Lib.hid (left_any g b t T _ _ w5 s5 (by omega) (by omega) (by omega))
                clear HN hs hb g5
                go_wp2_with fail
                with_reducible refine (HC.out _).mono ?_
                rintro e w' ⟨rfl, rfl⟩
                go_wp2_with fail
                with_reducible refine (HW.out _).mono ?_
                rintro e w' ⟨rfl, rfl⟩
                go_wp2_with fail
                with_reducible refine (HL.out).mono ?_
                rintro e w6 ⟨rfl, kk, hw6⟩
                have s6 : Trs w6 g b t T ((m : Int) + 1) (wt + x) := by rw [hw6]; exact s5.drewN kk
                have b6 := below_drewN b5 kk
                rw [← hw6] at b6
                clear hw6 HL s5 b5
                go_wp2_with fail
                with_reducible refine (waited_any _ _ _ _ _ _ _ s6).mono ?_
                rintro e w' ⟨rfl, rfl⟩
                go_wp2_with fail
                go_roundw
                case rel => exact ⟨k + 1, m + 1, wt + x, by omega, by go_num, by first | rfl | go_num, by first | rfl | simp, by omega, by simpa using s6, by omega, by push_cast; omega, b6⟩
                case measure => simp [intOf]; omega
              · go_wp2_with fail
                with_reducible refine (next_gone _ _ _ _ _ _ _ _ hs (by omega)).mono ?_
                rintro e w5 ⟨rfl, s5, g5⟩
                have b5 := hb.grown g5 hb.size (by rintro k hk; injection hk with hk; omega)
                have HL := Lib.hid (left_any g b t T _ _ w5 s5 (by omega) (by omega) (by omega))
                clear hs hb g5
                go_wp2_with fail
                with_reducible refine (HL.out).mono ?_
                rintro e w6 ⟨rfl, kk, hw6⟩
                have s6 : Trs w6 g b t T (m : Int) wt := by rw [hw6]; exact s5.drewN kk
                have b6 := below_drewN b5 kk
                rw [← hw6] at b6
                clear hw6 HL s5 b5
                go_wp2_with fail
                with_reducible refine (waited_any _ _ _ _ _ _ _ s6).mono ?_
                rintro e w' ⟨rfl, rfl⟩
                go_wp2_with fail
                go_roundw
                case rel => exact ⟨k + 1, m, wt, by omega, by go_num, by first | rfl | go_num, by first | rfl | simp, by omega, by simpa using s6, by omega, by omega, b6⟩
                case measure => simp [intOf]; omega
          · go_wp2_with fail
            go_ret
            exact ⟨rfl, hb⟩
  · have hn' : (200 : Int) < n := by omega
    go_enter Try.func5, Try.ntmps5
    go_wp2_with fail
    with_reducible refine (fixed_true _).mono ?_
    rintro e w1 ⟨rfl, b1⟩
    go_wp2_with fail
    go_ret
    exact ⟨rfl, b1⟩
end Go.Proofs.Ytekibpfpkbgjkab
