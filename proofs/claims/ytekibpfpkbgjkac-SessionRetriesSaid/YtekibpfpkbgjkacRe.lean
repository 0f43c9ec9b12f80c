/- The walk of SessionRetries. -/
import Derived.Test.YtekibpfpkbgjkacFix
import Derived.Test.YtekibpfpkbgjkacLibArgs
import Derived.OpenShut
namespace Go.Proofs.Ytekibpfpkbgjkac
open Go.RowKit
set_option linter.unusedVariables false

/-- Two books beside each other. -/
def Two (w0 : World) (ba bb : Nat) (window suma sumb : Int) (La Lb : List PS) (w : World) : Prop :=
  ∃ va vb, PBook w w0.heap.size ba window suma La va ∧ PBook w w0.heap.size bb window sumb Lb vb ∧ ba ≠ bb ∧ (∀ k, va.ownBlock = some k → vb.ownBlock ≠ some k) ∧ Below w0.heap.size w0 w ∧ w0.heap.size ≤ ba ∧ w0.heap.size ≤ bb

section
variable {w0 w w' : World} {ba bb : Nat} {window suma sumb suma' : Int} {La Lb La' : List PS}
theorem Two.symm (h : Two w0 ba bb window suma sumb La Lb w) : Two w0 bb ba window sumb suma Lb La w := by
  obtain ⟨va, vb, h1, h2, h3, h4, h5, h6, h7⟩ := h
  exact ⟨vb, va, h2, h1, h3.symm, fun k hk e => h4 k e hk, h5, h7, h6⟩
theorem Two.left (h : Two w0 ba bb window suma sumb La Lb w) : Kept w0 ba window suma La w := by
  obtain ⟨va, vb, h1, h2, h3, h4, h5, h6, h7⟩ := h
  exact ⟨va, h1, h5, h6⟩
theorem Two.drewN (h : Two w0 ba bb window suma sumb La Lb w) (n : Nat) : Two w0 ba bb window suma sumb La Lb (w.drewN n) := by
  obtain ⟨va, vb, ⟨p1, p2, p3⟩, ⟨q1, q2, q3⟩, h3, h4, h5, h6, h7⟩ := h
  exact ⟨va, vb, ⟨p1.drewN n, own_drewN p2 n, p3⟩, ⟨q1.drewN n, own_drewN q2 n, q3⟩, h3, h4, below_drewN h5 n, h6, h7⟩
theorem Two.step {va vb : Value} (h1 : PBook w w0.heap.size ba window suma La va) (h2 : PBook w w0.heap.size bb window sumb Lb vb) (h3 : ba ≠ bb) (h4 : ∀ k, va.ownBlock = some k → vb.ownBlock ≠ some k)
    (h5 : Below w0.heap.size w0 w) (h6 : w0.heap.size ≤ ba) (h7 : w0.heap.size ≤ bb) (hp : BPost w0.heap.size ba window suma' La' va w w') : Two w0 ba bb window suma' sumb La' Lb w' := by
  obtain ⟨v', p, c, f⟩ := hp
  refine ⟨v', vb, p, ⟨h2.1.ch c ?_, own_ch h2.2.1 c ?_, h2.2.2⟩, h3, fun k hk e => ?_, Ch.below h5 c ?_ h5.size, h6, h7⟩
  · rintro (e | e)
    · exact h3 e.symm
    · exact own_blk_ne h1.2.1 h2.1 (by decide) e
  · rintro k hk (e | e)
    · subst e; exact own_blk_ne h2.2.1 h1.1 (by decide) hk
    · exact h4 k e hk
  · rcases f k hk with e' | e'
    · exact h4 k e' e
    · have := (h2.2.1.lt k e).2; omega
  · rintro k (rfl | hk)
    · exact h6
    · exact (h1.2.1.lt k hk).1
theorem do_two {K i seq amount x e : Int} (hR : doR window suma La i seq amount = ⟨x, e, suma', La'⟩) (hF : Fine window suma La K) (h : Two w0 ba bb window suma sumb La Lb w) :
    Calls Try.prog 14 #[.pointer (some ⟨ba, 0, none⟩), .int .i64 i, .int .i64 seq, .int .i64 amount] w fun e' w' => e' = .returned (.tuple #[.int .i64 x, .int .i64 e]) ∧ Two w0 ba bb window suma' sumb La' Lb w' := by
  obtain ⟨va, vb, h1, h2, h3, h4, h5, h6, h7⟩ := h
  have := do_any w0.heap.size ba window suma La va w K i seq amount h1 hF
  rw [hR] at this
  exact this.mono fun e' w' ⟨p1, p2⟩ => ⟨p1, Two.step h1 h2 h3 h4 h5 h6 h7 p2⟩
theorem ask_two {K i seq x e : Int} (hR : askR window La i seq = (x, e)) (hF : Fine window suma La K) (h : Two w0 ba bb window suma sumb La Lb w) :
    Calls Try.prog 12 #[.pointer (some ⟨ba, 0, none⟩), .int .i64 i, .int .i64 seq] w fun e' w' => e' = .returned (.tuple #[.int .i64 x, .int .i64 e]) ∧ Two w0 ba bb window suma sumb La Lb w' := by
  have h' := h
  obtain ⟨va, vb, h1, h2, h3, h4, h5, h6, h7⟩ := h
  have := ask_any w0.heap.size ba window suma La va w K i seq h1 hF
  rw [hR] at this
  exact this.mono fun e' w' ⟨p1, k, p2⟩ => ⟨p1, by rw [p2]; exact h'.drewN k⟩
theorem open_two (hl : La.length < 64) (h : Two w0 ba bb window suma sumb La Lb w) :
    Calls Try.prog 8 #[.pointer (some ⟨ba, 0, none⟩)] w fun e' w' => e' = .returned (.tuple #[.int .i64 La.length, .int .i64 0]) ∧ Two w0 ba bb window suma sumb (La ++ [fresh]) Lb w' := by
  obtain ⟨va, vb, h1, h2, h3, h4, h5, h6, h7⟩ := h
  exact (open_in w0.heap.size ba window suma La va w h1 hl h5.size).mono fun e' w' ⟨p1, p2⟩ => ⟨p1, Two.step h1 h2 h3 h4 h5 h6 h7 p2⟩
end

/-- A lone session, k requests done; the last answer is x. -/
def Lone (window : Int) (k : Nat) (x : Int) (s : PS) : Prop := s.next = k + 1 ∧ s.closed = false ∧ s.ans.length = 64 ∧ (1 ≤ k → s.ans.getD ((k : Int) % window).toNat 0 = x)
theorem lone_fine {window sum x : Int} {k : Nat} {s : PS} (h : Lone window k x s) (h0 : 1 ≤ window) (h1 : window ≤ 64) (hk : k ≤ 100) (s0 : -((k : Int) * 1125899906842624) ≤ sum) (s1 : sum ≤ (k : Int) * 1125899906842624) : Fine window sum [s] k :=
  ⟨h0, h1, by simp, fun x hx => by simp at hx; subst hx; rw [h.1]; omega, by omega, s0, s1⟩
/-- The next request is done. -/
theorem lone_do {window sum x amount : Int} {k : Nat} {s : PS} (h : Lone window k x s) (h0 : 1 ≤ window) (h1 : window ≤ 64) (hk : k ≤ 100) (a0 : ¬ (amount < -1125899906842624 ∨ 1125899906842624 < amount)) :
    ∃ s', doR window sum [s] 0 (k + 1) amount = ⟨sum + amount, 0, sum + amount, [s']⟩ ∧ Lone window (k + 1) (sum + amount) s' := by
  have r0 : 0 ≤ ((k : Int) + 1) % window := Int.emod_nonneg _ (by omega)
  have r1 : ((k : Int) + 1) % window < window := Int.emod_lt_of_pos _ (by omega)
  have hn := h.1
  refine ⟨⟨s.ans.set (((k : Int) + 1) % window).toNat (sum + amount), s.next + 1, s.closed⟩, ?_, by simp only; omega, h.2.1, by simpa using h.2.2.1, fun _ => ?_⟩
  · unfold doR
    rw [if_neg a0, if_neg (by simp)]
    simp only [Int.toNat_zero, List.getElem?_cons_zero, h.2.1, Bool.false_eq_true, if_false, List.set_cons_zero]
    rw [if_neg (by omega), if_neg (by omega)]
  · have e : ((k + 1 : Nat) : Int) = (k : Int) + 1 := by omega
    have hl := h.2.2.1
    simp only [e]
    rw [List.getD_eq_getElem?_getD, List.getElem?_set_self (by omega)]
    rfl
/-- A request that was done last is answered again. -/
theorem lone_again {window sum x amount : Int} {k : Nat} {s : PS} (h : Lone window (k + 1) x s) (h0 : 1 ≤ window) (hk : k ≤ 100) (a0 : ¬ (amount < -1125899906842624 ∨ 1125899906842624 < amount)) :
    doR window sum [s] 0 (k + 1) amount = ⟨x, 0, sum, [s]⟩ ∧ askR window [s] 0 (k + 1) = (x, 0) := by
  have hn := h.1
  have hx := h.2.2.2 (by omega)
  have e : ((k + 1 : Nat) : Int) = (k : Int) + 1 := by omega
  rw [e] at hx hn
  have hk2 : keptR window s (k + 1) = (x, 0) := by
    unfold keptR
    rw [if_neg (by omega), hx]
  constructor
  · unfold doR
    rw [if_neg a0, if_neg (by simp)]
    simp only [Int.toNat_zero, List.getElem?_cons_zero, h.2.1, Bool.false_eq_true, if_false]
    rw [if_neg (by omega), if_pos (by omega), hk2]
  · unfold askR
    rw [if_neg (by simp), if_neg (by omega)]
    simp only [Int.toNat_zero, List.getElem?_cons_zero]
    rw [if_neg (by omega), hk2]

theorem lone_next {window x : Int} {k : Nat} {s : PS} (h : Lone window k x s) : nextR [s] 0 = (k : Int) + 1 := by
  unfold nextR
  rw [if_neg (by simp)]
  simp only [Int.toNat_zero, List.getElem?_cons_zero]
  exact h.1

/-- The rounds in which a request is sent again: m of them are done. -/
def InR (w : World) (ba bb : Nat) (win sum sum' : Int) (sa' sb sb' : PS) (m : Nat) (wr : World) : Prop :=
  (m = 0 ∧ Two w bb ba win sum sum' [sb] [sa'] wr) ∨ (1 ≤ m ∧ Two w bb ba win sum' sum' [sb'] [sa'] wr)

set_option maxRecDepth 100000 in
set_option maxHeartbeats 8000000 in
theorem retries_walk (a : Int) (A1 A2 : Option Addr) (n1 c1 n2 c2 : Nat) (zs ws : List Int) (w : World) (ha0 : 0 ≤ a) (ha1 : a ≤ 255) (hA : Ints .i64 w A1 n1 zs) (hB : Ints .u8 w A2 n2 ws) :
    Calls Try.prog 5 #[.int .u8 a, .slice A1 n1 c1, .slice A2 n2 c2] w fun e w' => e = .returned (.bool true) ∧ Below w.heap.size w w' := by
  have hml : (n1 : Int) ≤ 9223372036854775807 := by have := hA.2.1; unfold maxLen at this; omega
  have hml2 : (n2 : Int) ≤ 9223372036854775807 := by have := hB.2.1; unfold maxLen at this; omega
  have HA := Lib.hid hA; clear hA
  have HB := Lib.hid hB; clear hB
  by_cases hn : n1 ≤ 60
  · obtain ⟨win, hwin⟩ : ∃ win, 1 + a % 64 = win := ⟨_, rfl⟩
    have w0 : 1 ≤ win := by omega
    have w1 : win ≤ 64 := by omega
    go_enter Try.func5, Try.ntmps5
    go_wp2_with fail
    with_reducible refine (fixed_true _).mono ?_
    rintro e W1 ⟨rfl, b1⟩
    go_wp2_with fail
    with_reducible refine (new_in win w0 w1 _).mono ?_
    rintro e W2 ⟨rfl, hW2⟩
    have ka : PBook W2 w.heap.size W1.heap.size win 0 [] (.slice none 0 0) := by rw [hW2]; exact ⟨Blk.new _ _ _, World.ownsRow_nil _ _ _ _, by simp⟩
    have b2 : Below w.heap.size w W2 := by rw [hW2]; exact b1.alloc b1.size _
    have z1 := b1.size
    have z2 : W1.heap.size < W2.heap.size := ka.1.lt
    clear hW2 b1
    generalize W1.heap.size = ba at *
    go_wp2_with fail
    with_reducible refine (new_in win w0 w1 _).mono ?_
    rintro e W3 ⟨rfl, hW3⟩
    have kk : Two w ba W2.heap.size win 0 0 [] [] W3 := ⟨_, _, by rw [hW3]; exact ⟨ka.1.alloc _, ka.2.1.alloc _, by simp⟩, by rw [hW3]; exact ⟨Blk.new _ _ _, World.ownsRow_nil _ _ _ _, by simp⟩, by omega, fun k hk => by simp [Value.ownBlock] at hk, by rw [hW3]; exact b2.alloc b2.size _, z1, b2.size⟩
    clear hW3 ka b2 z1 z2
    generalize W2.heap.size = bb at *
    go_wp2_with fail
    with_reducible refine (open_two (by decide) kk).mono ?_
    rintro e W4 ⟨rfl, k4⟩
    clear kk
    have k4' : Two w bb ba win 0 0 [] [fresh] W4 := k4.symm
    clear k4
    go_wp2_with fail
    with_reducible refine (open_two (by decide) k4').mono ?_
    rintro e W5 ⟨rfl, k5'⟩
    have k5 : Two w ba bb win 0 0 [fresh] [fresh] W5 := k5'.symm
    clear k4' k5'
    have lf : Lone win 0 0 fresh := ⟨rfl, rfl, by simp [fresh], fun h => by omega⟩
    go_wp2_with fail
    go_loopw [39] (fun i wr => ∃ (k : Nat) (sum : Int) (sa sb : PS), k ≤ n1 ∧ i = .int .i64 k ∧ -((k : Int) * 1125899906842624) ≤ sum ∧ sum ≤ (k : Int) * 1125899906842624 ∧ Lone win k sum sa ∧ Lone win k sum sb ∧ Two w ba bb win sum sum [sa] [sb] wr) (fun i _ => n1 - (intOf i).toNat)
    case atStart => exact ⟨0, 0, fresh, fresh, Nat.zero_le _, rfl, by omega, by omega, lf, lf, k5⟩
    case round =>
      clear k5 lf
      obtain ⟨k, sum, sa, sb, hk, rfl, s0, s1, la, lb, kt⟩ := hrel
      by_cases hlt : k < n1
      · obtain ⟨hzl, _, _, hac⟩ := HA.out
        obtain ⟨b0, off, rfl, hblt, hc⟩ := hac (by omega)
        have hbw : Below w.heap.size w wr := by obtain ⟨_, _, _, _, _, _, h, _⟩ := kt; exact h
        have hz := (hbw.cell (p := ⟨b0, off + k, none⟩) hblt).trans (hc k zs[k] (List.getElem?_eq_getElem (by omega)))
        generalize zs[k] = n at *
        clear hac hc
        by_cases hbad : n < -1125899906842624 ∨ 1125899906842624 < n
        · clear la lb kt
          by_cases hb1 : n < -1125899906842624
          · clear hbad
            go_wp2_with fail
            go_ret
            exact ⟨rfl, hbw⟩
          · have hb2 : 1125899906842624 < n := by omega
            clear hbad
            go_wp2_with fail
            go_ret
            exact ⟨rfl, hbw⟩
        · obtain ⟨sa', da, la'⟩ := lone_do (sum := sum) (amount := n) la w0 w1 (by omega) hbad
          obtain ⟨sb', db, lb'⟩ := lone_do (sum := sum) (amount := n) lb w0 w1 (by omega) hbad
          obtain ⟨db2, ab⟩ := lone_again (sum := sum + n) (amount := n) lb' w0 (by omega) hbad
          have Fa := lone_fine (sum := sum) la w0 w1 (by omega) s0 s1
          have Fb := lone_fine (sum := sum) lb w0 w1 (by omega) s0 s1
          have n0 : ¬ n < -1125899906842624 := by omega
          have n3 : ¬ 1125899906842624 < n := by omega
          have t0 : -(((k + 1 : Nat) : Int) * 1125899906842624) ≤ sum + n := by push_cast; omega
          have t1 : sum + n ≤ ((k + 1 : Nat) : Int) * 1125899906842624 := by push_cast; omega
          have Fb2 := lone_fine (sum := sum + n) lb' w0 w1 (by omega) t0 t1
          generalize sum + n = sum' at *
          have HD1 := Lib.hid (fun wr (h : Two w ba bb win sum sum [sa] [sb] wr) => do_two da Fa h)
          have HD2 := Lib.hid (fun wr (h : Two w bb ba win sum sum' [sb] [sa'] wr) => do_two db Fb h)
          have HD3 := Lib.hid (fun wr (h : Two w bb ba win sum' sum' [sb'] [sa'] wr) => do_two db2 Fb2 h)
          have HA4 := Lib.hid (fun wr (h : Two w bb ba win sum' sum' [sb'] [sa'] wr) => ask_two ab Fb2 h)
          have HLa := Lib.hid la'
          have HLb := Lib.hid lb'
          have T0 := Lib.hid t0
          have T1 := Lib.hid t1
          clear da db db2 ab Fa Fb Fb2 la lb la' lb' hbad t0 t1 hbw s0 s1
          go_wp2_with fail
          with_reducible refine (HD1.out _ kt).mono ?_
          rintro e V1 ⟨rfl, k1⟩
          clear kt
          obtain ⟨wo, rfl⟩ : ∃ wo : World, wo = V1 := ⟨_, rfl⟩
          have k1 := k1.symm
          by_cases hlt2 : k < n2
          · obtain ⟨hzl2, _, hwf2, hac2⟩ := HB.out
            obtain ⟨b3, off3, rfl, hblt3, hc3⟩ := hac2 (by omega)
            have hbw : Below w.heap.size w wo := by obtain ⟨_, _, _, _, _, _, h, _⟩ := k1; exact h
            have hz3 := (hbw.cell (p := ⟨b3, off3 + k, none⟩) hblt3).trans (hc3 k ws[k] (List.getElem?_eq_getElem (by omega)))
            have bd := bounds_u8 (hwf2 ws[k] (List.getElem_mem _))
            obtain ⟨bd0, bd1⟩ := bd
            generalize ws[k] = y at *
            obtain ⟨tm, htm⟩ : ∃ tm : Nat, 1 + y % 4 = (tm : Int) := ⟨(1 + y % 4).toNat, by omega⟩
            have tm0 : 1 ≤ tm := by omega
            have tm1 : tm ≤ 4 := by omega
            clear hac2 hc3 hbw hwf2
            go_wp2_with fail
            go_loopw [71] (fun j wr => ∃ m : Nat, m ≤ tm ∧ j = .int .i64 m ∧ InR w ba bb win sum sum' sa' sb sb' m wr) (fun j _ => tm - (intOf j).toNat)
            case atStart => exact ⟨0, Nat.zero_le _, rfl, .inl ⟨rfl, k1⟩⟩
            case round =>
              clear k1
              obtain ⟨m, hm, rfl, hin⟩ := hrel
              by_cases hmt : m < tm
              · rcases hin with ⟨rfl, hin⟩ | ⟨hm1, hin⟩
                · go_wp2_with fail
                  with_reducible refine (HD2.out _ hin).mono ?_
                  rintro e V2 ⟨rfl, hin2⟩
                  clear hin
                  go_wp2_with fail
                  go_roundw
                  case rel => exact ⟨1, by omega, rfl, .inr ⟨Nat.le_refl _, hin2⟩⟩
                  case measure => simp [intOf] <;> omega
                · go_wp2_with fail
                  with_reducible refine (HD3.out _ hin).mono ?_
                  rintro e V2 ⟨rfl, hin2⟩
                  clear hin
                  go_wp2_with fail
                  go_roundw
                  case rel => exact ⟨m + 1, by omega, by go_num, .inr ⟨by omega, hin2⟩⟩
                  case measure => simp [intOf]; omega
              · rcases hin with ⟨rfl, hin⟩ | ⟨hm1, hin⟩
                · omega
                · go_wp2_with fail
                  with_reducible refine (HA4.out _ hin).mono ?_
                  rintro e V2 ⟨rfl, hin2⟩
                  clear hin
                  go_wp2_with fail
                  go_roundw
                  case rel => exact ⟨k + 1, sum', sa', sb', by omega, by go_num, T0.out, T1.out, HLa.out, HLb.out, hin2.symm⟩
                  case measure => simp [intOf]; omega

          · have hlt3 : ¬ (k : Int) < (n2 : Int) := by omega
            go_wp2_with fail
            go_loopw [71] (fun j wr => ∃ m : Nat, m ≤ 1 ∧ j = .int .i64 m ∧ InR w ba bb win sum sum' sa' sb sb' m wr) (fun j _ => 1 - (intOf j).toNat)
            case atStart => exact ⟨0, Nat.zero_le _, rfl, .inl ⟨rfl, k1⟩⟩
            case round =>
              clear k1
              obtain ⟨m, hm, rfl, hin⟩ := hrel
              by_cases hmt : m < 1
              · rcases hin with ⟨rfl, hin⟩ | ⟨hm1, hin⟩
                · go_wp2_with fail
                  with_reducible refine (HD2.out _ hin).mono ?_
                  rintro e V2 ⟨rfl, hin2⟩
                  clear hin
                  go_wp2_with fail
                  go_roundw
                  case rel => exact ⟨1, by omega, rfl, .inr ⟨Nat.le_refl _, hin2⟩⟩
                  case measure => simp [intOf] <;> omega
                · omega
              · rcases hin with ⟨rfl, hin⟩ | ⟨hm1, hin⟩
                · omega
                · go_wp2_with fail
                  with_reducible refine (HA4.out _ hin).mono ?_
                  rintro e V2 ⟨rfl, hin2⟩
                  clear hin
                  go_wp2_with fail
                  go_roundw
                  case rel => exact ⟨k + 1, sum', sa', sb', by omega, by go_num, T0.out, T1.out, HLa.out, HLb.out, hin2.symm⟩
                  case measure => simp [intOf]; omega
      · go_wp2_with fail
        with_reducible refine (sum_kept kt.left).mono ?_
        rintro e w' ⟨rfl, rfl⟩
        go_wp2_with fail
        with_reducible refine (sum_kept kt.symm.left).mono ?_
        rintro e w' ⟨rfl, rfl⟩
        go_wp2_with fail
        with_reducible refine (next_kept (lone_next la) kt.left).mono ?_
        rintro e w' ⟨rfl, rfl⟩
        go_wp2_with fail
        with_reducible refine (next_kept (lone_next lb) kt.symm.left).mono ?_
        rintro e w' ⟨rfl, rfl⟩
        go_wp2_with fail
        go_ret
        obtain ⟨_, _, _, _, _, _, h, _⟩ := kt
        exact ⟨rfl, h⟩
  · have hn' : (60 : Int) < n1 := by omega
    go_enter Try.func5, Try.ntmps5
    go_wp2_with fail
    with_reducible refine (fixed_true _).mono ?_
    rintro e W1 ⟨rfl, b1⟩
    go_wp2_with fail
    go_ret
    exact ⟨rfl, b1⟩
end Go.Proofs.Ytekibpfpkbgjkac
