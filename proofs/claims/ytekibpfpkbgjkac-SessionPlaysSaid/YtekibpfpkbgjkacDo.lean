/- The contracts of Open and Do of package session. -/
import Derived.Test.YtekibpfpkbgjkacFns
import Derived.Deep.DeepCutAuto
namespace Go.Proofs.Ytekibpfpkbgjkac
open Go.RowKit
set_option linter.unusedVariables false

theorem st_info : (Try.prog.info? 55).map (fun i => (i.zero.map fun z => z.cells.size, i.size, i.bytes)) = some (some 66, 66, 528) := by kernel_rfl
theorem st_parts : ∃ i z, Try.prog.info? 55 = some i ∧ i.zero = some z ∧ i.size = 66 ∧ i.bytes = 528 ∧ z.cells.size = 66 := by
  obtain ⟨i, hi, h⟩ := Option.map_eq_some_iff.1 st_info
  simp only [Prod.mk.injEq] at h
  obtain ⟨z, hz, hz2⟩ := Option.map_eq_some_iff.1 h.1
  exact ⟨i, z, hi, hz, h.2.1, h.2.2, hz2⟩

def fresh : PS := ⟨List.replicate 64 0, 1, false⟩
theorem fresh_cells : pcells fresh = List.replicate 64 (.int .i64 0) ++ [.int .i64 1, .bool false] := by
  unfold pcells fresh
  rw [List.map_replicate]

/-- A state's zero cells. -/
def zst : Array Value := (List.replicate 64 (Value.int .i64 0) ++ [Value.int .i64 0, Value.bool false]).toArray
theorem zst_run (w : World) : (zeroValue 55).run Try.prog w = .ok (.agg zst) w := by kernel_rfl
theorem zst_size : zst.size = 66 := by simp [zst]

section
variable (B b : Nat) (window sum : Int) (L : List PS) (v : Value) (w : World)

theorem open_full (h : PBook w B b window sum L v) (hf : 64 ≤ L.length) :
    Calls Try.prog 8 #[.pointer (some ⟨b, 0, none⟩)] w fun e w' => e = .returned (.tuple #[.int .i64 0, .int .i64 7]) ∧ w = w' := by
  have hll := own_len h.2.1
  obtain ⟨hb, ho, hl⟩ := h
  have c2 := hb.cell 2
  simp at c2
  obtain ⟨A, c, rfl⟩ := own_form ho
  clear hb ho hl
  go_enter Try.func8, Try.ntmps8
  go_wp2_with fail
  go_ret2
  exact ⟨rfl, rfl⟩

set_option maxRecDepth 100000 in
theorem open_in (h : PBook w B b window sum L v) (hf : L.length < 64) (hB : B ≤ w.heap.size) :
    Calls Try.prog 8 #[.pointer (some ⟨b, 0, none⟩)] w fun e w' => e = .returned (.tuple #[.int .i64 L.length, .int .i64 0]) ∧ BPost B b window sum (L ++ [fresh]) v w w' := by
  obtain ⟨i0, z0, hi0, hz0, hz1, hz2, hz3⟩ := st_parts
  obtain ⟨hb, ho, hl⟩ := h
  have c2 := hb.cell 2
  simp at c2
  obtain ⟨A, c, rfl⟩ := own_form ho
  have hne : (Value.slice A L.length c).ownBlock ≠ some b := own_blk_ne ho hb (by decide)
  have hz := zst_run
  have hzs := zst_size
  have H := Lib.hid ho; clear ho
  have HL := Lib.hid hl; clear hl
  go_enter Try.func8, Try.ntmps8
  go_wp2_with (first
    | (at_builtin
       refine wpList_append_any _ rfl (.tmp 18) (.tmp 20) _ rfl B 55 i0 z0 66 528 Try.underlying50 hi0 hz0 hz1 hz2 hz3 (by omega) (.slice A L.length c) L.length (L.flatMap pcells) rfl
         (H.out.alloc _) (w.heap.size + 1) (some ⟨w.heap.size, 0, none⟩) 1 1 (pcells fresh) rfl ?_ ?_ (by simp only [maxLen]; omega) (by omega) (by simp; omega) ?_
       rotate_left 2
       intro v1 w1 hown1 hg1 hat1
       have hb1 : Blk w1 b 52 _ := (hb.alloc _).grown hg1 (fun e => hne e.symm)
       have d2 := hb1.cell 2
       have e2 := hb1.frozen 2
       simp at d2
       have hne1 : v1.ownBlock ≠ some b := own_blk_ne hown1 hb1 (by decide)
       obtain ⟨A1, c1, rfl⟩ := own_form hown1
       have HO := Lib.hid hown1; clear hown1
       have HA := Lib.hid hat1; clear hat1))
  · go_ret2
    refine ⟨rfl, _, ⟨by have := hb1.set_ 2 (.slice A1 (L.length + 1) c1); simpa using this, ?_, ?_⟩, ?_, ?_⟩
    · have h1 := ownsRow_setCell_other HO.out (a := ⟨b, 2, none⟩) hne1 (.slice A1 (L.length + 1) c1)
      simpa using h1
    · intro s hs
      rcases List.mem_append.1 hs with h | h
      · exact HL.out s h
      · simp at h
        subst h
        simp [fresh]
    · have h1 : Ch (fun k => k = b ∨ (Value.slice A L.length c).ownBlock = some k) w w1 := ((Ch.refl _ w).alloc _).grown hg1 (fun k hk => .inl (.inr hk))
      exact h1.setCell (.inl (.inl rfl)) _
    · intro k hk
      rcases HA.out with e | e
      · exact .inl (e ▸ hk)
      · rw [e] at hk
        injection hk with hk
        exact .inr (by simp at hk; omega)
  · have key : ∀ X, X = (pcells fresh).toArray → Reads (w.alloc (.cells X 55)) (w.heap.size + 1) 66 (some ⟨w.heap.size, 0, none⟩) 1 (pcells fresh) := by
      rintro X rfl
      exact reads_new w 55 _ 1 66 (by simp [fresh_cells])
    exact key _ (by kernel_rfl)
  · have hall : (pcells fresh).all (fun u => u.oneCell') = true := by kernel_rfl
    exact fun u hu => List.all_eq_true.1 hall u hu

/-- Do: its answer, its error, the sum behind it, the sessions behind it. -/
structure DoR where
  x : Int
  e : Int
  sum : Int
  L : List PS
def doR (window sum : Int) (L : List PS) (i seq amount : Int) : DoR :=
  if amount < -1125899906842624 ∨ 1125899906842624 < amount then ⟨0, 1, sum, L⟩
  else if i < 0 ∨ L.length ≤ i then ⟨0, 6, sum, L⟩
  else match L[i.toNat]? with
    | none => ⟨0, 6, sum, L⟩
    | some s =>
      if s.closed then ⟨0, 8, sum, L⟩
      else if seq < 1 ∨ s.next < seq ∨ 1073741824 < seq then ⟨0, 5, sum, L⟩
      else if seq < s.next then ⟨(keptR window s seq).1, (keptR window s seq).2, sum, L⟩
      else ⟨sum + amount, 0, sum + amount, L.set i.toNat ⟨s.ans.set (seq % window).toNat (sum + amount), s.next + 1, s.closed⟩⟩

theorem do_nil (i seq amount : Int) : Calls Try.prog 14 #[.pointer none, .int .i64 i, .int .i64 seq, .int .i64 amount] w fun e w' => e = .returned (.tuple #[.int .i64 0, .int .i64 1]) ∧ w = w' := by
  go_enter Try.func14, Try.ntmps14
  go_wp2_with fail
  go_ret2
  exact ⟨rfl, rfl⟩

theorem BPost.drewN {B b : Nat} {window sum : Int} {L : List PS} {v : Value} {w w' : World} (h : BPost B b window sum L v w w') (n : Nat) : BPost B b window sum L v w (w'.drewN n) := by
  obtain ⟨v', ⟨h1, h2, h3⟩, c, f⟩ := h
  exact ⟨v', ⟨h1.drewN n, own_drewN h2 n, h3⟩, c.drewN n, f⟩

set_option maxHeartbeats 2000000 in
theorem do_any (K i seq amount : Int) (h : PBook w B b window sum L v) (hF : Fine window sum L K) :
    Calls Try.prog 14 #[.pointer (some ⟨b, 0, none⟩), .int .i64 i, .int .i64 seq, .int .i64 amount] w fun e w' =>
      e = .returned (.tuple #[.int .i64 (doR window sum L i seq amount).x, .int .i64 (doR window sum L i seq amount).e]) ∧
      BPost B b window (doR window sum L i seq amount).sum (doR window sum L i seq amount).L v w w' := by
  by_cases ha : amount < -1125899906842624 ∨ 1125899906842624 < amount
  · have e1 : doR window sum L i seq amount = ⟨0, 1, sum, L⟩ := by unfold doR; rw [if_pos ha]
    rw [e1]; clear e1
    have H := Lib.hid h; clear h
    by_cases a1 : amount < -1125899906842624
    · clear ha
      go_enter Try.func14, Try.ntmps14
      go_wp2_with fail
      go_ret2
      exact ⟨rfl, BPost.same H.out⟩
    · have a2 : 1125899906842624 < amount := by omega
      clear ha
      go_enter Try.func14, Try.ntmps14
      go_wp2_with fail
      go_ret2
      exact ⟨rfl, BPost.same H.out⟩
  have a1 : ¬ amount < -1125899906842624 := by omega
  have a2 : ¬ 1125899906842624 < amount := by omega
  by_cases hi : i < 0 ∨ L.length ≤ i
  · have e1 : doR window sum L i seq amount = ⟨0, 6, sum, L⟩ := by unfold doR; rw [if_neg ha, if_pos hi]
    rw [e1]; clear e1 ha
    have H := Lib.hid (is_no B b window sum L v w i h hi)
    have H2 := Lib.hid h
    clear h hi
    go_enter Try.func14, Try.ntmps14
    go_wp2_with fail
    with_reducible refine H.out.mono ?_
    rintro e w' ⟨rfl, rfl⟩
    go_wp2_with fail
    go_ret2
    exact ⟨rfl, BPost.same H2.out⟩
  obtain ⟨I, rfl⟩ := Int.eq_ofNat_of_zero_le (show 0 ≤ i by omega)
  obtain ⟨s, hs⟩ := some_of_lt (show I < L.length by omega)
  have H := Lib.hid (is_yes B b window sum L v w I h (by omega) (by omega))
  have c2 := h.1.cell 2
  simp at c2
  obtain ⟨lb, c, rfl, hs64, hans, hn, hc, hf, hne⟩ := at_ h hs
  have hll : (L.length : Int) ≤ 9223372036854775807 := by have := own_len h.2.1; omega
  have hlt := lt_of_some hs
  obtain ⟨k0, k1⟩ := hF.next s (mem_of_some hs)
  have k2 := hF.k
  have H2 := Lib.hid h
  have HS := Lib.hid hs
  by_cases hcl : s.closed = true
  · have e1 : doR window sum L I seq amount = ⟨0, 8, sum, L⟩ := by unfold doR; rw [if_neg ha, if_neg hi, Int.toNat_natCast, hs]; simp only [hcl, if_pos]
    rw [e1]; clear e1 h hi hans hn hf hs hF ha
    rw [hcl] at hc
    clear hcl
    go_enter Try.func14, Try.ntmps14
    go_wp2_with fail
    with_reducible refine H.out.mono ?_
    rintro e w' ⟨rfl, rfl⟩
    go_wp2_with fail
    go_ret2
    exact ⟨rfl, BPost.same H2.out⟩
  have hcl' : s.closed = false := by simpa using hcl
  have HC := Lib.hid hcl'
  by_cases hq : seq < 1 ∨ s.next < seq ∨ 1073741824 < seq
  · have e1 : doR window sum L I seq amount = ⟨0, 5, sum, L⟩ := by unfold doR; rw [if_neg ha, if_neg hi, Int.toNat_natCast, hs]; simp only [hcl, Bool.false_eq_true, if_false, if_pos hq]
    rw [e1]; clear e1 h hi hans hf hs hF ha
    rw [hcl'] at hc
    clear hcl hcl'
    by_cases q1 : seq < 1
    · clear hq
      go_enter Try.func14, Try.ntmps14
      go_wp2_with fail
      with_reducible refine H.out.mono ?_
      rintro e w' ⟨rfl, rfl⟩
      go_wp2_with fail
      go_ret2
      exact ⟨rfl, BPost.same H2.out⟩
    · by_cases q2 : s.next < seq
      · clear hq
        go_enter Try.func14, Try.ntmps14
        go_wp2_with fail
        with_reducible refine H.out.mono ?_
        rintro e w' ⟨rfl, rfl⟩
        go_wp2_with fail
        go_ret2
        exact ⟨rfl, BPost.same H2.out⟩
      · omega
  have q1 : ¬ seq < 1 := by omega
  have q2 : ¬ s.next < seq := by omega
  have q3 : ¬ 1073741824 < seq := by omega
  by_cases hlt2 : seq < s.next
  · have e1 : doR window sum L I seq amount = ⟨(keptR window s seq).1, (keptR window s seq).2, sum, L⟩ := by
      unfold doR; rw [if_neg ha, if_neg hi, Int.toNat_natCast, hs]; simp only [hcl, Bool.false_eq_true, if_false, if_neg hq, if_pos hlt2]
    rw [e1]; clear e1
    have HK := Lib.hid (kept_any B b window sum L w I s lb c seq h hs hF.w0 hF.w1 k0 (by omega) (by omega) (by omega))
    generalize (keptR window s seq).1 = x at *
    generalize (keptR window s seq).2 = y at *
    clear h hi hans hf hs hF ha hq
    rw [hcl'] at hc
    clear hcl hcl'
    go_enter Try.func14, Try.ntmps14
    go_wp2_with fail
    with_reducible refine H.out.mono ?_
    rintro e w' ⟨rfl, rfl⟩
    go_wp2_with fail
    with_reducible refine HK.out.mono ?_
    rintro e w' ⟨rfl, k, hw'⟩
    have HW := Lib.hid hw'; clear hw'
    go_wp2_with fail
    go_ret2
    refine ⟨rfl, ?_⟩
    rw [HW.out]
    exact (BPost.same H2.out).drewN k
  · have e1 : doR window sum L I seq amount = ⟨sum + amount, 0, sum + amount, L.set I ⟨s.ans.set (seq % window).toNat (sum + amount), s.next + 1, s.closed⟩⟩ := by
      unfold doR; rw [if_neg ha, if_neg hi, Int.toNat_natCast, hs]; simp only [hcl, Bool.false_eq_true, if_false, if_neg hq, if_neg hlt2]
    rw [e1]; clear e1
    have r0 : 0 ≤ seq % window := Int.emod_nonneg _ (by have := hF.w0; omega)
    have r1 : seq % window < window := Int.emod_lt_of_pos _ (by have := hF.w0; omega)
    have wz := hF.w1
    have wz2 : ¬ window = 0 := by have := hF.w0; omega
    obtain ⟨m, hm⟩ : ∃ m : Nat, seq % window = m := ⟨(seq % window).toNat, by omega⟩
    have b1 := h.1.cell 1
    have f1 := h.1.frozen 1
    simp at b1
    have ks0 := hF.sum0
    have ks1 := hF.sum1
    have hm64 : (m : Int) < 64 := by omega
    have hmn : m < 64 := by omega
    rw [hm, Int.toNat_natCast]
    have P1 : PBook (w.setCell ⟨b, 1, none⟩ (.int .i64 (sum + amount))) B b window (sum + amount) L (.slice (some ⟨lb, 0, none⟩) L.length c) :=
      ⟨h.1.set_ 1 _, own_set_far h.2.1 (own_blk_ne h.2.1 h.1 (by decide)) _, h.2.2⟩
    have s0 : -9223372036854775808 ≤ sum + amount := by omega
    have s1 : sum + amount ≤ 9223372036854775807 := by omega
    have C1 : Ch (fun k => k = b ∨ (Value.slice (some ⟨lb, 0, none⟩) L.length c).ownBlock = some k) w (w.setCell ⟨b, 1, none⟩ (.int .i64 (sum + amount))) := Ch.setCell (Ch.refl _ _) (p := ⟨b, 1, none⟩) (.inl (.inl rfl)) _
    clear h hi hans hf hF ha hq r0 r1 H2 hs
    rw [hcl'] at hc
    clear hcl hcl'
    go_enter Try.func14, Try.ntmps14
    go_wp2_with fail
    with_reducible refine H.out.mono ?_
    rintro e w' ⟨rfl, rfl⟩
    go_upto_region 13 with (fail)
    generalize w.setCell ⟨b, 1, none⟩ (.int .i64 (sum + amount)) = w1 at *
    generalize hSu : sum + amount = S at *
    have HSu := Lib.hid hSu; clear hSu
    have HP := Lib.hid P1
    have b0 := P1.1.cell 0
    have b1' := P1.1.cell 1
    simp at b0 b1'
    obtain ⟨lb', c', hv, _, hans, hn', hc', hf, _⟩ := at_ P1 HS.out
    injection hv with hv
    injection hv with hv
    injection hv with hv
    subst hv
    have hx := hans m (by omega)
    have fx := hf (I * 66 + m)
    have P2 := put_ P1 HS.out (j := m) (by omega) (.int .i64 S) (s' := { s with ans := s.ans.set m S }) (by simpa using hs64) (pcells_set_ans hs64 hmn S) hne
    clear P1 hans hf c2 hn hc b1 f1
    generalize s.ans.getD m 0 = old at *
    have HSS := Lib.hid (List.getElem?_set_self (l := L) (a := { s with ans := s.ans.set m S }) hlt)
    have P4 : PBook (w1.setCell ⟨lb, I * 66 + m, none⟩ (.int .i64 S)).drew B b window S (L.set I { s with ans := s.ans.set m S }) (.slice (some ⟨lb, 0, none⟩) (L.set I { s with ans := s.ans.set m S }).length c) := ⟨P2.1.drew, P2.2.1, P2.2.2⟩
    have C2 : Ch (fun k => k = b ∨ (Value.slice (some ⟨lb, 0, none⟩) L.length c).ownBlock = some k) w (w1.setCell ⟨lb, I * 66 + m, none⟩ (.int .i64 S)).drew := (C1.setCell (p := ⟨lb, I * 66 + m, none⟩) (.inl (.inr rfl)) _).drew
    have HP4 := Lib.hid P4
    clear P2 HP C1 P4
    go_region
    generalize (w1.setCell ⟨lb, I * 66 + m, none⟩ (.int .i64 S)).drew = w2 at *
    obtain ⟨lb', c'', hv, _, hans, hn2, hc2, hf2, _⟩ := at_ HP4.out HSS.out
    injection hv with hv
    injection hv with hv
    injection hv with hv
    subst hv
    have fx2 := hf2 (I * 66 + 64)
    have P5 := put_ HP4.out HSS.out (j := 64) (by omega) (.int .i64 (s.next + 1)) (s' := { s with ans := s.ans.set m S, next := s.next + 1 }) (by simpa using hs64) (pcells_set_next (s := { s with ans := s.ans.set m S }) (by simpa using hs64) _) hne
    have z1 := P5.1.cell 1
    simp at z1
    have HP5 := Lib.hid P5
    clear P5 hans hf2 hn' hc' hx fx b0 b1'
    go_wp2_with fail
    go_ret2
    have hP := HP5.out
    rw [List.set_set] at hP
    obtain rfl := HSu.out
    refine ⟨rfl, _, hP, C2.setCell (p := ⟨lb, I * 66 + 64, none⟩) (.inl (.inr rfl)) _, fun k hk => .inl hk⟩
end
end Go.Proofs.Ytekibpfpkbgjkac
