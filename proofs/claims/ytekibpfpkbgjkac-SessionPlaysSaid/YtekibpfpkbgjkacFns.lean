/- The contracts of package session. -/
import Derived.Test.YtekibpfpkbgjkacRows
import Derived.Test.YtekibpfpkbgjkacLib
import Derived.Test.YtekibpfpkbgjkacLibRows
import Derived.RegionTactic
import Derived.StillTailTactics
namespace Go.Proofs.Ytekibpfpkbgjkac
open Go.RowKit
set_option linter.unusedVariables false

/-- A session: the answers that go round, the number that comes next, whether it is closed. -/
structure PS where
  ans : List Int
  next : Int
  closed : Bool
def pcells (s : PS) : List Value := s.ans.map (Value.int .i64) ++ [.int .i64 s.next, .bool s.closed]
def PBook (w : World) (B b : Nat) (window sum : Int) (L : List PS) (v : Value) : Prop :=
  Blk w b 52 #[.int .i64 window, .int .i64 sum, v] ∧ w.ownsRow B 55 66 v L.length (L.flatMap pcells) ∧ (∀ s ∈ L, s.ans.length = 64)

theorem pcells_len {s : PS} (h : s.ans.length = 64) : (pcells s).length = 66 := by simp [pcells, h]
theorem plen {L : List PS} (h : ∀ s ∈ L, s.ans.length = 64) : ∀ s ∈ L, (pcells s).length = 66 := fun s hs => pcells_len (h s hs)
theorem pcells_ans {s : PS} (h : s.ans.length = 64) {j : Nat} (hj : j < 64) : (pcells s)[j]? = some (.int .i64 (s.ans.getD j 0)) := by
  unfold pcells
  rw [List.getElem?_append_left (by simp [h]; omega), List.getElem?_map, List.getElem?_eq_getElem (by omega)]
  simp [List.getD, List.getElem?_eq_getElem (show j < s.ans.length by omega)]
theorem pcells_next {s : PS} (h : s.ans.length = 64) : (pcells s)[64]? = some (.int .i64 s.next) := by
  unfold pcells
  rw [List.getElem?_append_right (by simp [h])]
  simp [h]
theorem pcells_closed {s : PS} (h : s.ans.length = 64) : (pcells s)[65]? = some (.bool s.closed) := by
  unfold pcells
  rw [List.getElem?_append_right (by simp [h])]
  simp [h]
theorem pcells_set_ans {s : PS} (h : s.ans.length = 64) {j : Nat} (hj : j < 64) (x : Int) : pcells { s with ans := s.ans.set j x } = (pcells s).set j (.int .i64 x) := by
  unfold pcells
  rw [List.set_append_left _ _ (by simp [h]; omega)]
  simp [List.map_set]
theorem pcells_set_next {s : PS} (h : s.ans.length = 64) (x : Int) : pcells { s with next := x } = (pcells s).set 64 (.int .i64 x) := by
  unfold pcells
  rw [List.set_append_right _ _ (by simp [h])]
  simp [h]
theorem pcells_set_closed {s : PS} (h : s.ans.length = 64) (x : Bool) : pcells { s with closed := x } = (pcells s).set 65 (.bool x) := by
  unfold pcells
  rw [List.set_append_right _ _ (by simp [h])]
  simp [h]

theorem new_out (n : Int) (h : n < 1 ∨ 64 < n) (w : World) : Calls Try.prog 7 #[.int .i64 n] w fun e w' => e = .returned (.pointer none) ∧ w = w' := by
  by_cases h1 : n < 1
  · clear h
    go_enter Try.func7, Try.ntmps7
    go_wp2
    go_ret
    exact ⟨rfl, rfl⟩
  · have h2 : 64 < n := by omega
    clear h
    go_enter Try.func7, Try.ntmps7
    go_wp2
    go_ret
    exact ⟨rfl, rfl⟩
theorem new_in (n : Int) (h0 : 1 ≤ n) (h1 : n ≤ 64) (w : World) : Calls Try.prog 7 #[.int .i64 n] w fun e w' => e = .returned (.pointer (some ⟨w.heap.size, 0, none⟩)) ∧
    w' = w.alloc (.cells #[.int .i64 n, .int .i64 0, .slice none 0 0] 52) := by
  have h2 : ¬ n < 1 := by omega
  have h3 : ¬ 64 < n := by omega
  go_enter Try.func7, Try.ntmps7
  go_wp2
  go_ret
  exact ⟨rfl, rfl⟩

section
variable (B b : Nat) (window sum : Int) (L : List PS) (v : Value) (w : World)

theorem is_nil (i : Int) : Calls Try.prog 19 #[.pointer none, .int .i64 i] w fun e w' => e = .returned (.bool false) ∧ w = w' := by
  go_enter Try.func19, Try.ntmps19
  go_wp2_with fail
  go_ret
  exact ⟨rfl, rfl⟩
theorem is_yes (i : Int) (h : PBook w B b window sum L v) (h0 : 0 ≤ i) (h1 : i < L.length) :
    Calls Try.prog 19 #[.pointer (some ⟨b, 0, none⟩), .int .i64 i] w fun e w' => e = .returned (.bool true) ∧ w = w' := by
  obtain ⟨hb, ho, hl⟩ := h
  have c2 := hb.cell 2
  simp at c2
  obtain ⟨A, c, rfl⟩ := own_form ho
  clear hb ho hl
  go_enter Try.func19, Try.ntmps19
  go_wp2_with fail
  go_ret
  exact ⟨rfl, rfl⟩
theorem is_no (i : Int) (h : PBook w B b window sum L v) (h0 : i < 0 ∨ L.length ≤ i) :
    Calls Try.prog 19 #[.pointer (some ⟨b, 0, none⟩), .int .i64 i] w fun e w' => e = .returned (.bool false) ∧ w = w' := by
  obtain ⟨hb, ho, hl⟩ := h
  have c2 := hb.cell 2
  simp at c2
  obtain ⟨A, c, rfl⟩ := own_form ho
  clear hb ho hl
  by_cases hi : 0 ≤ i
  · have h1 : ¬ i < L.length := by omega
    clear h0
    go_enter Try.func19, Try.ntmps19
    go_wp2_with fail
    go_ret
    exact ⟨rfl, rfl⟩
  · clear h0
    go_enter Try.func19, Try.ntmps19
    go_wp2_with fail
    go_ret
    exact ⟨rfl, rfl⟩
theorem sum_any (h : PBook w B b window sum L v) : Calls Try.prog 16 #[.pointer (some ⟨b, 0, none⟩)] w fun e w' => e = .returned (.int .i64 sum) ∧ w = w' := by
  have c1 := h.1.cell 1
  simp at c1
  clear h
  go_enter Try.func16, Try.ntmps16
  go_wp2_with fail
  go_ret
  exact ⟨rfl, rfl⟩
theorem sessions_nil : Calls Try.prog 17 #[.pointer none] w fun e w' => e = .returned (.int .i64 0) ∧ w = w' := by
  go_enter Try.func17, Try.ntmps17
  go_wp2_with fail
  go_ret
  exact ⟨rfl, rfl⟩
theorem sessions_any (h : PBook w B b window sum L v) : Calls Try.prog 17 #[.pointer (some ⟨b, 0, none⟩)] w fun e w' => e = .returned (.int .i64 L.length) ∧ w = w' := by
  obtain ⟨hb, ho, hl⟩ := h
  have c2 := hb.cell 2
  simp at c2
  obtain ⟨A, c, rfl⟩ := own_form ho
  clear hb ho hl
  go_enter Try.func17, Try.ntmps17
  go_wp2_with fail
  go_ret
  exact ⟨rfl, rfl⟩

/-- What is so of the i-th session in memory. -/
theorem at_ {w : World} {B b : Nat} {window sum : Int} {L : List PS} {v : Value} (h : PBook w B b window sum L v) {i : Nat} {s : PS} (hi : L[i]? = some s) :
    ∃ lb c, v = .slice (some ⟨lb, 0, none⟩) L.length c ∧ s.ans.length = 64 ∧ (∀ j, j < 64 → w.cell? ⟨lb, i * 66 + j, none⟩ = some (.int .i64 (s.ans.getD j 0))) ∧
      w.cell? ⟨lb, i * 66 + 64, none⟩ = some (.int .i64 s.next) ∧ w.cell? ⟨lb, i * 66 + 65, none⟩ = some (.bool s.closed) ∧ (∀ j, w.frozen? ⟨lb, j, none⟩ = false) ∧ lb ≠ b := by
  obtain ⟨hb, ho, hl⟩ := h
  have hlt := lt_of_some hi
  obtain ⟨lb, c, rfl, _, _⟩ := ho.form (by omega)
  have hs := hl s (mem_of_some hi)
  have hm : i * 66 + 66 ≤ L.length * 66 := by
    have : (i + 1) * 66 ≤ L.length * 66 := Nat.mul_le_mul_right _ (by omega)
    omega
  refine ⟨lb, c, rfl, hs, fun j hj => ?_, ?_, ?_, fun j => ho.frozenAt j, fun e => own_blk_ne ho hb (by decide) (by simp [Value.ownBlock, e])⟩
  · rw [ho.cellAt _ (by omega), flat_get (plen hl) hi (by omega), pcells_ans hs hj]
  · rw [ho.cellAt _ (by omega), flat_get (plen hl) hi (by omega), pcells_next hs]
  · rw [ho.cellAt _ (by omega), flat_get (plen hl) hi (by omega), pcells_closed hs]

/-- A store into the i-th session's j-th cell. -/
theorem put_ {w : World} {B b : Nat} {window sum : Int} {L : List PS} {lb c : Nat} (h : PBook w B b window sum L (.slice (some ⟨lb, 0, none⟩) L.length c)) {i j : Nat} {s s' : PS} (hi : L[i]? = some s) (hj : j < 66) (u : Value)
    (hs' : s'.ans.length = 64) (hu : pcells s' = (pcells s).set j u) (hne : lb ≠ b) :
    PBook (w.setCell ⟨lb, i * 66 + j, none⟩ u) B b window sum (L.set i s') (.slice (some ⟨lb, 0, none⟩) (L.set i s').length c) := by
  obtain ⟨hb, ho, hl⟩ := h
  refine ⟨by have := hb.far (p := ⟨lb, i * 66 + j, none⟩) (fun e => hne e.symm) u; simpa using this, ?_, fun x hx => ?_⟩
  · have := (ho.stored (i * 66 + j) u).1
    rw [flat_set (plen hl) hi hj hu] at this
    simpa using this
  · rcases List.mem_or_eq_of_mem_set hx with h | h
    · exact hl x h
    · rw [h]; exact hs'

theorem next_no (i : Int) (h : PBook w B b window sum L v) (h0 : i < 0 ∨ L.length ≤ i) :
    Calls Try.prog 18 #[.pointer (some ⟨b, 0, none⟩), .int .i64 i] w fun e w' => e = .returned (.int .i64 0) ∧ w = w' := by
  have H := Lib.hid (is_no B b window sum L v w i h h0)
  clear h h0
  go_enter Try.func18, Try.ntmps18
  go_wp2_with fail
  with_reducible refine H.out.mono ?_
  rintro e w' ⟨rfl, rfl⟩
  go_wp2_with fail
  go_ret
  exact ⟨rfl, rfl⟩
theorem next_yes (i : Nat) (s : PS) (h : PBook w B b window sum L v) (hi : L[i]? = some s) :
    Calls Try.prog 18 #[.pointer (some ⟨b, 0, none⟩), .int .i64 i] w fun e w' => e = .returned (.int .i64 s.next) ∧ w = w' := by
  have hlt := lt_of_some hi
  have H := Lib.hid (is_yes B b window sum L v w i h (by omega) (by omega))
  have c2 := h.1.cell 2
  simp at c2
  obtain ⟨lb, c, rfl, hs, ha, hn, hc, hf, _⟩ := at_ h hi
  have hll : (L.length : Int) ≤ 9223372036854775807 := by have := own_len h.2.1; omega
  clear h hi ha hc hf
  go_enter Try.func18, Try.ntmps18
  go_wp2_with fail
  with_reducible refine H.out.mono ?_
  rintro e w' ⟨rfl, rfl⟩
  go_wp2_with fail
  go_ret
  exact ⟨rfl, rfl⟩

/-- kept: what a request that was done was answered. -/
def keptR (window : Int) (s : PS) (seq : Int) : Int × Int := if window < s.next - seq then (0, 9) else (s.ans.getD (seq % window).toNat 0, 0)

theorem kept_any (i : Nat) (s : PS) (lb c : Nat) (seq : Int) (h : PBook w B b window sum L (.slice (some ⟨lb, 0, none⟩) L.length c)) (hi : L[i]? = some s) (hw0 : 1 ≤ window) (hw1 : window ≤ 64)
    (hn0 : 1 ≤ s.next) (hn1 : s.next ≤ 2000000000) (hq0 : 1 ≤ seq) (hq1 : seq ≤ 1073741824) :
    Calls Try.prog 20 #[.pointer (some ⟨b, 0, none⟩), .pointer (some ⟨lb, i * 66, none⟩), .int .i64 seq] w fun e w' =>
      e = .returned (.tuple #[.int .i64 (keptR window s seq).1, .int .i64 (keptR window s seq).2]) ∧ ∃ k, w' = w.drewN k := by
  have c0 := h.1.cell 0
  simp at c0
  obtain ⟨lb', c', hv, hs, ha, hn, hc, hf, _⟩ := at_ h hi
  injection hv with hv
  injection hv with hv
  injection hv with hv
  subst hv
  have r0 : 0 ≤ seq % window := Int.emod_nonneg _ (by omega)
  have r1 : seq % window < window := Int.emod_lt_of_pos _ (by omega)
  have hx := ha (seq % window).toNat (by omega)
  have hwz : ¬ window = 0 := by omega
  clear h hi ha hc hf
  by_cases hk : window < s.next - seq
  · have e1 : keptR window s seq = (0, 9) := by unfold keptR; rw [if_pos hk]
    rw [e1]; clear e1 hx
    go_enter Try.func20, Try.ntmps20
    go_wp2_with fail
    go_quiet (fail)
    go_wp2_with fail
    go_ret2
    exact ⟨rfl, _, rfl⟩
  · have e1 : keptR window s seq = (s.ans.getD (seq % window).toNat 0, 0) := by unfold keptR; rw [if_neg hk]
    rw [e1]; clear e1
    generalize s.ans.getD (seq % window).toNat 0 = x at *
    obtain ⟨m, hm⟩ : ∃ m : Nat, seq % window = m := ⟨(seq % window).toNat, by omega⟩
    rw [hm, Int.toNat_natCast] at hx
    rw [hm] at r0 r1
    have hm64 : (m : Int) < 64 := by omega
    go_enter Try.func20, Try.ntmps20
    go_wp2_with fail
    go_quiet (fail)
    go_wp2_with fail
    go_quiet (fail)
    go_wp2_with fail
    go_ret2
    exact ⟨rfl, _, World.drewN_drewN _ _ _⟩

/-- Ask. -/
def askR (window : Int) (L : List PS) (i seq : Int) : Int × Int :=
  if i < 0 ∨ L.length ≤ i then (0, 6)
  else if seq < 1 ∨ 1073741824 < seq then (0, 5)
  else match L[i.toNat]? with
    | none => (0, 6)
    | some s => if s.next ≤ seq then (0, 10) else keptR window s seq

theorem ask_nil (i seq : Int) : Calls Try.prog 12 #[.pointer none, .int .i64 i, .int .i64 seq] w fun e w' => e = .returned (.tuple #[.int .i64 0, .int .i64 1]) ∧ w = w' := by
  go_enter Try.func12, Try.ntmps12
  go_wp2_with fail
  go_ret2
  exact ⟨rfl, rfl⟩

/-- The bounds of a book. -/
structure Fine (window sum : Int) (L : List PS) (K : Int) : Prop where
  w0 : 1 ≤ window
  w1 : window ≤ 64
  len : L.length ≤ 64
  next : ∀ s ∈ L, 1 ≤ s.next ∧ s.next ≤ K + 1
  k : 0 ≤ K ∧ K ≤ 1000
  sum0 : -(K * 1125899906842624) ≤ sum
  sum1 : sum ≤ K * 1125899906842624

theorem ask_any (K i seq : Int) (h : PBook w B b window sum L v) (hF : Fine window sum L K) :
    Calls Try.prog 12 #[.pointer (some ⟨b, 0, none⟩), .int .i64 i, .int .i64 seq] w fun e w' =>
      e = .returned (.tuple #[.int .i64 (askR window L i seq).1, .int .i64 (askR window L i seq).2]) ∧ ∃ k, w' = w.drewN k := by
  by_cases hi : i < 0 ∨ L.length ≤ i
  · have e1 : askR window L i seq = (0, 6) := by unfold askR; rw [if_pos hi]
    rw [e1]; clear e1
    have H := Lib.hid (is_no B b window sum L v w i h hi)
    clear h hi
    go_enter Try.func12, Try.ntmps12
    go_wp2_with fail
    with_reducible refine H.out.mono ?_
    rintro e w' ⟨rfl, rfl⟩
    go_wp2_with fail
    go_ret2
    exact ⟨rfl, 0, rfl⟩
  · obtain ⟨I, rfl⟩ := Int.eq_ofNat_of_zero_le (show 0 ≤ i by omega)
    obtain ⟨s, hs⟩ := some_of_lt (show I < L.length by omega)
    have H := Lib.hid (is_yes B b window sum L v w I h (by omega) (by omega))
    have c2 := h.1.cell 2
    simp at c2
    obtain ⟨lb, c, rfl, hs64, ha, hn, hc, hf, _⟩ := at_ h hs
    have hll : (L.length : Int) ≤ 9223372036854775807 := by have := own_len h.2.1; omega
    have hlt := lt_of_some hs
    obtain ⟨k0, k1⟩ := hF.next s (mem_of_some hs)
    have k2 := hF.k
    by_cases hq : seq < 1 ∨ 1073741824 < seq
    · have e1 : askR window L I seq = (0, 5) := by unfold askR; rw [if_neg hi, if_pos hq]
      rw [e1]; clear e1 h hF hi ha hn hc hf hs
      by_cases hq1 : seq < 1
      · clear hq
        go_enter Try.func12, Try.ntmps12
        go_wp2_with fail
        with_reducible refine H.out.mono ?_
        rintro e w' ⟨rfl, rfl⟩
        go_wp2_with fail
        go_ret2
        exact ⟨rfl, 0, rfl⟩
      · have hq2 : 1073741824 < seq := by omega
        clear hq
        go_enter Try.func12, Try.ntmps12
        go_wp2_with fail
        with_reducible refine H.out.mono ?_
        rintro e w' ⟨rfl, rfl⟩
        go_wp2_with fail
        go_ret2
        exact ⟨rfl, 0, rfl⟩
    · by_cases hx : s.next ≤ seq
      · have e1 : askR window L I seq = (0, 10) := by unfold askR; rw [if_neg hi, if_neg hq, Int.toNat_natCast, hs]; simp only [if_pos hx]
        rw [e1]; clear e1 h hF hi ha hc hf hs
        have q1 : ¬ seq < 1 := by omega
        have q2 : ¬ 1073741824 < seq := by omega
        clear hq
        go_enter Try.func12, Try.ntmps12
        go_wp2_with fail
        with_reducible refine H.out.mono ?_
        rintro e w' ⟨rfl, rfl⟩
        go_wp2_with fail
        go_ret2
        exact ⟨rfl, 0, rfl⟩
      · have e1 : askR window L I seq = keptR window s seq := by unfold askR; rw [if_neg hi, if_neg hq, Int.toNat_natCast, hs]; simp only [if_neg hx]
        rw [e1]; clear e1
        have HK := Lib.hid (kept_any B b window sum L w I s lb c seq h hs hF.w0 hF.w1 k0 (by omega) (by omega) (by omega))
        generalize (keptR window s seq).1 = x at *
        generalize (keptR window s seq).2 = y at *
        clear h hF hi ha hc hf hs
        have q1 : ¬ seq < 1 := by omega
        have q2 : ¬ 1073741824 < seq := by omega
        clear hq
        go_enter Try.func12, Try.ntmps12
        go_wp2_with fail
        with_reducible refine H.out.mono ?_
        rintro e w' ⟨rfl, rfl⟩
        go_wp2_with fail
        with_reducible refine HK.out.mono ?_
        rintro e w' ⟨rfl, k, hw'⟩
        have HW := Lib.hid hw'; clear hw'
        go_wp2_with fail
        go_ret2
        exact ⟨rfl, k, HW.out⟩

/-- Close. -/
def closeE (L : List PS) (i : Int) : Int :=
  if i < 0 ∨ L.length ≤ i then 6 else match L[i.toNat]? with | none => 6 | some s => if s.closed then 8 else 0
def closeL (L : List PS) (i : Int) : List PS :=
  if i < 0 ∨ L.length ≤ i then L else match L[i.toNat]? with | none => L | some s => if s.closed then L else L.set i.toNat { s with closed := true }

/-- What a book is behind a call. -/
def BPost (B b : Nat) (window sum : Int) (L : List PS) (v : Value) (w w' : World) : Prop :=
  ∃ v', PBook w' B b window sum L v' ∧ Ch (fun k => k = b ∨ v.ownBlock = some k) w w' ∧ (∀ k, v'.ownBlock = some k → v.ownBlock = some k ∨ w.heap.size ≤ k)

theorem BPost.same {B b : Nat} {window sum : Int} {L : List PS} {v : Value} {w : World} (h : PBook w B b window sum L v) : BPost B b window sum L v w w := ⟨v, h, Ch.refl _ _, fun k hk => .inl hk⟩

theorem close_any (i : Int) (h : PBook w B b window sum L v) :
    Calls Try.prog 10 #[.pointer (some ⟨b, 0, none⟩), .int .i64 i] w fun e w' => e = .returned (.int .i64 (closeE L i)) ∧ BPost B b window sum (closeL L i) v w w' := by
  by_cases hi : i < 0 ∨ L.length ≤ i
  · have e1 : closeE L i = 6 := by unfold closeE; rw [if_pos hi]
    have e2 : closeL L i = L := by unfold closeL; rw [if_pos hi]
    rw [e1, e2]; clear e1 e2
    have H := Lib.hid (is_no B b window sum L v w i h hi)
    have H2 := Lib.hid h
    clear h hi
    go_enter Try.func10, Try.ntmps10
    go_wp2_with fail
    with_reducible refine H.out.mono ?_
    rintro e w' ⟨rfl, rfl⟩
    go_wp2_with fail
    go_ret
    exact ⟨rfl, BPost.same H2.out⟩
  · obtain ⟨I, rfl⟩ := Int.eq_ofNat_of_zero_le (show 0 ≤ i by omega)
    obtain ⟨s, hs⟩ := some_of_lt (show I < L.length by omega)
    have H := Lib.hid (is_yes B b window sum L v w I h (by omega) (by omega))
    have c2 := h.1.cell 2
    simp at c2
    obtain ⟨lb, c, rfl, hs64, ha, hn, hc, hf, hne⟩ := at_ h hs
    have hll : (L.length : Int) ≤ 9223372036854775807 := by have := own_len h.2.1; omega
    have hlt := lt_of_some hs
    have hf1 := hf (I * 66 + 65)
    have H2 := Lib.hid h
    have HS := Lib.hid hs
    by_cases hcl : s.closed = true
    · have e1 : closeE L I = 8 := by unfold closeE; rw [if_neg hi, Int.toNat_natCast, hs]; simp only [hcl, if_pos]
      have e2 : closeL L I = L := by unfold closeL; rw [if_neg hi, Int.toNat_natCast, hs]; simp only [hcl, if_pos]
      rw [e1, e2]; clear e1 e2 h hi ha hn hf hs
      rw [hcl] at hc
      clear hcl
      go_enter Try.func10, Try.ntmps10
      go_wp2_with fail
      with_reducible refine H.out.mono ?_
      rintro e w' ⟨rfl, rfl⟩
      go_wp2_with fail
      go_ret
      exact ⟨rfl, BPost.same H2.out⟩
    · have hcl' : s.closed = false := by simpa using hcl
      have e1 : closeE L I = 0 := by unfold closeE; rw [if_neg hi, Int.toNat_natCast, hs]; simp [hcl']
      have e2 : closeL L I = L.set I { s with closed := true } := by unfold closeL; rw [if_neg hi, Int.toNat_natCast, hs]; simp [hcl']
      rw [e1, e2]; clear e1 e2 h hi ha hn hf hs
      rw [hcl'] at hc
      clear hcl hcl'
      go_enter Try.func10, Try.ntmps10
      go_wp2_with fail
      with_reducible refine H.out.mono ?_
      rintro e w' ⟨rfl, rfl⟩
      go_wp2_with fail
      go_ret
      refine ⟨rfl, _, put_ H2.out HS.out (by omega) _ hs64 (pcells_set_closed hs64 true) hne, ?_, fun k hk => .inl hk⟩
      exact Ch.setCell (Ch.refl _ _) (p := ⟨lb, I * 66 + 65, none⟩) (.inl (.inr rfl)) _
end
end Go.Proofs.Ytekibpfpkbgjkac
