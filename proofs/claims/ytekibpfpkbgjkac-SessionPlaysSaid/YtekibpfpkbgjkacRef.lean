/- The contracts of the reference of layer 27: a book whose sessions keep all answers. -/
import Derived.Test.YtekibpfpkbgjkacRows
import Derived.Test.YtekibpfpkbgjkacLib
import Derived.Test.YtekibpfpkbgjkacLibRows
import Derived.RegionTactic
import Derived.Deep.RegionLaw
import Derived.Deep.DeepCutAuto
namespace Go.Proofs.Ytekibpfpkbgjkac
open Go.RowKit
set_option linter.unusedVariables false

/-- A reference's session: its answers, whether it is closed, and the slice that holds the answers. -/
structure RS where
  ans : List Int
  closed : Bool
  v : Value
def rcells (s : RS) : List Value := [s.v, .bool s.closed]
theorem rlen (L : List RS) : ∀ s ∈ L, (rcells s).length = 2 := fun _ _ => rfl
def Apart (L : List RS) : Prop := ∀ (i j : Nat) (si sj : RS), i ≠ j → L[i]? = some si → L[j]? = some sj → ∀ k, si.v.ownBlock = some k → sj.v.ownBlock ≠ some k
def RBook (w : World) (B b : Nat) (window sum : Int) (L : List RS) (v : Value) : Prop :=
  Blk w b 29 #[.int .i64 window, .int .i64 sum, v] ∧ w.ownsRow B 41 2 v L.length (L.flatMap rcells) ∧ (∀ s ∈ L, w.ownsRow B 3 1 s.v s.ans.length (s.ans.map (Value.int .i64))) ∧ Apart L ∧ B ≤ b

/-- The blocks that a reference's call may turn. -/
def TS (B : Nat) (w : World) (k : Nat) : Prop := B ≤ k ∧ ∃ cs t, Blk w k t cs ∧ (t = 29 ∨ t = 41 ∨ t = 3)
theorem ts_blk {B : Nat} {w : World} {g t : Nat} {cs : Array Value} (h : Blk w g t cs) (h1 : t ≠ 29) (h2 : t ≠ 41) (h3 : t ≠ 3) : ¬ TS B w g := by
  rintro ⟨_, cs', t', h', ht⟩
  unfold Blk at h h'
  rw [h] at h'
  injection h' with h'
  injection h' with _ e
  subst e
  rcases ht with ht | ht | ht
  · exact h1 ht
  · exact h2 ht
  · exact h3 ht
theorem ts_own {B : Nat} {w : World} {e size n : Nat} {v : Value} {xs : List Value} (h : w.ownsRow B e size v n xs) (he : e = 41 ∨ e = 3) : ∀ k, v.ownBlock = some k → TS B w k := by
  intro k hk
  rcases h.2 with ⟨rfl, _⟩ | ⟨g, cap, cur, rfl, hg, hh, _⟩
  · simp [Value.ownBlock] at hk
  · simp [Value.ownBlock] at hk
    subst hk
    exact ⟨hg, cur, e, hh, by rcases he with he | he <;> simp [he]⟩
theorem ts_book {w : World} {B b : Nat} {window sum : Int} {L : List RS} {v : Value} (h : RBook w B b window sum L v) : TS B w b := ⟨h.2.2.2.2, _, 29, h.1, .inl rfl⟩

theorem rs_info : (Try.prog.info? 41).map (fun i => (i.zero.map fun z => z.cells.size, i.size, i.bytes)) = some (some 2, 2, 32) := by kernel_rfl
theorem rs_parts : ∃ i z, Try.prog.info? 41 = some i ∧ i.zero = some z ∧ i.size = 2 ∧ i.bytes = 32 ∧ z.cells.size = 2 := by
  obtain ⟨i, hi, h⟩ := Option.map_eq_some_iff.1 rs_info
  simp only [Prod.mk.injEq] at h
  obtain ⟨z, hz, hz2⟩ := Option.map_eq_some_iff.1 h.1
  exact ⟨i, z, hi, hz, h.2.1, h.2.2, hz2⟩
theorem rint_info : (Try.prog.info? 3).map (fun i => (i.zero, i.size, i.bytes)) = some (some (.int .i64 0), 1, 8) := by kernel_rfl

def rfresh : RS := ⟨[], false, .slice none 0 0⟩

/-- What is so of the i-th session in memory. -/
theorem rat_ {w : World} {B b : Nat} {window sum : Int} {L : List RS} {v : Value} (h : RBook w B b window sum L v) {i : Nat} {s : RS} (hi : L[i]? = some s) :
    ∃ lb c A c', v = .slice (some ⟨lb, 0, none⟩) L.length c ∧ s.v = .slice A s.ans.length c' ∧ w.cell? ⟨lb, i * 2, none⟩ = some (.slice A s.ans.length c') ∧ w.cell? ⟨lb, i * 2 + 1, none⟩ = some (.bool s.closed) ∧ (∀ j, w.frozen? ⟨lb, j, none⟩ = false) ∧
      (s.ans.length : Int) ≤ 9223372036854775807 ∧ Reads w w.heap.size 1 A s.ans.length (s.ans.map (Value.int .i64)) := by
  obtain ⟨hb, ho, hs, hap, hB⟩ := h
  have hlt := lt_of_some hi
  obtain ⟨lb, c, rfl, _, _⟩ := ho.form (by omega)
  have hsv := hs s (mem_of_some hi)
  obtain ⟨A, c', hv⟩ := own_form hsv
  have hm : i * 2 + 2 ≤ L.length * 2 := by omega
  have hll := own_len hsv
  refine ⟨lb, c, A, c', rfl, hv, ?_, ?_, fun j => ho.frozenAt j, by omega, Reads.of_own (by rw [hv] at hsv; exact hsv)⟩
  · have := flat_get (rlen L) hi (show 0 < 2 by omega)
    rw [ho.cellAt _ (by omega)]
    rw [Nat.add_zero] at this
    rw [this]
    simp [rcells, hv]
  · rw [ho.cellAt _ (by omega), flat_get (rlen L) hi (show 1 < 2 by omega)]
    simp [rcells]

/-- What a reference's book is behind a call. -/
def RPost (B b : Nat) (window sum : Int) (L : List RS) (w w' : World) : Prop := ∃ v', RBook w' B b window sum L v' ∧ Ch (TS B w) w w'
theorem RPost.same {B b : Nat} {window sum : Int} {L : List RS} {v : Value} {w : World} (h : RBook w B b window sum L v) : RPost B b window sum L w w := ⟨v, h, Ch.refl _ _⟩
theorem RBook.drewN {w : World} {B b : Nat} {window sum : Int} {L : List RS} {v : Value} (h : RBook w B b window sum L v) (n : Nat) : RBook (w.drewN n) B b window sum L v := h
theorem RPost.drewN {B b : Nat} {window sum : Int} {L : List RS} {w w' : World} (h : RPost B b window sum L w w') (n : Nat) : RPost B b window sum L w (w'.drewN n) := by
  obtain ⟨v, h1, h2⟩ := h
  exact ⟨v, h1, h2.drewN n⟩

section
variable (B b : Nat) (window sum : Int) (L : List RS) (v : Value) (w : World)

theorem ropen_full (h : RBook w B b window sum L v) (hf : 64 ≤ L.length) :
    Calls Try.prog 9 #[.pointer (some ⟨b, 0, none⟩)] w fun e w' => e = .returned (.tuple #[.int .i64 0, .int .i64 7]) ∧ w = w' := by
  have hll := own_len h.2.1
  obtain ⟨hb, ho, _⟩ := h
  have c2 := hb.cell 2
  simp at c2
  obtain ⟨A, c, rfl⟩ := own_form ho
  clear hb ho
  go_enter Try.func9, Try.ntmps9
  go_wp2_with fail
  go_ret2
  exact ⟨rfl, rfl⟩

theorem ropen_in (h : RBook w B b window sum L v) (hf : L.length < 64) (hB : B ≤ w.heap.size) :
    Calls Try.prog 9 #[.pointer (some ⟨b, 0, none⟩)] w fun e w' => e = .returned (.tuple #[.int .i64 L.length, .int .i64 0]) ∧ RPost B b window sum (L ++ [rfresh]) w w' := by
  obtain ⟨i0, z0, hi0, hz0, hz1, hz2, hz3⟩ := rs_parts
  have HT := Lib.hid (ts_book h)
  have HTO := Lib.hid (ts_own h.2.1 (.inl rfl))
  obtain ⟨hb, ho, hs, hap, hB2⟩ := h
  have c2 := hb.cell 2
  simp at c2
  obtain ⟨A, c, rfl⟩ := own_form ho
  have hne : (Value.slice A L.length c).ownBlock ≠ some b := own_blk_ne ho hb (by decide)
  have H := Lib.hid ho; clear ho
  have HS := Lib.hid hs; clear hs
  have HP := Lib.hid hap; clear hap
  go_enter Try.func9, Try.ntmps9
  go_wp2_with (first
    | (at_builtin
       refine wpList_append_any _ rfl (.tmp 14) (.tmp 16) _ rfl B 41 i0 z0 2 32 Try.underlying27 hi0 hz0 hz1 hz2 hz3 (by omega) (.slice A L.length c) L.length (L.flatMap rcells) rfl
         (H.out.alloc _) (w.heap.size + 1) (some ⟨w.heap.size, 0, none⟩) 1 1 (rcells rfresh) rfl ?_ ?_ (by simp only [maxLen]; omega) (by omega) (by simp; omega) ?_
       rotate_left 2
       intro v1 w1 hown1 hg1 hat1
       have hb1 : Blk w1 b 29 _ := (hb.alloc _).grown hg1 (fun e => hne e.symm)
       have d2 := hb1.cell 2
       have e2 := hb1.frozen 2
       simp at d2
       have hne1 : v1.ownBlock ≠ some b := own_blk_ne hown1 hb1 (by decide)
       obtain ⟨A1, c1, rfl⟩ := own_form hown1
       have HO := Lib.hid hown1; clear hown1
       clear hat1))
  · go_ret2
    have h1 : Ch (fun k => (Value.slice A L.length c).ownBlock = some k) w w1 := ((Ch.refl _ w).alloc _).grown hg1 (fun k hk => .inl hk)
    have h2 : Ch (TS B w) w (w1.setCell ⟨b, 2, none⟩ (.slice A1 (L.length + 1) c1)) := (h1.mono (fun k hk => HTO.out k hk)).setCell (p := ⟨b, 2, none⟩) (.inl HT.out) _
    refine ⟨rfl, _, ⟨by have := hb1.set_ 2 (.slice A1 (L.length + 1) c1); simpa using this, ?_, ?_, ?_, hB2⟩, h2⟩
    · have h1 := ownsRow_setCell_other HO.out (a := ⟨b, 2, none⟩) hne1 (.slice A1 (L.length + 1) c1)
      simpa using h1
    · intro s hs
      rcases List.mem_append.1 hs with hm | hm
      · have ho := HS.out s hm
        have hn1 : s.v.ownBlock ≠ some b := own_blk_ne ho hb (by decide)
        have hx : w1.ownsRow B 3 1 s.v s.ans.length (s.ans.map (Value.int .i64)) := own_ch ho h1 (fun k hk e => by
          obtain ⟨g', cap, hv, _, _⟩ := H.out.form (Nat.pos_of_ne_zero (fun e0 => by
            rcases H.out.2 with ⟨h0, _⟩ | ⟨g, cap, cur, h0, _⟩
            · rw [h0] at e; simp [Value.ownBlock] at e
            · rw [e0] at h0; have := List.length_eq_zero_iff.1 e0; subst this; simp at hm))
          rw [hv] at e
          simp [Value.ownBlock] at e
          subst e
          obtain ⟨cur, hc⟩ := own_blk (by rw [← hv]; exact H.out)
          exact own_blk_ne ho hc (by decide) hk)
        exact ownsRow_setCell_other hx (a := ⟨b, 2, none⟩) hn1 _
      · simp at hm
        subst hm
        exact World.ownsRow_nil _ _ _ _
    · intro i j si sj hij hi hj k hk
      by_cases h1 : i < L.length
      · by_cases h2 : j < L.length
        · rw [List.getElem?_append_left h1] at hi
          rw [List.getElem?_append_left h2] at hj
          exact HP.out i j si sj hij hi hj k hk
        · rw [List.getElem?_append_right (by omega)] at hj
          have : sj = rfresh := by
            have := mem_of_some hj; simpa using this
          subst this
          simp [rfresh, Value.ownBlock]
      · rw [List.getElem?_append_right (by omega)] at hi
        have : si = rfresh := by
          have := mem_of_some hi; simpa using this
        subst this
        simp [rfresh, Value.ownBlock] at hk
  · exact reads_new w 41 _ 1 2 rfl
  · intro u hu
    simp [rcells, rfresh] at hu
    rcases hu with h | h <;> subst h <;> rfl

/-- Close. -/
def rcloseE (L : List RS) (i : Int) : Int :=
  if i < 0 ∨ L.length ≤ i then 6 else match L[i.toNat]? with | none => 6 | some s => if s.closed then 8 else 0
def rcloseL (L : List RS) (i : Int) : List RS :=
  if i < 0 ∨ L.length ≤ i then L else match L[i.toNat]? with | none => L | some s => if s.closed then L else L.set i.toNat { s with closed := true }

theorem apart_set {L : List RS} (h : Apart L) {i : Nat} {s s' : RS} (hi : L[i]? = some s) (hs : ∀ k, s'.v.ownBlock = some k → s.v.ownBlock = some k ∨ ∀ (j : Nat) (sj : RS), L[j]? = some sj → sj.v.ownBlock ≠ some k) : Apart (L.set i s') := by
  have hlt := lt_of_some hi
  intro a c sa sc hac ha hc k hk
  by_cases h1 : a = i
  · subst h1
    rw [List.getElem?_set_self hlt] at ha
    rw [List.getElem?_set_ne hac] at hc
    cases ha
    rcases hs k hk with h2 | h2
    · exact h a c s sc hac hi hc k h2
    · exact h2 c sc hc
  · rw [List.getElem?_set_ne (fun e => h1 e.symm)] at ha
    by_cases h2 : c = i
    · subst h2
      rw [List.getElem?_set_self hlt] at hc
      cases hc
      intro e
      rcases hs k e with h3 | h3
      · exact h a c sa s hac ha hi k hk h3
      · exact h3 a sa ha hk
    · rw [List.getElem?_set_ne (fun e => h2 e.symm)] at hc
      exact h a c sa sc hac ha hc k hk
end

/-- A store of a session's closed cell. -/
theorem rput_closed {w : World} {B b : Nat} {window sum : Int} {L : List RS} {lb c : Nat} (h : RBook w B b window sum L (.slice (some ⟨lb, 0, none⟩) L.length c)) {i : Nat} {s : RS} (hi : L[i]? = some s) (x : Bool) :
    RBook (w.setCell ⟨lb, i * 2 + 1, none⟩ (.bool x)) B b window sum (L.set i { s with closed := x }) (.slice (some ⟨lb, 0, none⟩) (L.set i { s with closed := x }).length c) := by
  obtain ⟨hb, ho, hs, hap, hB⟩ := h
  obtain ⟨cur, hcur⟩ := own_blk ho
  have nb : b ≠ lb := hb.ne_ hcur (by decide)
  have hlt := lt_of_some hi
  refine ⟨by have := hb.far (p := ⟨lb, i * 2 + 1, none⟩) nb (.bool x); simpa using this, ?_, ?_, apart_set hap hi (fun k hk => .inl hk), hB⟩
  · have := (ho.stored (i * 2 + 1) (.bool x)).1
    rw [flat_set (rlen L) hi (show 1 < 2 by omega) (x' := { s with closed := x }) rfl] at this
    simpa using this
  · intro t ht
    have key : ∀ t ∈ L, (w.setCell ⟨lb, i * 2 + 1, none⟩ (.bool x)).ownsRow B 3 1 t.v t.ans.length (t.ans.map (Value.int .i64)) := fun t ht =>
      own_set_far (hs t ht) (fun e => own_blk_ne (hs t ht) hcur (by decide) e) _
    rcases List.mem_or_eq_of_mem_set ht with h | h
    · exact key t h
    · subst h; exact key s (mem_of_some hi)

section
variable (B b : Nat) (window sum : Int) (L : List RS) (v : Value) (w : World)

theorem rclose_any (i : Int) (h : RBook w B b window sum L v) :
    Calls Try.prog 11 #[.pointer (some ⟨b, 0, none⟩), .int .i64 i] w fun e w' => e = .returned (.int .i64 (rcloseE L i)) ∧ RPost B b window sum (rcloseL L i) w w' := by
  have c2 := h.1.cell 2
  simp at c2
  have hll := own_len h.2.1
  have hll2 : (L.length : Int) ≤ 9223372036854775807 := by omega
  obtain ⟨A, c, rfl⟩ := own_form h.2.1
  have H2 := Lib.hid h
  by_cases hi : i < 0 ∨ L.length ≤ i
  · have e1 : rcloseE L i = 6 := by unfold rcloseE; rw [if_pos hi]
    have e2 : rcloseL L i = L := by unfold rcloseL; rw [if_pos hi]
    rw [e1, e2]; clear e1 e2 h
    by_cases h1 : i < 0
    · clear hi
      go_enter Try.func11, Try.ntmps11
      go_wp2_with fail
      go_ret
      exact ⟨rfl, RPost.same H2.out⟩
    · have h2 : L.length ≤ i := by omega
      clear hi
      go_enter Try.func11, Try.ntmps11
      go_wp2_with fail
      go_ret
      exact ⟨rfl, RPost.same H2.out⟩
  · obtain ⟨I, rfl⟩ := Int.eq_ofNat_of_zero_le (show 0 ≤ i by omega)
    obtain ⟨s, hs⟩ := some_of_lt (show I < L.length by omega)
    obtain ⟨lb, c', A', c'', hv, hsv, k0, k1, hf, hsl, _⟩ := rat_ h hs
    injection hv with hv hv2 hv3
    subst hv hv3
    have hlt := lt_of_some hs
    have hf1 := hf (I * 2 + 1)
    have HS := Lib.hid hs
    by_cases hcl : s.closed = true
    · have e1 : rcloseE L I = 8 := by unfold rcloseE; rw [if_neg hi, Int.toNat_natCast, hs]; simp only [hcl, if_pos]
      have e2 : rcloseL L I = L := by unfold rcloseL; rw [if_neg hi, Int.toNat_natCast, hs]; simp only [hcl, if_pos]
      rw [e1, e2]; clear e1 e2 h hi hf hs hsv k0
      rw [hcl] at k1
      clear hcl
      go_enter Try.func11, Try.ntmps11
      go_wp2_with fail
      go_ret
      exact ⟨rfl, RPost.same H2.out⟩
    · have hcl' : s.closed = false := by simpa using hcl
      have e1 : rcloseE L I = 0 := by unfold rcloseE; rw [if_neg hi, Int.toNat_natCast, hs]; simp [hcl']
      have e2 : rcloseL L I = L.set I { s with closed := true } := by unfold rcloseL; rw [if_neg hi, Int.toNat_natCast, hs]; simp [hcl']
      rw [e1, e2]
      have HT := Lib.hid (ts_own h.2.1 (.inl rfl) lb rfl)
      clear e1 e2 h hi hf hs hsv k0
      rw [hcl'] at k1
      clear hcl hcl'
      go_enter Try.func11, Try.ntmps11
      go_wp2_with fail
      go_ret
      exact ⟨rfl, _, rput_closed H2.out HS.out true, (Ch.refl _ _).setCell (p := ⟨lb, I * 2 + 1, none⟩) (.inl HT.out) _⟩

/-- kept. -/
def rkeptR (window : Int) (s : RS) (seq : Int) : Int × Int := if window ≤ s.ans.length - seq then (0, 9) else (s.ans.getD (seq - 1).toNat 0, 0)

theorem rkept_any (I : Nat) (s : RS) (seq : Int) (h : RBook w B b window sum L v) (hs : L[I]? = some s) (hq0 : 1 ≤ seq) (hq1 : seq ≤ s.ans.length) (hw0 : 1 ≤ window) (hw1 : window ≤ 64) :
    Calls Try.prog 21 #[.pointer (some ⟨b, 0, none⟩), .int .i64 I, .int .i64 seq] w fun e w' => e = .returned (.tuple #[.int .i64 (rkeptR window s seq).1, .int .i64 (rkeptR window s seq).2]) ∧ ∃ k, w' = w.drewN k := by
  have c0 := h.1.cell 0
  have c2 := h.1.cell 2
  simp at c0 c2
  have hll := own_len h.2.1
  have hll2 : (L.length : Int) ≤ 9223372036854775807 := by omega
  obtain ⟨lb, c, A, c', rfl, hsv, k0, k1, hf, hsl, hr⟩ := rat_ h hs
  have hlt := lt_of_some hs
  have hltI : (I : Int) < (L.length : Int) := by omega
  clear h hf k1 hs
  by_cases hk : window ≤ s.ans.length - seq
  · have e1 : rkeptR window s seq = (0, 9) := by unfold rkeptR; rw [if_pos hk]
    rw [e1]; clear e1 hr hsv
    have ew : IntKind.i64.wrap ((s.ans.length : Int) - seq) = (s.ans.length : Int) - seq := IntWalk.i64_in _ (by omega)
    go_enter Try.func21, Try.ntmps21
    go_wp2_with fail
    go_quiet (fail)
    go_wp2_with fail
    go_ret2
    exact ⟨rfl, _, rfl⟩
  · have e1 : rkeptR window s seq = (s.ans.getD (seq - 1).toNat 0, 0) := by unfold rkeptR; rw [if_neg hk]
    rw [e1]; clear e1
    obtain ⟨m, hm⟩ : ∃ m : Nat, seq - 1 = m := ⟨(seq - 1).toNat, by omega⟩
    have hml : m < s.ans.length := by omega
    obtain ⟨ad, u, rfl, _, hx, hc⟩ := hr.at_ hml
    have hu : u = .int .i64 (s.ans.getD m 0) := by
      rw [List.getElem?_map, List.getElem?_eq_getElem hml] at hx
      simp at hx
      rw [List.getD_eq_getElem?_getD, List.getElem?_eq_getElem hml]
      exact hx.symm
    subst hu
    rw [hm, Int.toNat_natCast]
    generalize s.ans.getD m 0 = x at *
    have ew : IntKind.i64.wrap ((s.ans.length : Int) - seq) = (s.ans.length : Int) - seq := IntWalk.i64_in _ (by omega)
    have ew2 : IntKind.i64.wrap (seq - 1) = (m : Int) := by rw [hm]; exact IntWalk.i64_in _ (by omega)
    have hm2 : (m : Int) < (s.ans.length : Int) := by omega
    clear hsv hr hx
    go_enter Try.func21, Try.ntmps21
    go_wp2_with fail
    go_quiet (fail)
    go_wp2_with fail
    go_ret2
    exact ⟨rfl, _, rfl⟩

/-- Ask. -/
def raskR (window : Int) (L : List RS) (i seq : Int) : Int × Int :=
  if i < 0 ∨ L.length ≤ i then (0, 6)
  else if seq < 1 ∨ 1073741824 < seq then (0, 5)
  else match L[i.toNat]? with
    | none => (0, 6)
    | some s => if s.ans.length < seq then (0, 10) else rkeptR window s seq

theorem rask_any (i seq : Int) (h : RBook w B b window sum L v) (hw0 : 1 ≤ window) (hw1 : window ≤ 64) :
    Calls Try.prog 13 #[.pointer (some ⟨b, 0, none⟩), .int .i64 i, .int .i64 seq] w fun e w' => e = .returned (.tuple #[.int .i64 (raskR window L i seq).1, .int .i64 (raskR window L i seq).2]) ∧ ∃ k, w' = w.drewN k := by
  have c2 := h.1.cell 2
  simp at c2
  have hll := own_len h.2.1
  have hll2 : (L.length : Int) ≤ 9223372036854775807 := by omega
  obtain ⟨A, c, rfl⟩ := own_form h.2.1
  by_cases hi : i < 0 ∨ L.length ≤ i
  · have e1 : raskR window L i seq = (0, 6) := by unfold raskR; rw [if_pos hi]
    rw [e1]; clear e1 h
    by_cases h1 : i < 0
    · clear hi
      go_enter Try.func13, Try.ntmps13
      go_wp2_with fail
      go_ret2
      exact ⟨rfl, 0, rfl⟩
    · have h2 : L.length ≤ i := by omega
      clear hi
      go_enter Try.func13, Try.ntmps13
      go_wp2_with fail
      go_ret2
      exact ⟨rfl, 0, rfl⟩
  · obtain ⟨I, rfl⟩ := Int.eq_ofNat_of_zero_le (show 0 ≤ i by omega)
    obtain ⟨s, hs⟩ := some_of_lt (show I < L.length by omega)
    have hlt := lt_of_some hs
    have hltI : ¬ (L.length : Int) ≤ (I : Int) := by omega
    by_cases hq : seq < 1 ∨ 1073741824 < seq
    · have e1 : raskR window L I seq = (0, 5) := by unfold raskR; rw [if_neg hi, if_pos hq]
      rw [e1]; clear e1 h hs hi
      by_cases q1 : seq < 1
      · clear hq
        go_enter Try.func13, Try.ntmps13
        go_wp2_with fail
        go_ret2
        exact ⟨rfl, 0, rfl⟩
      · have q2 : 1073741824 < seq := by omega
        clear hq
        go_enter Try.func13, Try.ntmps13
        go_wp2_with fail
        go_ret2
        exact ⟨rfl, 0, rfl⟩
    · have q1 : ¬ seq < 1 := by omega
      have q2 : ¬ 1073741824 < seq := by omega
      have HK := fun h1 h2 => rkept_any B b window sum L _ w I s seq h hs h1 h2 hw0 hw1
      obtain ⟨lb, c', A', c'', hv, hsv, k0, k1, hf, hsl, _⟩ := rat_ h hs
      injection hv with hv hv2 hv3
      subst hv hv3
      by_cases hx : s.ans.length < seq
      · have e1 : raskR window L I seq = (0, 10) := by unfold raskR; rw [if_neg hi, if_neg hq, Int.toNat_natCast, hs]; simp only [if_pos hx]
        rw [e1]; clear e1 h hs hi hq hf hsv k1 HK
        go_enter Try.func13, Try.ntmps13
        go_wp2_with fail
        go_ret2
        exact ⟨rfl, 0, rfl⟩
      · have e1 : raskR window L I seq = rkeptR window s seq := by unfold raskR; rw [if_neg hi, if_neg hq, Int.toNat_natCast, hs]; simp only [if_neg hx]
        rw [e1]; clear e1
        have HK2 := Lib.hid (HK (by omega) (by omega))
        generalize (rkeptR window s seq).1 = x at *
        generalize (rkeptR window s seq).2 = y at *
        clear h hs hi hq hf hsv k1 HK
        go_enter Try.func13, Try.ntmps13
        go_wp2_with fail
        with_reducible refine HK2.out.mono ?_
        rintro e w' ⟨rfl, k, hw'⟩
        have HW := Lib.hid hw'; clear hw'
        go_wp2_with fail
        go_ret2
        exact ⟨rfl, k, HW.out⟩

end
end Go.Proofs.Ytekibpfpkbgjkac
