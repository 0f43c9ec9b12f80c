/- A law's scripts: the acts as they lie in memory; few; what a putting changes for a reader, in plain words. -/
import Derived.Test.YtfcdplfnhjbdnaaFi
namespace Go.Proofs.Ytfcdplfnhjbdnaa
open Go.RowKit Go.Maps
set_option linter.unusedVariables false

/-- A slice of acts: key, value, has, trim, moment. -/
def ActAt (w : World) (b off i : Nat) (K V : ByteArray) (H T : Bool) (M : Int) : Prop :=
  w.cell? ⟨b, off + i * 5, none⟩ = some (.string K) ∧ w.cell? ⟨b, off + i * 5 + 1, none⟩ = some (.string V) ∧ w.cell? ⟨b, off + i * 5 + 2, none⟩ = some (.bool H) ∧
    w.cell? ⟨b, off + i * 5 + 3, none⟩ = some (.bool T) ∧ w.cell? ⟨b, off + i * 5 + 4, none⟩ = some (.int .i64 M)
def Acts (w : World) (A : Option Addr) (n : Nat) : Prop :=
  n ≤ maxLen ∧ (0 < n → ∃ b off, A = some ⟨b, off, none⟩ ∧ b < w.heap.size ∧ ∀ i, i < n → ∃ (K V : ByteArray) (H T : Bool) (M : Int), K.size ≤ maxLen ∧ V.size ≤ maxLen ∧ (Lit.int .i64 M).wf = true ∧ ActAt w b off i K V H T M)
theorem ActAt.below {w0 w : World} {b off i : Nat} {K V : ByteArray} {H T : Bool} {M : Int} (h : ActAt w0 b off i K V H T M) (hb : Below w0.heap.size w0 w) (hlt : b < w0.heap.size) : ActAt w b off i K V H T M :=
  ⟨(hb.cell hlt).trans h.1, (hb.cell hlt).trans h.2.1, (hb.cell hlt).trans h.2.2.1, (hb.cell hlt).trans h.2.2.2.1, (hb.cell hlt).trans h.2.2.2.2⟩
theorem Acts.below {w0 w : World} {A : Option Addr} {n : Nat} (h : Acts w0 A n) (hb : Below w0.heap.size w0 w) : Acts w A n := by
  refine ⟨h.1, fun hn => ?_⟩
  obtain ⟨b, off, hA, hlt, hc⟩ := h.2 hn
  refine ⟨b, off, hA, Nat.lt_of_lt_of_le hlt hb.size, fun i hi => ?_⟩
  obtain ⟨K, V, H, T, M, h1, h2, h3, h4⟩ := hc i hi
  exact ⟨K, V, H, T, M, h1, h2, h3, h4.below hb hlt⟩
set_option maxRecDepth 100000 in
theorem few_any (A : Option Addr) (n c : Nat) (w : World) (hA : Acts w A n) : Calls Try.prog 8 #[.slice A n c] w fun e w' => ∃ fb : Bool, e = .returned (.bool fb) ∧ (fb = true → n ≤ 60) ∧ NewW w w' := by
  have hmax : (n : Int) ≤ 9223372036854775807 := by have := hA.1; unfold maxLen at this; omega
  have HA := Lib.hid hA
  clear hA
  go_enter Try.func8, Try.ntmps8
  go_wp2_with fail
  go_loopw [7] (fun i w' => ∃ k : Nat, k ≤ n ∧ i = .int .i64 k ∧ NewW w w') (fun i _ => n - (intOf i).toNat)
  case atStart => exact ⟨0, by omega, rfl, Ch.refl _ _⟩
  case round =>
    obtain ⟨k, hk, rfl, hC⟩ := hrel
    by_cases hlt : k < n
    · obtain ⟨b0, off, rfl, hb0, hc⟩ := HA.out.2 (by omega)
      obtain ⟨K, V, H, T, M, hK, hV, hM, x0, x1, x2, x3, x4⟩ := hc k hlt
      have c0 := new_cell hC x0
      have c1 := new_cell hC x1
      have c2 := new_cell hC x2
      have c3 := new_cell hC x3
      have c4 := new_cell hC x4
      have HN := Lib.hid (fun o => (hC.alloc o : NewW w (wr.alloc o)))
      unfold maxLen at hK hV
      clear x0 x1 x2 x3 x4 hc hC HA hM
      by_cases h1 : 100 < K.size
      · have d1 : decide (100 < (K.size : Int)) = true := by simp; omega
        go_wp2_with fail
        go_ret
        exact ⟨false, rfl, (fun h => by cases h), HN.out _⟩
      · have d1 : decide (100 < (K.size : Int)) = false := by simp; omega
        have d1' : decide (100 < K.size) = false := by simp; omega
        by_cases h2 : 100 < V.size
        · have d2 : decide (100 < (V.size : Int)) = true := by simp; omega
          go_wp2_with fail
          go_ret
          exact ⟨false, rfl, (fun h => by cases h), HN.out _⟩
        · have d2 : decide (100 < (V.size : Int)) = false := by simp; omega
          have d2' : decide (100 < V.size) = false := by simp; omega
          go_wp2_with fail
          exact ⟨⟨k + 1, by omega, by go_num, HN.out _⟩, by simp [intOf]; omega⟩
    · obtain rfl : k = n := by omega
      have HN := Lib.hid hC
      clear hlt hk HA hC
      by_cases h : k ≤ 60
      · have d : decide ((k : Int) ≤ 60) = true := by simp; omega
        go_wp2_with fail
        go_ret
        exact ⟨true, by first | rfl | simp [d], fun _ => h, HN.out⟩
      · have d : decide ((k : Int) ≤ 60) = false := by simp; omega
        have d' : decide (k ≤ 60) = false := by simp; omega
        go_wp2_with fail
        go_ret
        exact ⟨false, by first | rfl | simp [d], (fun h => by cases h), HN.out⟩

/-! ### What a putting changes for a reader -/
theorem upN_all {l : List Ver} {m : Int} (h : ∀ v ∈ l, v.t ≤ m) : upN l m = l.length := by
  unfold upN
  rw [List.countP_eq_length]
  intro v hv
  simpa using h v hv
theorem val_same {l : List Ver} {m m' : Int} (h : ∀ v ∈ l, v.t ≤ m) (h' : ∀ v ∈ l, v.t ≤ m') : valOf l m = valOf l m' := by
  unfold valOf
  rw [upN_all h, upN_all h']
theorem val_snoc {l : List Ver} {v : Ver} {m : Int} (h : ∀ x ∈ l ++ [v], x.t ≤ m) : valOf (l ++ [v]) m = (v.val, v.has) := by
  unfold valOf
  rw [upN_all h]
  simp
theorem val_late {l : List Ver} {v : Ver} {m : Int} (h : m < v.t) : valOf (l ++ [v]) m = valOf l m := by
  have hu : upN (l ++ [v]) m = upN l m := by
    unfold upN
    rw [List.countP_append]
    have : ¬ v.t ≤ m := by omega
    simp [this]
  unfold valOf
  rw [hu]
  by_cases h0 : upN l m = 0
  · rw [if_pos h0, if_pos h0]
  · rw [if_neg h0, if_neg h0, List.getElem?_append_left (by have := upN_le l m; omega)]
theorem cut_late {l : List Ver} {m : Int} (h : ∀ v ∈ l, v.t < m) : cutAt l m = l := by
  unfold cutAt
  rcases hl : l.getLast? with _ | x
  · rfl
  · have := h x (List.mem_of_getLast? hl)
    simp only
    rw [if_neg (by omega)]
section
variable {s : CS} {K V : ByteArray} {H : Bool} {M : Int}
theorem put_no (h : ¬ putE s K V M = 0) : putS s K V H M = s := by unfold putS; rw [if_neg h]
theorem put_last (h : putE s K V M = 0) : (putS s K V H M).last = M := by unfold putS; rw [if_pos h]
theorem put_floor : (putS s K V H M).floor = s.floor := by unfold putS; split <;> rfl
theorem put_ge (h : putE s K V M = 0) : s.last ≤ M := by
  unfold putE at h
  split at h
  · omega
  split at h
  · omega
  · omega
theorem put_is (h : putE s K V M = 0) (k : List UInt8) : (putS s K V H M).f k = if k = K.data.toList then cutAt (s.f k) M ++ [putV V H M] else s.f k := by
  unfold putS
  rw [if_pos h]
  show updF _ _ _ k = _
  unfold updF
  by_cases e : k = K.data.toList
  · rw [if_pos e, if_pos e, e]
  · rw [if_neg e, if_neg e]
theorem stay_key (hg : Good s) (h : putE s K V M = 0) (hM : M ≤ maxClock) : valOf ((putS s K V H M).f K.data.toList) maxClock = (if H then V else ⟨#[]⟩, H) := by
  rw [put_is h, if_pos rfl, val_snoc (fun x hx => ?_)]
  · rfl
  · rcases List.mem_append.1 hx with hx | hx
    · have := (hg.ver _ x (cutAt_sub _ _ x hx)).2
      have := hg.l1
      omega
    · simp at hx
      subst hx
      exact hM
theorem stay_at (hg : Good s) (h : s.last < M) (k : List UInt8) : valOf ((putS s K V H M).f k) s.last = valOf (s.f k) maxClock := by
  have h1 : ∀ v ∈ s.f k, v.t ≤ s.last := fun v hv => (hg.ver k v hv).2
  have h2 : ∀ v ∈ s.f k, v.t ≤ maxClock := fun v hv => Int.le_trans (h1 v hv) hg.l1
  by_cases he : putE s K V M = 0
  · rw [put_is he]
    split
    · rw [cut_late (fun v hv => by have := h1 v hv; omega), val_late (by show s.last < M; exact h)]
      exact val_same h1 h2
    · exact val_same h1 h2
  · rw [put_no he]
    exact val_same h1 h2
theorem put_max (h : putE s K V M = 0) : M ≤ maxClock := by
  unfold putE at h
  split at h
  · omega
  · omega
end
end Go.Proofs.Ytfcdplfnhjbdnaa
