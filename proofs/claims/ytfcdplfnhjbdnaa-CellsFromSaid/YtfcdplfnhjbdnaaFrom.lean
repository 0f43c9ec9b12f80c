/- Proved: kissinggatelaw15.CellsFrom returns true for every list of acts, list of cells and floor, and leaves its arguments as they were. No condition. -/
import Derived.Test.YtfcdplfnhjbdnaaRows
import Derived.WalkKit
import Derived.ProofKit
import Derived.OpenShut
import Derived.ShutString
import Derived.ChangeOld
import Derived.Below
import Derived.Test.YtfcdplfnhjbdnaaFw
namespace Go.Proofs.Ytfcdplfnhjbdnaa.cellsFrom
open Go.ChangeShapes Go.WideShapes Go.ChangeAt Go.RowKit
open Go.ChangeMaps (open_string shut_string)
set_option linter.unusedVariables false

theorem own : ownKnob Try.prog.godebug = none := by kernel_rfl
theorem laidOut : laidOutB Try.prog = true := by kernel_rfl

theorem acts_of {H : Type} {enc : TypeId × Value → H} {w : World} {base : Nat} {spare : Nat → Bool} {held : Bool} {fuel : Nat} {a0 : Option Addr} {n c : Nat} {x : DataW H × List MemPlace}
    (h : DataW.trod enc Try.prog w base spare held fuel 22 [.slice a0 n c] = some x) : Acts w a0 n := by
  rcases open_slice_fields Try.underlying22 Try.underlying32 (by kernel_rfl) (by kernel_rfl) h with ⟨hcs, _⟩ | ⟨a, len, cap, m, D, Pl, hcs, _, hl, hm, hmm, _, hi⟩
  · simp at hcs
    obtain ⟨rfl, rfl, rfl⟩ := hcs
    exact ⟨by simp [maxLen], fun h => by omega⟩
  · simp at hcs
    obtain ⟨rfl, rfl, rfl⟩ := hcs
    have hle : n ≤ m := by rw [hmm]; split <;> omega
    have hcell : ∀ i, i < n → ∃ (K V : ByteArray) (Hs T : Bool) (M : Int), K.size ≤ maxLen ∧ V.size ≤ maxLen ∧ (Lit.int .i64 M).wf = true ∧ w.cell? (a.add (i * 5)) = some (.string K) ∧ w.cell? (a.add (i * 5 + 1)) = some (.string V) ∧
        w.cell? (a.add (i * 5 + 2)) = some (.bool Hs) ∧ w.cell? (a.add (i * 5 + 3)) = some (.bool T) ∧ w.cell? (a.add (i * 5 + 4)) = some (.int .i64 M) := by
      intro i hin
      obtain ⟨ys, k, _, _, _, hf⟩ := hi i (by omega)
      obtain ⟨v0, y0, h0, _, t0⟩ := hf 0 _ rfl
      obtain ⟨v1, y1, h1, _, t1⟩ := hf 1 _ rfl
      obtain ⟨v2, y2, h2, _, t2⟩ := hf 2 _ rfl
      obtain ⟨v3, y3, h3, _, t3⟩ := hf 3 _ rfl
      obtain ⟨v4, y4, h4, _, t4⟩ := hf 4 _ rfl
      obtain ⟨K, e0, _, wK⟩ := DataW.trod_string Try.underlying9 t0
      obtain ⟨V, e1, _, wV⟩ := DataW.trod_string Try.underlying9 t1
      obtain ⟨Hs, e2, _⟩ := DataW.trod_bool Try.underlying4 t2
      obtain ⟨T, e3, _⟩ := DataW.trod_bool Try.underlying4 t3
      obtain ⟨M, e4, _, wM⟩ := DataW.trod_int Try.underlying3 t4
      simp at e0 e1 e2 e3 e4
      subst e0 e1 e2 e3 e4
      exact ⟨K, V, Hs, T, M, wK, wV, wM, h0, h1, h2, h3, h4⟩
    refine ⟨by omega, fun hn => ?_⟩
    obtain ⟨_, _, _, _, _, _, _, _, h0, _⟩ := hcell 0 hn
    obtain ⟨b, off, rfl⟩ := spot_of_cell h0
    refine ⟨b, off, rfl, by rw [add_mk] at h0; exact block_lt_of_cell h0, fun i hin => ?_⟩
    obtain ⟨K, V, Hs, T, M, wK, wV, wM, h0, h1, h2, h3, h4⟩ := hcell i hin
    rw [add_mk] at h0 h1 h2 h3 h4
    exact ⟨K, V, Hs, T, M, wK, wV, wM, h0, by rw [Nat.add_assoc]; exact h1, by rw [Nat.add_assoc]; exact h2, by rw [Nat.add_assoc]; exact h3, by rw [Nat.add_assoc]; exact h4⟩
theorem pick {α : Type} {P : Nat → α → Prop} : ∀ {n : Nat}, (∀ i, i < n → ∃ x, P i x) → ∃ l : List α, l.length = n ∧ ∀ i x, l[i]? = some x → P i x
  | 0, _ => ⟨[], rfl, by simp⟩
  | n + 1, h => by
    obtain ⟨l, hl, hp⟩ := pick (n := n) (fun i hi => h i (by omega))
    obtain ⟨x, hx⟩ := h n (by omega)
    refine ⟨l ++ [x], by simp [hl], fun i y hy => ?_⟩
    by_cases hi : i < l.length
    · rw [List.getElem?_append_left hi] at hy
      exact hp i y hy
    · rw [List.getElem?_append_right (by omega)] at hy
      have h0 := lt_of_some hy
      simp at h0
      rw [show i - l.length = 0 by omega] at hy
      simp at hy
      subst hy
      rw [show i = n by omega]
      exact hx
theorem vers_of {H : Type} {enc : TypeId × Value → H} {w : World} {base : Nat} {spare : Nat → Bool} {held : Bool} {fuel : Nat} {a0 : Option Addr} {n c : Nat} {x : DataW H × List MemPlace}
    (h : DataW.trod enc Try.prog w base spare held fuel 56 [.slice a0 n c] = some x) : ∃ l : List Ver, l.length = n ∧ n ≤ maxLen ∧ RdV w a0 l ∧ ∀ v ∈ l, v.val.size ≤ maxLen := by
  rcases open_slice_fields Try.underlying56 Try.underlying66 (by kernel_rfl) (by kernel_rfl) h with ⟨hcs, _⟩ | ⟨a, len, cap, m, D, Pl, hcs, _, hl, hm, hmm, _, hi⟩
  · simp at hcs
    obtain ⟨rfl, rfl, rfl⟩ := hcs
    exact ⟨[], rfl, by simp [maxLen], fun h => absurd rfl h, by simp⟩
  · simp at hcs
    obtain ⟨rfl, rfl, rfl⟩ := hcs
    have hle : n ≤ m := by rw [hmm]; split <;> omega
    have hcell : ∀ i, i < n → ∃ v : Ver, v.val.size ≤ maxLen ∧ w.cell? (a.add (i * 3)) = some (.int .i64 v.t) ∧ w.cell? (a.add (i * 3 + 1)) = some (.string v.val) ∧ w.cell? (a.add (i * 3 + 2)) = some (.bool v.has) := by
      intro i hin
      obtain ⟨ys, k, _, _, _, hf⟩ := hi i (by omega)
      obtain ⟨v0, y0, h0, _, t0⟩ := hf 0 _ rfl
      obtain ⟨v1, y1, h1, _, t1⟩ := hf 1 _ rfl
      obtain ⟨v2, y2, h2, _, t2⟩ := hf 2 _ rfl
      obtain ⟨M, e0, _, wM⟩ := DataW.trod_int Try.underlying3 t0
      obtain ⟨K, e1, _, wK⟩ := DataW.trod_string Try.underlying9 t1
      obtain ⟨T, e2, _⟩ := DataW.trod_bool Try.underlying4 t2
      simp at e0 e1 e2
      subst e0 e1 e2
      exact ⟨⟨M, K, T⟩, wK, h0, h1, h2⟩
    obtain ⟨l, hll, hp⟩ := pick hcell
    refine ⟨l, hll, by omega, fun hne => ?_, fun v hv => ?_⟩
    · have hn : 0 < l.length := List.length_pos_iff.2 hne
      obtain ⟨_, _, h0, _⟩ := hcell 0 (by omega)
      obtain ⟨b, off, rfl⟩ := spot_of_cell h0
      refine ⟨b, off, rfl, fun i v hv => ?_⟩
      obtain ⟨_, h0, h1, h2⟩ := hp i v hv
      rw [add_mk] at h0 h1 h2
      exact ⟨h0, by rw [Nat.add_assoc]; exact h1, by rw [Nat.add_assoc]; exact h2⟩
    · obtain ⟨i, hi⟩ := List.mem_iff_getElem?.1 hv
      exact (hp i v hi).1
theorem sliceForm {H : Type} {enc : TypeId × Value → H} {w : World} {base : Nat} {spare : Nat → Bool} {held : Bool} {fuel : Nat} {v : Value} {x : DataW H × List MemPlace}
    (h : DataW.trod enc Try.prog w base spare held fuel 56 [v] = some x) : ∃ A n c, v = .slice A n c := by
  rcases Go.Deep.open_slice Try.underlying56 h with ⟨e, _⟩ | ⟨a, len, cap, _, _, _, _, e, _⟩
  · injection e with e
    exact ⟨_, _, _, e⟩
  · injection e with e
    exact ⟨_, _, _, e⟩
theorem cells_of {H : Type} {enc : TypeId × Value → H} {w : World} {base : Nat} {spare : Nat → Bool} {held : Bool} {fuel : Nat} {a0 : Option Addr} {n c : Nat} {x : DataW H × List MemPlace}
    (h : DataW.trod enc Try.prog w base spare held fuel 36 [.slice a0 n c] = some x) : ∃ cs : List Cell, cs.length = n ∧ n ≤ maxLen ∧ RdC w a0 cs ∧ ∀ x ∈ cs, x.1.length ≤ maxLen ∧ x.2.length ≤ maxLen ∧ ∀ v ∈ x.2, v.val.size ≤ maxLen := by
  rcases open_slice_fields Try.underlying36 Try.underlying58 (by kernel_rfl) (by kernel_rfl) h with ⟨hcs, _⟩ | ⟨a, len, cap, m, D, Pl, hcs, _, hl, hm, hmm, _, hi⟩
  · simp at hcs
    obtain ⟨rfl, rfl, rfl⟩ := hcs
    exact ⟨[], rfl, by simp [maxLen], fun h => absurd rfl h, by simp⟩
  · simp at hcs
    obtain ⟨rfl, rfl, rfl⟩ := hcs
    have hle : n ≤ m := by rw [hmm]; split <;> omega
    have hcell : ∀ i, i < n → ∃ x : Cell, (x.1.length ≤ maxLen ∧ x.2.length ≤ maxLen ∧ ∀ v ∈ x.2, v.val.size ≤ maxLen) ∧ w.cell? (a.add (i * 2)) = some (encStr x.1) ∧ ∃ A' c', w.cell? (a.add (i * 2 + 1)) = some (.slice A' x.2.length c') ∧ RdV w A' x.2 := by
      intro i hin
      obtain ⟨ys, k, _, _, _, hf⟩ := hi i (by omega)
      obtain ⟨v0, y0, h0, _, t0⟩ := hf 0 _ rfl
      obtain ⟨v1, y1, h1, _, t1⟩ := hf 1 _ rfl
      obtain ⟨K, e0, _, wK⟩ := DataW.trod_string Try.underlying9 t0
      obtain ⟨A', n', c', rfl⟩ := sliceForm t1
      obtain ⟨l, hl1, hl2, hl3, hl4⟩ := vers_of t1
      simp at e0
      subst e0 hl1
      exact ⟨(K.data.toList, l), ⟨by rw [size_list]; exact wK, hl2, hl4⟩, h0, A', c', h1, hl3⟩
    obtain ⟨l, hll, hp⟩ := pick hcell
    refine ⟨l, hll, by omega, fun hne => ?_, fun v hv => ?_⟩
    · have hn : 0 < l.length := List.length_pos_iff.2 hne
      obtain ⟨_, _, h0, _⟩ := hcell 0 (by omega)
      obtain ⟨b, off, rfl⟩ := spot_of_cell h0
      refine ⟨b, off, rfl, fun i k l hv => ?_⟩
      obtain ⟨_, h0, A', c', h1, h2⟩ := hp i (k, l) hv
      rw [add_mk] at h0 h1
      exact ⟨h0, A', c', by rw [Nat.add_assoc]; exact h1, h2⟩
    · obtain ⟨i, hi⟩ := List.mem_iff_getElem?.1 hv
      exact (hp i v hi).1

/-! ### THE ROW's STEP -/
set_option maxRecDepth 100000 in
theorem lifted (os : Os) (started : os.Started) (H : Type) (enc : TypeId × Value → H) :
    ReturnsInHanded {} Try.checked os 6 .any (Rows.cellsFromSpec.pre6 enc Try.prog Try.f6 Rows.cellsFromRow.domain false) (Rows.cellsFromSpec.post enc Try.prog Try.f6 false true false false) := by
  refine returnsInHanded_of_change (C := Try.checked) own started (by kernel_rfl) Try.func6
    (ChangeSpec.witness6 (enc := enc) (C := Try.checked) false ⟨#[], #[.slice none 0 0, .slice none 0 0, .int .i64 0], []⟩ 8 (by kernel_rfl) (by kernel_rfl) (by kernel_rfl) (by kernel_rfl)) ?_
  intro W base args ds gs before hval0 hW hcnd _
  have hval : ∀ (j : Nat) t v, Try.f6.params[j]? = some t → args[j]? = some v → Value.okWide Try.prog W .any base t v := hval0
  have hW' := hW
  obtain ⟨p, q, hA0, hV, rfl, hfz, hnd⟩ := hW
  have hA : DataW.TrodAll enc Try.prog W 0 (fun _ => true) true Try.f6.params.toList args.toList ds p := hA0
  rw [Try.params6] at hA hval
  obtain ⟨v0, vs0, d0, ds0, p0, q0, hargs, rfl, rfl, h0, r0⟩ := trodAll_cons hA
  obtain ⟨v1, vs1, d1, ds1, p1, q1, rfl, rfl, rfl, h1, r1⟩ := trodAll_cons r0
  obtain ⟨v2, vs2, d2, ds2, p2, q2, rfl, rfl, rfl, h2, r2⟩ := trodAll_cons r1
  obtain ⟨rfl, rfl, rfl⟩ := trodAll_nil r2
  obtain rfl : args = #[v0, v1, v2] := by cases args; simp_all
  obtain ⟨rfl, rfl⟩ := trodVars_none hV
  obtain ⟨a0, n0, c0, rfl⟩ := okWide_slice Try.underlying22 (hval 0 22 v0 rfl rfl)
  have k0 := h0
  have lt0 : ∀ x ∈ p0, x.block < W.heap.size := by obtain ⟨m, hm⟩ := k0; exact DataW.trod_lt m _ _ _ hm
  have g0 : Acts W a0 n0 := by
    obtain ⟨fuel, hf⟩ := h0
    exact acts_of hf
  obtain ⟨a1, n1, c1, rfl⟩ := okWide_slice Try.underlying36 (hval 1 36 v1 rfl rfl)
  have k1 := h1
  have lt1 : ∀ x ∈ p1, x.block < W.heap.size := by obtain ⟨m, hm⟩ := k1; exact DataW.trod_lt m _ _ _ hm
  have g1 : ∃ cs : List Cell, cs.length = n1 ∧ n1 ≤ maxLen ∧ RdC W a1 cs ∧ ∀ x ∈ cs, x.1.length ≤ maxLen ∧ x.2.length ≤ maxLen ∧ ∀ v ∈ x.2, v.val.size ≤ maxLen := by
    obtain ⟨fuel, hf⟩ := h1
    exact cells_of hf
  obtain ⟨a2, rfl, rfl, rfl, w2⟩ := open_int Try.underlying3 (hval 2 3 v2 rfl rfl) h2
  clear hA0 hval0
  refine (from_walk a0 a1 n0 c0 n1 c1 a2 W g0 g1).mono fun e W' ⟨he, bel⟩ => ?_
  subst he
  exact ⟨_, rfl, _, _, _, [], _, [], hW', trodAll_mk1 (shut_bool Try.underlying4 _), (trodAll_cons_mk (Below.trod laidOut (by kernel_rfl) (of_decide_eq_true (by kernel_rfl)) k0 bel lt0) (trodAll_cons_mk (Below.trod laidOut (by kernel_rfl) (of_decide_eq_true (by kernel_rfl)) k1 bel lt1) (trodAll_cons_mk (shut_int Try.underlying3 w2) trodAll_mk0))), rfl, bel.frame _, fun h => by cases h⟩

theorem over : Rows.cellsFromRow.holds Try.pinned (OpenSpec.ofChange Rows.cellsFromSpec) :=
  OpenClaim.holds_of_wide 6 Try.f6 rfl rfl rfl rfl rfl rfl rfl ⟨rfl, rfl, rfl, rfl, rfl⟩ rfl rfl rfl rfl rfl (by kernel_rfl) Try.func6 (by kernel_rfl)
    (of_decide_eq_true (by kernel_rfl)) (by unfold Func.isWrapper; first | (rw [if_pos (by decide +kernel)]; kernel_rfl) | (rw [if_neg (by decide +kernel)]; exact ⟨rfl, rfl⟩))
    (fun os started H enc _ => lifted os started H enc)

/-- THE STATEMENT -/
theorem proved : Rows.CellsFromSaid :=
  over
#print axioms proved
end Go.Proofs.Ytfcdplfnhjbdnaa.cellsFrom
