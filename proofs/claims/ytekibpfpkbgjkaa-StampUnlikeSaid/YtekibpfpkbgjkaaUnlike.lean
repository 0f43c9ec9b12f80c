/- Proved: kissinggatelaw29.StampUnlike returns true for every number of nodes and list of deeds, and leaves its arguments as they were. No condition. -/
import Derived.Test.YtekibpfpkbgjkaaRows
import Derived.WalkKit
import Derived.ProofKit
import Derived.OpenShut
import Derived.ShutString
import Derived.ChangeOld
import Derived.Below
import Derived.Test.YtekibpfpkbgjkaaUn
import Derived.Test.YtekibpfpkbgjkaaLibArgs
namespace Go.Proofs.Ytekibpfpkbgjkaa.stampUnlike
open Go.ChangeShapes Go.WideShapes Go.ChangeAt Go.RowKit
set_option linter.unusedVariables false

theorem own : ownKnob Try.prog.godebug = none := by kernel_rfl
theorem laidOut : laidOutB Try.prog = true := by kernel_rfl

theorem deeds_of {H : Type} {enc : TypeId × Value → H} {w : World} {base : Nat} {spare : Nat → Bool} {held : Bool} {fuel : Nat} {a0 : Option Addr} {n c : Nat} {x : DataW H × List MemPlace}
    (h : DataW.trod enc Try.prog w base spare held fuel 38 [.slice a0 n c] = some x) : Deeds w a0 n := by
  rcases open_slice_fields Try.underlying38 Try.underlying42 (by kernel_rfl) (by kernel_rfl) h with ⟨hcs, _⟩ | ⟨a, len, cap, m, D, Pl, hcs, _, hl, hm, hmm, _, hi⟩
  · simp at hcs
    obtain ⟨rfl, rfl, rfl⟩ := hcs
    exact ⟨by simp [maxLen], fun h => by omega⟩
  · simp at hcs
    obtain ⟨rfl, rfl, rfl⟩ := hcs
    have hle : n ≤ m := by rw [hmm]; split <;> omega
    have hcell : ∀ i, i < n → ∃ (N now : Int) (t : Bool), 0 ≤ N ∧ N ≤ 255 ∧ w.cell? (a.add (i * 3)) = some (.int .u8 N) ∧ w.cell? (a.add (i * 3 + 1)) = some (.int .i64 now) ∧ w.cell? (a.add (i * 3 + 2)) = some (.bool t) := by
      intro i hin
      obtain ⟨ys, k, _, _, _, hf⟩ := hi i (by omega)
      obtain ⟨v0, y0, h0, _, t0⟩ := hf 0 _ rfl
      obtain ⟨v1, y1, h1, _, t1⟩ := hf 1 _ rfl
      obtain ⟨v2, y2, h2, _, t2⟩ := hf 2 _ rfl
      obtain ⟨N, e0, _, wN⟩ := DataW.trod_int Try.underlying5 t0
      obtain ⟨now, e1, _, _⟩ := DataW.trod_int Try.underlying3 t1
      obtain ⟨b, e2, _⟩ := DataW.trod_bool Try.underlying4 t2
      simp at e0 e1 e2
      subst e0 e1 e2
      have bd := bounds_u8 wN
      exact ⟨N, now, b, bd.1, bd.2, h0, h1, h2⟩
    refine ⟨by omega, fun hn => ?_⟩
    obtain ⟨_, _, _, _, _, h0, _, _⟩ := hcell 0 hn
    obtain ⟨b, off, rfl⟩ := spot_of_cell h0
    refine ⟨b, off, rfl, by rw [add_mk] at h0; exact block_lt_of_cell h0, fun i hin => ?_⟩
    obtain ⟨N, now, t, b0, b1, h0, h1, h2⟩ := hcell i hin
    rw [add_mk] at h0 h1 h2
    exact ⟨N, now, t, b0, b1, h0, by rw [Nat.add_assoc]; exact h1, by rw [Nat.add_assoc]; exact h2⟩

theorem walk (a : Int) (A : Option Addr) (n c : Nat) (w : World) (ha0 : 0 ≤ a) (ha1 : a ≤ 255) (hA : Deeds w A n) :
    Calls Try.prog 4 #[.int .u8 a, .slice A n c] w fun e w' => e = .returned (.bool true) ∧ Below w.heap.size w w' := by
  have hml : (n : Int) ≤ 9223372036854775807 := by have := hA.1; unfold maxLen at this; omega
  by_cases hn : n ≤ 100
  · exact unlike_main a A n c w ha0 ha1 hA hn
  · have hn' : (100 : Int) < (n : Int) := by omega
    clear hA
    go_enter Try.func4, Try.ntmps4
    go_wp2_with fail
    refine (fixed_true _).mono ?_
    rintro e w1 ⟨rfl, b1⟩
    go_wp2_with fail
    go_ret
    exact ⟨rfl, b1⟩

/-! ### THE ROW's STEP -/
set_option maxRecDepth 100000 in
theorem lifted (os : Os) (started : os.Started) (H : Type) (enc : TypeId × Value → H) :
    ReturnsInHanded {} Try.checked os 4 .any (Rows.stampUnlikeSpec.pre6 enc Try.prog Try.f4 Rows.stampUnlikeRow.domain false) (Rows.stampUnlikeSpec.post enc Try.prog Try.f4 false true false false) := by
  refine returnsInHanded_of_change (C := Try.checked) own started (by kernel_rfl) Try.func4
    (ChangeSpec.witness6 (enc := enc) (C := Try.checked) false ⟨#[], #[.int .u8 0, .slice none 0 0], []⟩ 8 (by kernel_rfl) (by kernel_rfl) (by kernel_rfl) (by kernel_rfl)) ?_
  intro W base args ds gs before hval0 hW hcnd _
  have hval : ∀ (j : Nat) t v, Try.f4.params[j]? = some t → args[j]? = some v → Value.okWide Try.prog W .any base t v := hval0
  have hW' := hW
  obtain ⟨p, q, hA0, hV, rfl, hfz, hnd⟩ := hW
  have hA : DataW.TrodAll enc Try.prog W 0 (fun _ => true) true Try.f4.params.toList args.toList ds p := hA0
  rw [Try.params4] at hA hval
  obtain ⟨v0, vs0, d0, ds0, p0, q0, hargs, rfl, rfl, h0, r0⟩ := trodAll_cons hA
  obtain ⟨v1, vs1, d1, ds1, p1, q1, rfl, rfl, rfl, h1, r1⟩ := trodAll_cons r0
  obtain ⟨rfl, rfl, rfl⟩ := trodAll_nil r1
  obtain rfl : args = #[v0, v1] := by cases args; simp_all
  obtain ⟨rfl, rfl⟩ := trodVars_none hV
  obtain ⟨a0, rfl, rfl, rfl, w0⟩ := open_int Try.underlying5 (hval 0 5 v0 rfl rfl) h0
  obtain ⟨a1, len1, cap1, rfl⟩ := okWide_slice Try.underlying38 (hval 1 38 v1 rfl rfl)
  have k1 := h1
  have lt1 : ∀ x ∈ p1, x.block < W.heap.size := by obtain ⟨m, hm⟩ := k1; exact DataW.trod_lt m _ _ _ hm
  have hac : Deeds W a1 len1 := by
    obtain ⟨fuel, hf⟩ := h1
    exact deeds_of (by simpa [Value.cells] using hf)
  have bd := bounds_u8 w0
  clear hA0 hval0
  refine (walk a0 a1 len1 cap1 W bd.1 bd.2 hac).mono fun e W' ⟨he, bel⟩ => ?_
  subst he
  exact ⟨_, rfl, _, _, _, [], _, [], hW', trodAll_mk1 (shut_bool Try.underlying4 _), (trodAll_cons_mk (shut_int Try.underlying5 w0) (trodAll_cons_mk (Below.trod laidOut (by kernel_rfl) (of_decide_eq_true (by kernel_rfl)) k1 bel lt1) trodAll_mk0)), rfl, bel.frame _, fun h => by cases h⟩

theorem over : Rows.stampUnlikeRow.holds Try.pinned (OpenSpec.ofChange Rows.stampUnlikeSpec) :=
  OpenClaim.holds_of_wide 4 Try.f4 rfl rfl rfl rfl rfl rfl rfl ⟨rfl, rfl, rfl, rfl, rfl⟩ rfl rfl rfl rfl rfl (by kernel_rfl) Try.func4 (by kernel_rfl)
    (of_decide_eq_true (by kernel_rfl)) (by unfold Func.isWrapper; first | (rw [if_pos (by decide +kernel)]; kernel_rfl) | (rw [if_neg (by decide +kernel)]; exact ⟨rfl, rfl⟩))
    (fun os started H enc _ => lifted os started H enc)

/-- THE STATEMENT -/
theorem proved : Rows.StampUnlikeSaid :=
  over
#print axioms proved
end Go.Proofs.Ytekibpfpkbgjkaa.stampUnlike
