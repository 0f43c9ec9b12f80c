/- Proved: kissinggatelaw29.StampPlays returns true for every node, nodes and list of acts, and leaves its arguments as they were. No condition. -/
import Derived.Test.YtekibpfpkbgjkaaRows
import Derived.WalkKit
import Derived.ProofKit
import Derived.OpenShut
import Derived.ShutString
import Derived.ChangeOld
import Derived.Below
import Derived.Test.YtekibpfpkbgjkaaPl
import Derived.Test.YtekibpfpkbgjkaaLibArgs
namespace Go.Proofs.Ytekibpfpkbgjkaa.stampPlays
open Go.ChangeShapes Go.WideShapes Go.ChangeAt Go.RowKit
set_option linter.unusedVariables false

theorem own : ownKnob Try.prog.godebug = none := by kernel_rfl
theorem laidOut : laidOutB Try.prog = true := by kernel_rfl

theorem acts_of {H : Type} {enc : TypeId × Value → H} {w : World} {base : Nat} {spare : Nat → Bool} {held : Bool} {fuel : Nat} {a0 : Option Addr} {n c : Nat} {x : DataW H × List MemPlace}
    (h : DataW.trod enc Try.prog w base spare held fuel 22 [.slice a0 n c] = some x) : ∃ acts, Acts w a0 n acts := by
  rcases open_slice_fields Try.underlying22 Try.underlying31 (by kernel_rfl) (by kernel_rfl) h with ⟨hcs, _⟩ | ⟨a, len, cap, m, D, Pl, hcs, _, hl, hm, hmm, _, hi⟩
  · simp at hcs
    obtain ⟨rfl, rfl, rfl⟩ := hcs
    exact ⟨[], by simp, by simp [maxLen], fun h => by omega⟩
  · simp at hcs
    obtain ⟨rfl, rfl, rfl⟩ := hcs
    have hle : n ≤ m := by rw [hmm]; split <;> omega
    have hcell : ∀ i, i < n → (∃ N, w.cell? (a.add (i * 2)) = some (.int .i64 N)) ∧ ∃ b, w.cell? (a.add (i * 2 + 1)) = some (.bool b) := by
      intro i hin
      obtain ⟨ys, k, _, _, _, hf⟩ := hi i (by omega)
      obtain ⟨v0, y0, h0, _, t0⟩ := hf 0 _ rfl
      obtain ⟨v1, y1, h1, _, t1⟩ := hf 1 _ rfl
      obtain ⟨N, e0, _, _⟩ := DataW.trod_int Try.underlying3 t0
      obtain ⟨b, e1, _⟩ := DataW.trod_bool Try.underlying4 t1
      simp at e0 e1
      subst e0 e1
      exact ⟨⟨N, h0⟩, ⟨b, h1⟩⟩
    refine ⟨(List.range n).map fun i => (intOf ((w.cell? (a.add (i * 2))).getD undef), boolOf ((w.cell? (a.add (i * 2 + 1))).getD undef)), by simp, by omega, fun hn => ?_⟩
    obtain ⟨⟨N, hN⟩, _⟩ := hcell 0 hn
    obtain ⟨b, off, rfl⟩ := spot_of_cell hN
    refine ⟨b, off, rfl, by rw [add_mk] at hN; exact block_lt_of_cell hN, fun i x hx => ?_⟩
    have hin : i < n := by
      rcases Nat.lt_or_ge i n with h | h
      · exact h
      · rw [List.getElem?_eq_none (by simpa using h)] at hx; cases hx
    obtain ⟨⟨N, hN⟩, bb, hB⟩ := hcell i hin
    rw [List.getElem?_map, List.getElem?_range hin] at hx
    simp only [Option.map_some, Option.some.injEq] at hx
    subst hx
    rw [hN, hB]
    rw [add_mk] at hN hB
    exact ⟨by simpa [intOf] using hN, by simpa [boolOf, Nat.add_assoc] using hB⟩

theorem walk (node nodes : Int) (A : Option Addr) (n c : Nat) (acts : List (Int × Bool)) (w : World) (hA : Acts w A n acts) :
    Calls Try.prog 3 #[.int .i64 node, .int .i64 nodes, .slice A n c] w fun e w' => e = .returned (.bool true) ∧ Below w.heap.size w w' := by
  have hml : (n : Int) ≤ 9223372036854775807 := by have := hA.2.1; unfold maxLen at this; omega
  by_cases hn : n ≤ 100
  · by_cases hg : 0 ≤ node ∧ node < nodes ∧ nodes ≤ 7
    · exact plays_main node nodes A n c acts w hA hn hg.1 hg.2.1 hg.2.2
    · have ho : nodes < 1 ∨ 7 < nodes ∨ node < 0 ∨ nodes ≤ node := by omega
      have HO := Lib.hid ho
      clear hA hg
      rcases ho with h | h | h | h
      · go_enter Try.func3, Try.ntmps3
        go_wp2_with fail
        refine (fixed_true _).mono ?_
        rintro e w1 ⟨rfl, b1⟩
        go_wp2_with fail
        refine (new_out _ _ HO.out _).mono ?_
        rintro e w2 ⟨rfl, rfl⟩
        go_wp2_with fail
        go_ret
        exact ⟨rfl, b1⟩
      · by_cases h1 : nodes < 1
        · omega
        go_enter Try.func3, Try.ntmps3
        go_wp2_with fail
        refine (fixed_true _).mono ?_
        rintro e w1 ⟨rfl, b1⟩
        go_wp2_with fail
        refine (new_out _ _ HO.out _).mono ?_
        rintro e w2 ⟨rfl, rfl⟩
        go_wp2_with fail
        go_ret
        exact ⟨rfl, b1⟩
      · by_cases h1 : nodes < 1
        all_goals by_cases h2 : 7 < nodes
        all_goals try omega
        all_goals
          go_enter Try.func3, Try.ntmps3
          go_wp2_with fail
          refine (fixed_true _).mono ?_
          rintro e w1 ⟨rfl, b1⟩
          go_wp2_with fail
          refine (new_out _ _ HO.out _).mono ?_
          rintro e w2 ⟨rfl, rfl⟩
          go_wp2_with fail
          go_ret
          exact ⟨rfl, b1⟩
      · by_cases h1 : nodes < 1
        all_goals by_cases h2 : 7 < nodes
        all_goals by_cases h3 : node < 0
        all_goals try omega
        all_goals
          go_enter Try.func3, Try.ntmps3
          go_wp2_with fail
          refine (fixed_true _).mono ?_
          rintro e w1 ⟨rfl, b1⟩
          go_wp2_with fail
          refine (new_out _ _ HO.out _).mono ?_
          rintro e w2 ⟨rfl, rfl⟩
          go_wp2_with fail
          go_ret
          exact ⟨rfl, b1⟩
  · have hn' : (100 : Int) < (n : Int) := by omega
    clear hA
    go_enter Try.func3, Try.ntmps3
    go_wp2_with fail
    refine (fixed_true _).mono ?_
    rintro e w1 ⟨rfl, b1⟩
    go_wp2_with fail
    go_ret
    exact ⟨rfl, b1⟩

/-! ### THE ROW's STEP -/
set_option maxRecDepth 100000 in
theorem lifted (os : Os) (started : os.Started) (H : Type) (enc : TypeId × Value → H) :
    ReturnsInHanded {} Try.checked os 3 .any (Rows.stampPlaysSpec.pre6 enc Try.prog Try.f3 Rows.stampPlaysRow.domain false) (Rows.stampPlaysSpec.post enc Try.prog Try.f3 false true false false) := by
  refine returnsInHanded_of_change (C := Try.checked) own started (by kernel_rfl) Try.func3
    (ChangeSpec.witness6 (enc := enc) (C := Try.checked) false ⟨#[], #[.int .i64 0, .int .i64 0, .slice none 0 0], []⟩ 8 (by kernel_rfl) (by kernel_rfl) (by kernel_rfl) (by kernel_rfl)) ?_
  intro W base args ds gs before hval0 hW hcnd _
  have hval : ∀ (j : Nat) t v, Try.f3.params[j]? = some t → args[j]? = some v → Value.okWide Try.prog W .any base t v := hval0
  have hW' := hW
  obtain ⟨p, q, hA0, hV, rfl, hfz, hnd⟩ := hW
  have hA : DataW.TrodAll enc Try.prog W 0 (fun _ => true) true Try.f3.params.toList args.toList ds p := hA0
  rw [Try.params3] at hA hval
  obtain ⟨v0, vs0, d0, ds0, p0, q0, hargs, rfl, rfl, h0, r0⟩ := trodAll_cons hA
  obtain ⟨v1, vs1, d1, ds1, p1, q1, rfl, rfl, rfl, h1, r1⟩ := trodAll_cons r0
  obtain ⟨v2, vs2, d2, ds2, p2, q2, rfl, rfl, rfl, h2, r2⟩ := trodAll_cons r1
  obtain ⟨rfl, rfl, rfl⟩ := trodAll_nil r2
  obtain rfl : args = #[v0, v1, v2] := by cases args; simp_all
  obtain ⟨rfl, rfl⟩ := trodVars_none hV
  obtain ⟨a0, rfl, rfl, rfl, w0⟩ := open_int Try.underlying3 (hval 0 3 v0 rfl rfl) h0
  obtain ⟨a1, rfl, rfl, rfl, w1⟩ := open_int Try.underlying3 (hval 1 3 v1 rfl rfl) h1
  obtain ⟨a2, len2, cap2, rfl⟩ := okWide_slice Try.underlying22 (hval 2 22 v2 rfl rfl)
  have k2 := h2
  have lt2 : ∀ x ∈ p2, x.block < W.heap.size := by obtain ⟨m, hm⟩ := k2; exact DataW.trod_lt m _ _ _ hm
  obtain ⟨acts, hac⟩ : ∃ acts, Acts W a2 len2 acts := by
    obtain ⟨fuel, hf⟩ := h2
    exact acts_of (by simpa [Value.cells] using hf)
  clear hA0 hval0
  refine (walk a0 a1 a2 len2 cap2 acts W hac).mono fun e W' ⟨he, bel⟩ => ?_
  subst he
  exact ⟨_, rfl, _, _, _, [], _, [], hW', trodAll_mk1 (shut_bool Try.underlying4 _), (trodAll_cons_mk (shut_int Try.underlying3 w0) (trodAll_cons_mk (shut_int Try.underlying3 w1) (trodAll_cons_mk (Below.trod laidOut (by kernel_rfl) (of_decide_eq_true (by kernel_rfl)) k2 bel lt2) trodAll_mk0))), rfl, bel.frame _, fun h => by cases h⟩

theorem over : Rows.stampPlaysRow.holds Try.pinned (OpenSpec.ofChange Rows.stampPlaysSpec) :=
  OpenClaim.holds_of_wide 3 Try.f3 rfl rfl rfl rfl rfl rfl rfl ⟨rfl, rfl, rfl, rfl, rfl⟩ rfl rfl rfl rfl rfl (by kernel_rfl) Try.func3 (by kernel_rfl)
    (of_decide_eq_true (by kernel_rfl)) (by unfold Func.isWrapper; first | (rw [if_pos (by decide +kernel)]; kernel_rfl) | (rw [if_neg (by decide +kernel)]; exact ⟨rfl, rfl⟩))
    (fun os started H enc _ => lifted os started H enc)

/-- THE STATEMENT -/
theorem proved : Rows.StampPlaysSaid :=
  over
#print axioms proved
end Go.Proofs.Ytekibpfpkbgjkaa.stampPlays
