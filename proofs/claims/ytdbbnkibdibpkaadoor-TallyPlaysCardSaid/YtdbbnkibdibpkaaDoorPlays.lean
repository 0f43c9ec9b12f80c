/- Proved: kissinggatelaw38.TallyPlays returns true for every list of acts, and leaves its arguments as they were; the tables of math/bits and strconv that the row lists are tied to the program's text by the given tie. No condition. -/
import Derived.Test.YtdbbnkibdibpkaaDoorRows
import Derived.Test.YtdbbnkibdibpkaaDoorCards
import Derived.Test.YtdbbnkibdibpkaaDoorTie
import Derived.WalkKit
import Derived.ProofKit
import Derived.LaidMore
import Derived.OpenShut
import Derived.ShutString
import Derived.ChangeOld
import Derived.Below
import Derived.Stop.Joined
import Derived.SevenTiedAt
import Derived.Test.YtdbbnkibdibpkaaDoorPl
namespace Go.Proofs.YtdbbnkibdibpkaaDoor.tallyPlays
open Go Go.ChangeShapes Go.WideShapes Go.ChangeAt Go.RowKit
open Go.ChangeMaps (open_string shut_string)
set_option linter.unusedVariables false

theorem own : ownKnob Tryd.prog.godebug = none := by kernel_rfl
theorem laidOut : laidOutB Tryd.prog = true := by kernel_rfl
abbrev laid := Rows.tallyPlaysRow.laid
theorem door_met (os : Os) (args : Array Value) : laidMetH Tryd.prog laid ((World.doorLaid Tryd.prog 400 os).forCall (fun _ _ => 0) ⟨#[], args, []⟩).memory :=
  laidMetH_of_parts3 (fuel := 8) (laidMet_of_run' 8 (by kernel_rfl) (by kernel_rfl)) (by kernel_rfl) (by kernel_rfl)

theorem acts_of {H : Type} {enc : TypeId × Value → H} {w : World} {base : Nat} {spare : Nat → Bool} {held : Bool} {fuel : Nat} {a0 : Option Addr} {n c : Nat} {x : DataW H × List MemPlace}
    (h : DataW.trod enc Tryd.prog w base spare held fuel 22 [.slice a0 n c] = some x) : Acts w a0 n := by
  rcases open_slice_fields Tryd.underlying22 Tryd.underlying30 (by kernel_rfl) (by kernel_rfl) h with ⟨hcs, _⟩ | ⟨a, len, cap, m, D, Pl, hcs, _, hl, hm, hmm, _, hi⟩
  · simp at hcs
    obtain ⟨rfl, rfl, rfl⟩ := hcs
    exact ⟨by simp [maxLen], fun h => by omega⟩
  · simp at hcs
    obtain ⟨rfl, rfl, rfl⟩ := hcs
    have hle : n ≤ m := by rw [hmm]; split <;> omega
    have hcell : ∀ i, i < n → ∃ (K N X Y F : Int) (C : Bool), 0 ≤ K ∧ K ≤ 255 ∧ (Lit.int .i64 N).wf = true ∧ (Lit.int .i64 X).wf = true ∧ (Lit.int .i64 Y).wf = true ∧ (Lit.int .u64 F).wf = true ∧ w.cell? (a.add (i * 6)) = some (.int .u8 K) ∧
        w.cell? (a.add (i * 6 + 1)) = some (.int .i64 N) ∧ w.cell? (a.add (i * 6 + 2)) = some (.int .i64 X) ∧ w.cell? (a.add (i * 6 + 3)) = some (.int .i64 Y) ∧ w.cell? (a.add (i * 6 + 4)) = some (.int .u64 F) ∧ w.cell? (a.add (i * 6 + 5)) = some (.bool C) := by
      intro i hin
      obtain ⟨ys, k, _, _, _, hf⟩ := hi i (by omega)
      obtain ⟨v0, y0, h0, _, t0⟩ := hf 0 _ rfl
      obtain ⟨v1, y1, h1, _, t1⟩ := hf 1 _ rfl
      obtain ⟨v2, y2, h2, _, t2⟩ := hf 2 _ rfl
      obtain ⟨v3, y3, h3, _, t3⟩ := hf 3 _ rfl
      obtain ⟨v4, y4, h4, _, t4⟩ := hf 4 _ rfl
      obtain ⟨v5, y5, h5, _, t5⟩ := hf 5 _ rfl
      obtain ⟨K, e0, _, wK⟩ := DataW.trod_int Tryd.underlying5 t0
      obtain ⟨N, e1, _, wN⟩ := DataW.trod_int Tryd.underlying3 t1
      obtain ⟨X, e2, _, wX⟩ := DataW.trod_int Tryd.underlying3 t2
      obtain ⟨Y, e3, _, wY⟩ := DataW.trod_int Tryd.underlying3 t3
      obtain ⟨F, e4, _, wF⟩ := DataW.trod_int Tryd.underlying28 t4
      obtain ⟨C, e5, _⟩ := DataW.trod_bool Tryd.underlying4 t5
      simp at e0 e1 e2 e3 e4 e5
      subst e0 e1 e2 e3 e4 e5
      exact ⟨K, N, X, Y, F, C, (bounds_u8 wK).1, (bounds_u8 wK).2, wN, wX, wY, wF, h0, h1, h2, h3, h4, h5⟩
    refine ⟨by omega, fun hn => ?_⟩
    obtain ⟨_, _, _, _, _, _, _, _, _, _, _, _, h0, _⟩ := hcell 0 hn
    obtain ⟨b, off, rfl⟩ := spot_of_cell h0
    refine ⟨b, off, rfl, by rw [add_mk] at h0; exact block_lt_of_cell h0, fun i hin => ?_⟩
    obtain ⟨K, N, X, Y, F, C, b0, b1, wN, wX, wY, wF, h0, h1, h2, h3, h4, h5⟩ := hcell i hin
    rw [add_mk] at h0 h1 h2 h3 h4 h5
    exact ⟨K, N, X, Y, F, C, b0, b1, wN, wX, wY, wF, h0, by rw [Nat.add_assoc]; exact h1, by rw [Nat.add_assoc]; exact h2, by rw [Nat.add_assoc]; exact h3, by rw [Nat.add_assoc]; exact h4, by rw [Nat.add_assoc]; exact h5⟩

/-! ### THE ROW's STEP -/
set_option maxRecDepth 100000 in
theorem lifted (os : Os) (started : os.Started) (H : Type) (enc : TypeId × Value → H) :
    ReturnsInHanded {} Tryd.checked os 3 .any (fun w args => (Rows.tallyPlaysSpec.pre enc Tryd.prog Tryd.f3 [] false w args ∧ laidMetH Tryd.prog laid w) ∧ sizedMet enc Tryd.prog Tryd.f3 (OpenSpec.ofChange Rows.tallyPlaysSpec) false w args)
      (Rows.tallyPlaysSpec.post enc Tryd.prog Tryd.f3 false true false false) := by
  refine returnsInHanded_of_change_and (C := Tryd.checked) (X := fun w _ => laidMetH Tryd.prog laid w) (fun _ _ _ hh h => h.of_heap hh) own started (by kernel_rfl) Tryd.func3
    (ChangeSpec.witness_shaped (enc := enc) (C := Tryd.checked) (os := os) (X := fun w _ => laidMetH Tryd.prog laid w) false (World.doorLaid Tryd.prog 400 os) #[.slice none 0 0] 8 rfl (World.shaped_of_RefB (by kernel_rfl) (by kernel_rfl)) (by kernel_rfl) (by kernel_rfl) (by kernel_rfl) (door_met os _)) ?_
  intro W base args ds gs before hval0 hW _ _ hL _
  have hval : ∀ (j : Nat) t v, Tryd.f3.params[j]? = some t → args[j]? = some v → Value.okWide Tryd.prog W .any base t v := hval0
  have hW' := hW
  obtain ⟨p, q, hA0, hV, rfl, hfz, hnd⟩ := hW
  have hA : DataW.TrodAll enc Tryd.prog W 0 (fun _ => true) true Tryd.f3.params.toList args.toList ds p := hA0
  rw [Tryd.params3] at hA hval
  obtain ⟨v0, vs0, d0, ds0, p0, q0, hargs, rfl, rfl, h0, r0⟩ := trodAll_cons hA
  obtain ⟨rfl, rfl, rfl⟩ := trodAll_nil r0
  obtain rfl : args = #[v0] := by cases args; simp_all
  obtain ⟨rfl, rfl⟩ := trodVars_none hV
  obtain ⟨a0, n0, c0, rfl⟩ := okWide_slice Tryd.underlying22 (hval 0 22 v0 rfl rfl)
  have k0 := h0
  have lt0 : ∀ x ∈ p0, x.block < W.heap.size := by obtain ⟨m, hm⟩ := k0; exact DataW.trod_lt m _ _ _ hm
  have g0 : Acts W a0 n0 := by
    obtain ⟨fuel, hf⟩ := h0
    exact acts_of hf
  clear hA0 hval0
  refine (plays_walk a0 n0 c0 W g0).mono fun e W' ⟨he, bel⟩ => ?_
  subst he
  exact ⟨_, rfl, _, _, _, [], _, [], hW', trodAll_mk1 (shut_bool Tryd.underlying4 _), (trodAll_cons_mk (Below.trod laidOut (by kernel_rfl) (of_decide_eq_true (by kernel_rfl)) k0 bel lt0) trodAll_mk0), rfl, bel.frame _, fun h => by cases h⟩

theorem over : Rows.TallyPlaysSaid :=
  OpenClaim.holds_of_wide 3 Tryd.f3 rfl rfl rfl rfl rfl rfl rfl ⟨rfl, rfl, rfl, rfl, rfl⟩ rfl rfl rfl rfl rfl (by kernel_rfl) Tryd.func3 (by kernel_rfl)
    (of_decide_eq_true (by kernel_rfl)) (by unfold Func.isWrapper; first | (rw [if_pos (by decide +kernel)]; kernel_rfl) | (rw [if_neg (by decide +kernel)]; exact ⟨rfl, rfl⟩))
    (fun os started H enc _ => lifted os started H enc)

/-- THE STATEMENT: the tied card -/
theorem proved : Rows.TallyPlaysCardSaid :=
  Claim7.holds_tied_plain_at .later [] [.data, .data, .data] true (true, "2a0edc18becc8cbb4dd1196dee7e3cd9b8f96ecaa3862ba5c2faaa9331faf2b3") false
    over (fun _ h => by cases h) (by kernel_rfl) (fun _ h => by cases h) tallyPlays_row_tie rfl ⟨rfl, rfl⟩ (by kernel_rfl) rfl
    (fun f fn hf hfn => by
      obtain rfl : f = 3 := Option.some.inj ((show Tryd.prog.funcNamed "kissinggate/kissinggatelaw38.TallyPlays" = some 3 by kernel_rfl).symm.trans hf) |>.symm
      obtain rfl : fn = Tryd.f3 := (Option.some.inj (Tryd.func3.symm.trans hfn)).symm
      exact ⟨by kernel_rfl, fun j t ht => by
        rw [Tryd.params3] at ht
        have hm : t ∈ [22] := by simpa using Array.mem_of_getElem? ht
        have hall : ([22].all fun u => !Tryd.prog.wantsStandIn u) = true := by kernel_rfl
        exact (show Tryd.prog.wantsStandIn t = false by simpa using List.all_eq_true.1 hall t hm)⟩)
    (by kernel_rfl)
#print axioms proved
end Go.Proofs.YtdbbnkibdibpkaaDoor.tallyPlays
