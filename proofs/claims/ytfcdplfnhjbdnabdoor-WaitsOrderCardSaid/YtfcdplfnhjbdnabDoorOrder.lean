/- Proved: kissinggatelaw13.WaitsOrder returns true for every list of stamps and every list of edges, and leaves its arguments as they were; the table of math/bits that the row lists is tied to the program's text by the given tie. No condition. -/
import Derived.Test.YtfcdplfnhjbdnabDoorRows
import Derived.Test.YtfcdplfnhjbdnabDoorCards
import Derived.Test.YtfcdplfnhjbdnabDoorTie
import Derived.WalkKit
import Derived.ProofKit
import Derived.LaidMore
import Derived.OpenShut
import Derived.ShutString
import Derived.ChangeOld
import Derived.Below
import Derived.Stop.Joined
import Derived.SevenTiedAt
import Derived.Test.YtfcdplfnhjbdnabDoorYw
import Derived.Lib.LaidTab
namespace Go.Proofs.YtfcdplfnhjbdnabDoor.waitsOrder
open Go Go.ChangeShapes Go.WideShapes Go.ChangeAt Go.RowKit
open Go.ChangeMaps (open_string shut_string)
set_option linter.unusedVariables false

theorem own : ownKnob Tryd.prog.godebug = none := by kernel_rfl
theorem laidOut : laidOutB Tryd.prog = true := by kernel_rfl
abbrev laid := Rows.waitsOrderRow.laid
theorem door_met (os : Os) (args : Array Value) : laidMetH Tryd.prog laid ((World.doorLaid Tryd.prog 400 os).forCall (fun _ _ => 0) ⟨#[], args, []⟩).memory :=
  laidMetH_of_parts3 (fuel := 8) (laidMet_of_run' 8 (by kernel_rfl) (by kernel_rfl)) (by kernel_rfl) (by kernel_rfl)

theorem tab_of {W : World} (hL : laidMetH Tryd.prog laid W) : Tab W := by
  have hL' : laidMet Tryd.prog (("math/bits.deBruijn64tab", Go.Lib.tabData .u8 (Go.Lib.deBruijn64tab.map Int.ofNat)) :: []) W := hL
  have hT := Go.Lib.tabIs_of_head (show Tryd.prog.globalNamed "math/bits.deBruijn64tab" = some 0 by kernel_rfl) (show (Tryd.prog.globals[0]?).map (·.type) = some 76 by kernel_rfl) Tryd.underlying76 Tryd.underlying5 (by kernel_rfl) (by kernel_rfl) hL'
  intro j hj
  have h := hT.cell (show Tryd.prog.globalNamed "math/bits.deBruijn64tab" = some 0 by kernel_rfl) j (by simpa using hj)
  rw [h]
  congr 2
  simp [List.getD, hj]
theorem pick {α : Type} {P : Nat → α → Prop} : ∀ {n : Nat}, (∀ i, i < n → ∃ x, P i x) → ∃ l : List α, l.length = n ∧ ∀ i x, l[i]? = some x → P i x
  | 0, _ => ⟨[], rfl, by simp⟩
  | n + 1, h => by
    obtain ⟨l, hl, hp⟩ := pick (n := n) (fun i hi => h i (by omega))
    obtain ⟨x, hx⟩ := h n (by omega)
    refine ⟨l ++ [x], by simp [hl], fun i y hy => ?_⟩
    by_cases hi : i < l.length
    · rw [List.getElem?_append_left hi] at hy
      exact hp i y hy
    · rw [List.getElem?_append_right (by omega)] at hy
      have h0 := lt_of_some hy
      simp at h0
      rw [show i - l.length = 0 by omega] at hy
      simp at hy
      subst hy
      rw [show i = n by omega]
      exact hx
theorem edges_of {H : Type} {enc : TypeId × Value → H} {w : World} {base : Nat} {spare : Nat → Bool} {held : Bool} {fuel : Nat} {a0 : Option Addr} {n c : Nat} {x : DataW H × List MemPlace}
    (h : DataW.trod enc Tryd.prog w base spare held fuel 23 [.slice a0 n c] = some x) : ∃ es, EdgesAt w a0 n es := by
  rcases open_slice_fields Tryd.underlying23 Tryd.underlying41 (by kernel_rfl) (by kernel_rfl) h with ⟨hcs, _⟩ | ⟨a, len, cap, m, D, Pl, hcs, _, hl, hm, hmm, _, hi⟩
  · simp at hcs
    obtain ⟨rfl, rfl, rfl⟩ := hcs
    exact ⟨[], rfl, by simp [maxLen], fun h => by omega⟩
  · simp at hcs
    obtain ⟨rfl, rfl, rfl⟩ := hcs
    have hle : n ≤ m := by rw [hmm]; split <;> omega
    have hcell : ∀ i, i < n → ∃ e : Int × Int, w.cell? (a.add (i * 2)) = some (.int .i64 e.1) ∧ w.cell? (a.add (i * 2 + 1)) = some (.int .i64 e.2) := by
      intro i hin
      obtain ⟨ys, k, _, _, _, hf⟩ := hi i (by omega)
      obtain ⟨v0, y0, h0, _, t0⟩ := hf 0 _ rfl
      obtain ⟨v1, y1, h1, _, t1⟩ := hf 1 _ rfl
      obtain ⟨K, e0, _, wK⟩ := DataW.trod_int Tryd.underlying3 t0
      obtain ⟨M, e1, _, wM⟩ := DataW.trod_int Tryd.underlying3 t1
      simp at e0 e1
      subst e0 e1
      exact ⟨(K, M), h0, h1⟩
    obtain ⟨l, hll, hp⟩ := pick hcell
    refine ⟨l, hll, by omega, fun hn => ?_⟩
    obtain ⟨_, h0, _⟩ := hcell 0 hn
    obtain ⟨b, off, rfl⟩ := spot_of_cell h0
    refine ⟨b, off, rfl, by rw [add_mk] at h0; exact block_lt_of_cell h0, fun i e he => ?_⟩
    obtain ⟨h0, h1⟩ := hp i e he
    rw [add_mk] at h0 h1
    exact ⟨h0, by rw [Nat.add_assoc]; exact h1⟩
theorem ring_of {H : Type} {enc : TypeId × Value → H} {w : World} {base : Nat} {spare : Nat → Bool} {held : Bool} {fuel : Nat} {a0 : Option Addr} {n c : Nat} {x : DataW H × List MemPlace}
    (h : DataW.trod enc Tryd.prog w base spare held fuel 22 [.slice a0 n c] = some x) : (∃ rs, Ints .u8 w a0 n rs) ∧ n ≤ c ∧ c ≤ maxLen := by
  refine ⟨ints_of Tryd.underlying22 Tryd.underlying5 (by kernel_rfl) h, ?_⟩
  rcases Go.Deep.open_slice Tryd.underlying22 h with ⟨hcs, _⟩ | ⟨a, len, cap, m, k, D, Pl, hcs, hb, hl, hm, _⟩
  · simp at hcs
    obtain ⟨rfl, rfl, rfl⟩ := hcs
    exact ⟨Nat.le_refl _, by simp [maxLen]⟩
  · simp at hcs
    obtain ⟨rfl, rfl, rfl⟩ := hcs
    exact ⟨hl, hm⟩

/-! ### THE ROW's STEP -/
set_option maxRecDepth 100000 in
theorem lifted (os : Os) (started : os.Started) (H : Type) (enc : TypeId × Value → H) :
    ReturnsInHanded {} Tryd.checked os 5 .any (fun w args => (Rows.waitsOrderSpec.pre enc Tryd.prog Tryd.f5 [] false w args ∧ laidMetH Tryd.prog laid w) ∧ sizedMet enc Tryd.prog Tryd.f5 (OpenSpec.ofChange Rows.waitsOrderSpec) false w args)
      (Rows.waitsOrderSpec.post enc Tryd.prog Tryd.f5 false true false false) := by
  refine returnsInHanded_of_change_and (C := Tryd.checked) (X := fun w _ => laidMetH Tryd.prog laid w) (fun _ _ _ hh h => h.of_heap hh) own started (by kernel_rfl) Tryd.func5
    (ChangeSpec.witness_shaped (enc := enc) (C := Tryd.checked) (os := os) (X := fun w _ => laidMetH Tryd.prog laid w) false (World.doorLaid Tryd.prog 400 os) #[.slice none 0 0, .slice none 0 0] 8 rfl (World.shaped_of_RefB (by kernel_rfl) (by kernel_rfl)) (by kernel_rfl) (by kernel_rfl) (by kernel_rfl) (door_met os _)) ?_
  intro W base args ds gs before hval0 hW _ _ hL _
  have hval : ∀ (j : Nat) t v, Tryd.f5.params[j]? = some t → args[j]? = some v → Value.okWide Tryd.prog W .any base t v := hval0
  have hW' := hW
  obtain ⟨p, q, hA0, hV, rfl, hfz, hnd⟩ := hW
  have hA : DataW.TrodAll enc Tryd.prog W 0 (fun _ => true) true Tryd.f5.params.toList args.toList ds p := hA0
  rw [Tryd.params5] at hA hval
  obtain ⟨v0, vs0, d0, ds0, p0, q0, hargs, rfl, rfl, h0, r0⟩ := trodAll_cons hA
  obtain ⟨v1, vs1, d1, ds1, p1, q1, rfl, rfl, rfl, h1, r1⟩ := trodAll_cons r0
  obtain ⟨rfl, rfl, rfl⟩ := trodAll_nil r1
  obtain rfl : args = #[v0, v1] := by cases args; simp_all
  obtain ⟨rfl, rfl⟩ := trodVars_none hV
  obtain ⟨a0, n0, c0, rfl⟩ := okWide_slice Tryd.underlying22 (hval 0 22 v0 rfl rfl)
  have k0 := h0
  have lt0 : ∀ x ∈ p0, x.block < W.heap.size := by obtain ⟨m, hm⟩ := k0; exact DataW.trod_lt m _ _ _ hm
  have g0 : ∃ ss, Ints .u8 W a0 n0 ss := by
    obtain ⟨fuel, hf⟩ := h0
    exact ints_of Tryd.underlying22 Tryd.underlying5 (by kernel_rfl) hf
  obtain ⟨a1, n1, c1, rfl⟩ := okWide_slice Tryd.underlying23 (hval 1 23 v1 rfl rfl)
  have k1 := h1
  have lt1 : ∀ x ∈ p1, x.block < W.heap.size := by obtain ⟨m, hm⟩ := k1; exact DataW.trod_lt m _ _ _ hm
  have g1 : ∃ es, EdgesAt W a1 n1 es := by
    obtain ⟨fuel, hf⟩ := h1
    exact edges_of hf
  clear hA0 hval0
  refine (order_walk a0 a1 n0 c0 n1 c1 W (tab_of hL) g0 g1).mono fun e W' ⟨he, bel⟩ => ?_
  subst he
  exact ⟨_, rfl, _, _, _, [], _, [], hW', trodAll_mk1 (shut_bool Tryd.underlying4 _), (trodAll_cons_mk (Below.trod laidOut (by kernel_rfl) (of_decide_eq_true (by kernel_rfl)) k0 bel lt0) (trodAll_cons_mk (Below.trod laidOut (by kernel_rfl) (of_decide_eq_true (by kernel_rfl)) k1 bel lt1) trodAll_mk0)), rfl, bel.frame _, fun h => by cases h⟩

theorem over : Rows.WaitsOrderSaid :=
  OpenClaim.holds_of_wide 5 Tryd.f5 rfl rfl rfl rfl rfl rfl rfl ⟨rfl, rfl, rfl, rfl, rfl⟩ rfl rfl rfl rfl rfl (by kernel_rfl) Tryd.func5 (by kernel_rfl)
    (of_decide_eq_true (by kernel_rfl)) (by unfold Func.isWrapper; first | (rw [if_pos (by decide +kernel)]; kernel_rfl) | (rw [if_neg (by decide +kernel)]; exact ⟨rfl, rfl⟩))
    (fun os started H enc _ => lifted os started H enc)

/-- THE STATEMENT: the tied card -/
theorem proved : Rows.WaitsOrderCardSaid :=
  Claim7.holds_tied_plain_at .later [] [.data] true (true, "71b33a0b753cecd60e17af3f704f1329a20c89f2e2ae62eca5ac52a78033805b") false
    over (fun _ h => by cases h) (by kernel_rfl) (fun _ h => by cases h) waitsOrder_row_tie rfl ⟨rfl, rfl⟩ (by kernel_rfl) rfl
    (fun f fn hf hfn => by
      obtain rfl : f = 5 := Option.some.inj ((show Tryd.prog.funcNamed "kissinggate/kissinggatelaw13.WaitsOrder" = some 5 by kernel_rfl).symm.trans hf) |>.symm
      obtain rfl : fn = Tryd.f5 := (Option.some.inj (Tryd.func5.symm.trans hfn)).symm
      exact ⟨by kernel_rfl, fun j t ht => by
        rw [Tryd.params5] at ht
        have hm : t ∈ [22, 23] := by simpa using Array.mem_of_getElem? ht
        have hall : ([22, 23].all fun u => !Tryd.prog.wantsStandIn u) = true := by kernel_rfl
        exact (show Tryd.prog.wantsStandIn t = false by simpa using List.all_eq_true.1 hall t hm)⟩)
    (by kernel_rfl)
#print axioms proved
end Go.Proofs.YtfcdplfnhjbdnabDoor.waitsOrder
