/- Proved: kissinggatelaw29.StampOf returns true for every x and nodes, and leaves its arguments as they were. No condition. -/
import Derived.Test.YtekibpfpkbgjkaaRows
import Derived.WalkKit
import Derived.ProofKit
import Derived.OpenShut
import Derived.ShutString
import Derived.Below
import Derived.Test.YtekibpfpkbgjkaaWalks
namespace Go.Proofs.Ytekibpfpkbgjkaa.stampOf
open Go.ChangeShapes Go.WideShapes Go.ChangeAt Go.RowKit
open Go.ChangeMaps (open_string shut_string)
set_option linter.unusedVariables false      -- a walk need not use every 'w<i>' (that an integer argument fits its kind)

theorem own : ownKnob Try.prog.godebug = none := by kernel_rfl

theorem of_out (x n : Int) (h : x < 0 ∨ 1099511627776 < x ∨ n < 1 ∨ 7 < n) (w : World) :
    Calls Try.prog 15 #[.int .i64 x, .int .i64 n] w fun e w' => e = .returned (.tuple #[.int .i64 0, .int .i64 0, .int .i64 1]) ∧ w = w' := by
  by_cases hx : x < 0 ∨ 1099511627776 < x
  · have HX := Lib.hid hx; clear hx h
    go_enter Try.func15, Try.ntmps15
    go_wp2_with (go_at_call 16; refine (known_out _ HX.out _).mono ?_; rintro e w' ⟨rfl, rfl⟩)
    go_ret3
    exact ⟨rfl, rfl⟩
  · have x0 : 0 ≤ x := by omega
    have x1 : x ≤ 1099511627776 := by omega
    by_cases h1 : n < 1
    · clear h hx
      go_enter Try.func15, Try.ntmps15
      go_wp2_with (go_at_call 16; refine (known_in _ x0 x1 _).mono ?_; rintro e w' ⟨rfl, rfl⟩)
      go_ret3
      exact ⟨rfl, rfl⟩
    · have h2 : 7 < n := by omega
      clear h hx
      go_enter Try.func15, Try.ntmps15
      go_wp2_with (go_at_call 16; refine (known_in _ x0 x1 _).mono ?_; rintro e w' ⟨rfl, rfl⟩)
      go_ret3
      exact ⟨rfl, rfl⟩

/-! ### THE WALK -/
theorem walk (x : Int) (n : Int) (w : World) :
    Calls Try.prog 5 #[.int .i64 x, .int .i64 n] w fun e w' => e = .returned (.bool true) ∧ Below w.heap.size w w' := by
  by_cases h : x < 0 ∨ 1099511627776 < x ∨ n < 1 ∨ 7 < n
  · by_cases c1 : x < 0
    · have H := Lib.hid h; clear h
      go_enter Try.func5, Try.ntmps5
      go_wp2_with fail
      refine (fixed_true _).mono ?_
      rintro e w1 ⟨rfl, b1⟩
      go_wp2_with fail
      refine (of_out _ _ H.out _).mono ?_
      rintro e w2 ⟨rfl, rfl⟩
      go_wp2_with fail
      go_ret
      exact ⟨rfl, b1⟩
    · by_cases c2 : 1099511627776 < x
      · have H := Lib.hid h; clear h
        go_enter Try.func5, Try.ntmps5
        go_wp2_with fail
        refine (fixed_true _).mono ?_
        rintro e w1 ⟨rfl, b1⟩
        go_wp2_with fail
        refine (of_out _ _ H.out _).mono ?_
        rintro e w2 ⟨rfl, rfl⟩
        go_wp2_with fail
        go_ret
        exact ⟨rfl, b1⟩
      · by_cases c3 : n < 1
        · have H := Lib.hid h; clear h
          go_enter Try.func5, Try.ntmps5
          go_wp2_with fail
          refine (fixed_true _).mono ?_
          rintro e w1 ⟨rfl, b1⟩
          go_wp2_with fail
          refine (of_out _ _ H.out _).mono ?_
          rintro e w2 ⟨rfl, rfl⟩
          go_wp2_with fail
          go_ret
          exact ⟨rfl, b1⟩
        · have c4 : 7 < n := by omega
          have H := Lib.hid h; clear h
          go_enter Try.func5, Try.ntmps5
          go_wp2_with fail
          refine (fixed_true _).mono ?_
          rintro e w1 ⟨rfl, b1⟩
          go_wp2_with fail
          refine (of_out _ _ H.out _).mono ?_
          rintro e w2 ⟨rfl, rfl⟩
          go_wp2_with fail
          go_ret
          exact ⟨rfl, b1⟩
  · have x0 : 0 ≤ x := by omega
    have x1 : x ≤ 1099511627776 := by omega
    have n0 : 1 ≤ n := by omega
    have n1 : n ≤ 7 := by omega
    have r0 : 0 ≤ x % n := Int.emod_nonneg _ (by omega)
    have r1 : x % n < n := Int.emod_lt_of_pos _ (by omega)
    have hm : x / n * n + x % n = x := Int.ediv_mul_add_emod x n
    have m0 : 0 ≤ x / n * n := by have := Int.mul_nonneg (Int.ediv_nonneg x0 (by omega : 0 ≤ n)) (by omega : 0 ≤ n); exact this
    have m1 : x / n * n ≤ x := by omega
    have he : (x / n * n + x % n == x) = true := by rw [beq_iff_eq]; exact hm
    clear hm h
    go_enter Try.func5, Try.ntmps5
    go_wp2_with fail
    refine (fixed_true _).mono ?_
    rintro e w1 ⟨rfl, b1⟩
    go_wp2_with fail
    refine (of_in _ _ x0 x1 n0 n1 _).mono ?_
    rintro e w2 ⟨rfl, k, hw2⟩
    have b2 := below_drewN b1 k
    rw [← hw2] at b2
    clear hw2
    go_wp2_with fail
    go_ret
    exact ⟨rfl, b2⟩

/-! ### THE ROW's STEP: WRITTEN OUT: LEAVE IT -/
set_option maxRecDepth 100000 in
theorem lifted (os : Os) (started : os.Started) (H : Type) (enc : TypeId × Value → H) :
    ReturnsInHanded {} Try.checked os 5 .any (Rows.stampOfSpec.pre6 enc Try.prog Try.f5 Rows.stampOfRow.domain false) (Rows.stampOfSpec.post enc Try.prog Try.f5 false true false false) := by
  refine returnsInHanded_of_change (C := Try.checked) own started (by kernel_rfl) Try.func5
    (ChangeSpec.witness6 (enc := enc) (C := Try.checked) false ⟨#[], #[.int .i64 0, .int .i64 0], []⟩ 8 (by kernel_rfl) (by kernel_rfl) (by kernel_rfl) (by kernel_rfl)) ?_
  intro W base args ds gs before hval0 hW hcnd _
  have hval : ∀ (j : Nat) t v, Try.f5.params[j]? = some t → args[j]? = some v → Value.okWide Try.prog W .any base t v := hval0
  have hW' := hW
  obtain ⟨p, q, hA0, hV, rfl, hfz, hnd⟩ := hW
  have hA : DataW.TrodAll enc Try.prog W 0 (fun _ => true) true Try.f5.params.toList args.toList ds p := hA0
  rw [Try.params5] at hA hval
  obtain ⟨v0, vs0, d0, ds0, p0, q0, hargs, rfl, rfl, h0, r0⟩ := trodAll_cons hA
  obtain ⟨v1, vs1, d1, ds1, p1, q1, rfl, rfl, rfl, h1, r1⟩ := trodAll_cons r0
  obtain ⟨rfl, rfl, rfl⟩ := trodAll_nil r1
  obtain rfl : args = #[v0, v1] := by cases args; simp_all
  obtain ⟨rfl, rfl⟩ := trodVars_none hV
  obtain ⟨a0, rfl, rfl, rfl, w0⟩ := open_int Try.underlying3 (hval 0 3 v0 rfl rfl) h0
  obtain ⟨a1, rfl, rfl, rfl, w1⟩ := open_int Try.underlying3 (hval 1 3 v1 rfl rfl) h1
  clear hA0 hval0
  simp only [List.append_nil] at hW'
  refine (walk a0 a1 W).mono fun e W' ⟨he, bel⟩ => ?_
  subst he
  exact ⟨_, rfl, _, _, _, [], _, [], hW', trodAll_mk1 (shut_bool Try.underlying4 _), (trodAll_cons_mk (shut_int Try.underlying3 w0) (trodAll_cons_mk (shut_int Try.underlying3 w1) trodAll_mk0)), rfl, bel.frame _, fun h => by cases h⟩

theorem over : Rows.stampOfRow.holds Try.pinned (OpenSpec.ofChange Rows.stampOfSpec) :=
  OpenClaim.holds_of_wide 5 Try.f5 rfl rfl rfl rfl rfl rfl rfl ⟨rfl, rfl, rfl, rfl, rfl⟩ rfl rfl rfl rfl rfl (by kernel_rfl) Try.func5 (by kernel_rfl)
    (of_decide_eq_true (by kernel_rfl)) (by unfold Func.isWrapper; first | (rw [if_pos (by decide +kernel)]; kernel_rfl) | (rw [if_neg (by decide +kernel)]; exact ⟨rfl, rfl⟩))
    (fun os started H enc _ => lifted os started H enc)

/-- ████ THE STATEMENT ████ -/
theorem proved : Rows.StampOfSaid :=
  over
#print axioms proved
end Go.Proofs.Ytekibpfpkbgjkaa.stampOf
