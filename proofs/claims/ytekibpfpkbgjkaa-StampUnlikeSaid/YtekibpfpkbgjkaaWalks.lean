/- The contracts of package stamp and of the law's fixed facts: what each function answers and what it leaves in memory; no condition but the bounds that each states. -/
import Derived.Test.YtekibpfpkbgjkaaRows
import Derived.Test.YtekibpfpkbgjkaaLib
import Derived.WalkKit
import Derived.ProofKit
import Derived.Below
import Derived.Laws.LoneSync
import Derived.Deep.QuietTactic
import Derived.BigQuiet
import Derived.Laws.Rows
import Derived.WalkLawsBesides
import Derived.WalkSpells
import Derived.Deep.Draws
import Derived.Lib.Hide
import Derived.OwnWalk
import Derived.LaidEqlPtr
import Derived.Maps.AppendAt
namespace Go.Proofs.Ytekibpfpkbgjkaa
open Go.RowKit
set_option linter.unusedVariables false
theorem known_in (x : Int) (h0 : 0 ≤ x) (h1 : x ≤ 1099511627776) (w : World) :
    Calls Try.prog 16 #[.int .i64 x] w fun e w' => e = .returned (.bool true) ∧ w = w' := by
  go_enter Try.func16, Try.ntmps16
  go_wp2
  go_ret
  exact ⟨rfl, rfl⟩

theorem known_out (x : Int) (h : x < 0 ∨ 1099511627776 < x) (w : World) :
    Calls Try.prog 16 #[.int .i64 x] w fun e w' => e = .returned (.bool false) ∧ w = w' := by
  rcases h with h | h
  · have h' : ¬ 0 ≤ x := by omega
    go_enter Try.func16, Try.ntmps16
    go_wp2
    go_ret
    exact ⟨rfl, rfl⟩
  · by_cases h0 : 0 ≤ x
    · have h' : ¬ x ≤ 1099511627776 := by omega
      go_enter Try.func16, Try.ntmps16
      go_wp2
      go_ret
      exact ⟨rfl, rfl⟩
    · go_enter Try.func16, Try.ntmps16
      go_wp2
      go_ret
      exact ⟨rfl, rfl⟩

theorem of_in (x n : Int) (h0 : 0 ≤ x) (h1 : x ≤ 1099511627776) (n0 : 1 ≤ n) (n1 : n ≤ 7) (w : World) :
    Calls Try.prog 15 #[.int .i64 x, .int .i64 n] w fun e w' => e = .returned (.tuple #[.int .i64 (x / n), .int .i64 (x % n), .int .i64 0]) ∧ ∃ k, w' = w.drewN k := by
  have h2 : ¬ n < 1 := by omega
  have h3 : ¬ 7 < n := by omega
  have h4 : ¬ n = 0 := by omega
  go_enter Try.func15, Try.ntmps15
  go_wp2_with (go_at_call 16; refine (known_in _ h0 h1 _).mono ?_; rintro e w' ⟨rfl, rfl⟩)
  go_quiet (fail)
  go_wp2
  go_ret3
  exact ⟨rfl, _, rfl⟩

theorem new_in (node n : Int) (h0 : 0 ≤ node) (h1 : node < n) (n1 : n ≤ 7) (w : World) :
    Calls Try.prog 7 #[.int .i64 node, .int .i64 n] w fun e w' => e = .returned (.pointer (some ⟨w.heap.size, 0, none⟩)) ∧ w' = w.alloc (.cells #[.int .i64 node, .int .i64 n, .int .i64 0, .int .i64 0] 53) := by
  have h2 : ¬ n < 1 := by omega
  have h3 : ¬ 7 < n := by omega
  have h4 : ¬ n ≤ node := by omega
  have h5 : ¬ node < 0 := by omega
  go_enter Try.func7, Try.ntmps7
  go_wp2
  go_ret
  exact ⟨rfl, rfl⟩

def Src (w : World) (b : Nat) (node nodes behind taken : Int) : Prop := Blk w b 53 #[.int .i64 node, .int .i64 nodes, .int .i64 behind, .int .i64 taken]

def aft (node nodes behind now : Int) : Int := (if 0 < behind then max now ((behind - 1) / nodes + 1) else now) * nodes + node

theorem mul_bd (a n : Int) (h0 : 0 ≤ a) (h1 : a ≤ 1099511627777) (n0 : 1 ≤ n) (n1 : n ≤ 7) : 0 ≤ a * n ∧ a * n ≤ 7696581394439 := by
  refine ⟨Int.mul_nonneg h0 (by omega), ?_⟩
  calc a * n ≤ 1099511627777 * 7 := Int.mul_le_mul h1 n1 (by omega) (by omega)
    _ = _ := by decide

theorem after_any (b : Nat) (node nodes behind taken now : Int) (w : World) (h : Src w b node nodes behind taken) (h0 : 0 ≤ node) (h1 : node < nodes) (h2 : nodes ≤ 7)
    (h3 : 0 ≤ behind) (h4 : behind ≤ 1099511627777) (h5 : 0 ≤ now) (h6 : now ≤ 1099511627776) :
    Calls Try.prog 19 #[.pointer (some ⟨b, 0, none⟩), .int .i64 behind, .int .i64 now] w fun e w' => e = .returned (.int .i64 (aft node nodes behind now)) ∧ ∃ k, w' = w.drewN k := by
  have c0 := h.cell 0
  have c1 := h.cell 1
  simp at c0 c1
  have hn : ¬ nodes = 0 := by omega
  have m1 := mul_bd now nodes h5 (by omega) (by omega) h2
  clear h
  by_cases hb : 0 < behind
  · have q0 : 0 ≤ (behind - 1) / nodes := Int.ediv_nonneg (by omega) (by omega)
    have q1 : (behind - 1) / nodes ≤ 1099511627776 := Int.ediv_le_of_le_mul (by omega) (by
      calc behind - 1 ≤ 1099511627776 * 1 := by omega
        _ ≤ 1099511627776 * nodes := Int.mul_le_mul_of_nonneg_left (by omega) (by omega))
    have m2 := mul_bd ((behind - 1) / nodes + 1) nodes (by omega) (by omega) (by omega) h2
    by_cases hm : (behind - 1) / nodes + 1 ≤ now
    · have hA : aft node nodes behind now = now * nodes + node := by unfold aft; rw [if_pos hb, Int.max_eq_left hm]
      rw [hA]
      clear hA
      go_enter Try.func19, Try.ntmps19
      go_wp2
      go_quiet (fail)
      go_wp2
      go_ret
      exact ⟨rfl, _, rfl⟩
    · have hA : aft node nodes behind now = ((behind - 1) / nodes + 1) * nodes + node := by unfold aft; rw [if_pos hb, Int.max_eq_right (by omega)]
      rw [hA]
      clear hA
      go_enter Try.func19, Try.ntmps19
      go_wp2
      go_quiet (fail)
      go_wp2
      go_ret
      exact ⟨rfl, _, rfl⟩
  · have hA : aft node nodes behind now = now * nodes + node := by unfold aft; rw [if_neg hb]
    rw [hA]
    clear hA
    go_enter Try.func19, Try.ntmps19
    go_wp2
    go_quiet (fail)
    go_wp2
    go_ret
    exact ⟨rfl, _, rfl⟩

theorem load_any (b o : Nat) (x : Int) (w : World) (hc : w.cell? ⟨b, o, none⟩ = some (.int .i64 x)) :
    Calls Try.prog 17 #[.pointer (some ⟨b, o, none⟩)] w fun e w' => e = .returned (.int .i64 x) ∧ w = w' := by
  have hl := run_call_load (P := Try.prog) Try.func21 (by kernel_rfl) (by kernel_rfl) (by kernel_rfl) .i64 (by kernel_rfl) hc
  go_enter Try.func17, Try.ntmps17
  go_wp2
  go_ret
  exact ⟨rfl, rfl⟩

theorem cas_hit (b o : Nat) (x y : Int) (w : World) (hc : w.cell? ⟨b, o, none⟩ = some (.int .i64 x)) (hf : w.frozen? ⟨b, o, none⟩ = false) :
    Calls Try.prog 18 #[.pointer (some ⟨b, o, none⟩), .int .i64 x, .int .i64 y] w fun e w' => e = .returned (.bool true) ∧ w' = w.setCell ⟨b, o, none⟩ (.int .i64 y) := by
  have hl := run_call_cas_hit (P := Try.prog) Try.func22 (by kernel_rfl) (by kernel_rfl) (by kernel_rfl) .i64 (by kernel_rfl) (y := y) hc hf
  go_enter Try.func18, Try.ntmps18
  go_wp2
  go_ret
  exact ⟨rfl, rfl⟩

theorem add_any (b o : Nat) (x y : Int) (w : World) (hc : w.cell? ⟨b, o, none⟩ = some (.int .i64 x)) (hf : w.frozen? ⟨b, o, none⟩ = false)
    (h0 : -9223372036854775808 ≤ x + y) (h1 : x + y ≤ 9223372036854775807) :
    Calls Try.prog 20 #[.pointer (some ⟨b, o, none⟩), .int .i64 y] w fun e w' => e = .returned (.int .i64 (x + y)) ∧ w' = w.setCell ⟨b, o, none⟩ (.int .i64 (x + y)) := by
  have hl := run_call_add (P := Try.prog) Try.func23 (by kernel_rfl) (by kernel_rfl) (by kernel_rfl) .i64 (by kernel_rfl) (y := y) (s := x + y) hc hf (by
    simp [go_sem]; exact IntWalk.i64_in _ (by omega))
  clear h0 h1
  go_enter Try.func20, Try.ntmps20
  go_wp2
  go_ret
  exact ⟨rfl, rfl⟩

/-- What Next answers, and what is known behind it. -/
structure NextR where
  x : Int
  e : Int
  behind : Int
  taken : Int
def nextR (node nodes behind taken now : Int) : NextR :=
  if now < 0 ∨ 1099511627776 < now then ⟨0, 1, behind, taken⟩
  else if 1099511627776 < aft node nodes behind now then ⟨0, 7, behind, taken⟩
  else ⟨aft node nodes behind now, 0, aft node nodes behind now + 1, taken + 1⟩

theorem aft_nonneg (node nodes behind now : Int) (h0 : 0 ≤ node) (h1 : node < nodes) (h5 : 0 ≤ now) : 0 ≤ aft node nodes behind now := by
  unfold aft
  have : 0 ≤ (if 0 < behind then max now ((behind - 1) / nodes + 1) else now) := by split <;> omega
  have := Int.mul_nonneg this (show 0 ≤ nodes by omega)
  omega

theorem next_any (b : Nat) (node nodes behind taken now : Int) (w : World) (h : Src w b node nodes behind taken) (h0 : 0 ≤ node) (h1 : node < nodes) (h2 : nodes ≤ 7)
    (h3 : 0 ≤ behind) (h4 : behind ≤ 1099511627777) (h5 : 0 ≤ taken) (h6 : taken ≤ 1000000) :
    Calls Try.prog 10 #[.pointer (some ⟨b, 0, none⟩), .int .i64 now] w fun e w' =>
      e = .returned (.tuple #[.int .i64 (nextR node nodes behind taken now).x, .int .i64 (nextR node nodes behind taken now).e]) ∧
      Src w' b node nodes (nextR node nodes behind taken now).behind (nextR node nodes behind taken now).taken ∧ w.grownBy w' (some b) := by
  by_cases hn : now < 0 ∨ 1099511627776 < now
  · have hR : nextR node nodes behind taken now = ⟨0, 1, behind, taken⟩ := by unfold nextR; rw [if_pos hn]
    rw [hR]; clear hR
    have H := Lib.hid h; clear h
    rcases hn with hn | hn
    · go_enter Try.func10, Try.ntmps10
      go_wp2
      go_ret2
      exact ⟨rfl, H.out, World.grownBy.refl _ _⟩
    · by_cases hn' : now < 0
      · go_enter Try.func10, Try.ntmps10
        go_wp2
        go_ret2
        exact ⟨rfl, H.out, World.grownBy.refl _ _⟩
      · go_enter Try.func10, Try.ntmps10
        go_wp2
        go_ret2
        exact ⟨rfl, H.out, World.grownBy.refl _ _⟩
  · have ha := aft_nonneg node nodes behind now h0 h1 (by omega)
    have hA := fun w => after_any b node nodes behind taken now w
    have n0 : 0 ≤ now := by omega
    have n1 : now ≤ 1099511627776 := by omega
    have c2 := h.cell 2
    have c3 := h.cell 3
    have f2 := h.frozen 2
    have f3 := h.frozen 3
    simp at c2 c3
    by_cases hx : 1099511627776 < aft node nodes behind now
    · have hR : nextR node nodes behind taken now = ⟨0, 7, behind, taken⟩ := by unfold nextR; rw [if_neg hn, if_pos hx]
      rw [hR]; clear hR
      have H := Lib.hid h; clear h
      have HA := Lib.hid hA; clear hA hn
      generalize aft node nodes behind now = x at *
      go_enter Try.func10, Try.ntmps10
      go_wp2_with fail
      refine wp_loop_rounds 1 ?_
      rw [rounds_succ]
      go_wp2_with (first
        | (go_at_call 17; refine (load_any _ _ _ _ c2).mono ?_; rintro e w' ⟨rfl, rfl⟩)
        | (go_at_call 19; refine (HA.out _ H.out h0 h1 h2 h3 h4 n0 n1).mono ?_; rintro e w' ⟨rfl, k, rfl⟩)
        | (go_at_call 16; refine (known_out _ (Or.inr hx) _).mono ?_; rintro e w' ⟨rfl, rfl⟩))
      go_ret2
      exact ⟨rfl, H.out, only_drewN (World.grownBy.refl _ _) _⟩
    · have hR : nextR node nodes behind taken now = ⟨aft node nodes behind now, 0, aft node nodes behind now + 1, taken + 1⟩ := by unfold nextR; rw [if_neg hn, if_neg hx]
      rw [hR]; clear hR
      have H := Lib.hid h; clear h
      have HA := Lib.hid hA; clear hA hn
      generalize aft node nodes behind now = x at *
      have x1 : x ≤ 1099511627776 := by omega
      go_enter Try.func10, Try.ntmps10
      go_wp2_with fail
      refine wp_loop_rounds 1 ?_
      rw [rounds_succ]
      go_wp2_with (first
        | (go_at_call 17; refine (load_any _ _ _ _ c2).mono ?_; rintro e w' ⟨rfl, rfl⟩)
        | (go_at_call 19; refine (HA.out _ H.out h0 h1 h2 h3 h4 n0 n1).mono ?_; rintro e w' ⟨rfl, k, rfl⟩)
        | (go_at_call 16; refine (known_in _ ha x1 _).mono ?_; rintro e w' ⟨rfl, rfl⟩)
        | (go_at_call 18; refine (cas_hit _ _ _ _ _ (by simpa using c2) (by simpa using f2)).mono ?_; rintro e w' ⟨rfl, rfl⟩)
        | (go_at_call 20; refine (add_any _ _ taken _ _ (by rw [World.cell?_setCell_other _ _ _ _ (by simp)]; simpa using c3) (by rw [World.frozen?_setCell]; simpa using f3) (by omega) (by omega)).mono ?_; rintro e w' ⟨rfl, rfl⟩))
      go_ret2
      refine ⟨rfl, ?_, ?_⟩
      · exact ((H.out.set_ 2 _).set_ 3 _).drewN _
      · repeat (first | exact World.grownBy.refl _ _ | with_reducible refine only_drewN ?_ _ | with_reducible refine only_setCell ?_ (Or.inl rfl) _)

theorem next_nil (now : Int) (w : World) :
    Calls Try.prog 10 #[.pointer none, .int .i64 now] w fun e w' => e = .returned (.tuple #[.int .i64 0, .int .i64 1]) ∧ w = w' := by
  go_enter Try.func10, Try.ntmps10
  go_wp2_with fail
  go_ret2
  exact ⟨rfl, rfl⟩

theorem new_out (node n : Int) (h : n < 1 ∨ 7 < n ∨ node < 0 ∨ n ≤ node) (w : World) :
    Calls Try.prog 7 #[.int .i64 node, .int .i64 n] w fun e w' => e = .returned (.pointer none) ∧ w = w' := by
  by_cases c1 : n < 1
  · go_enter Try.func7, Try.ntmps7
    go_wp2
    go_ret
    exact ⟨rfl, rfl⟩
  by_cases c2 : 7 < n
  · go_enter Try.func7, Try.ntmps7
    go_wp2
    go_ret
    exact ⟨rfl, rfl⟩
  by_cases c3 : node < 0
  · go_enter Try.func7, Try.ntmps7
    go_wp2
    go_ret
    exact ⟨rfl, rfl⟩
  · have c4 : n ≤ node := by omega
    clear h
    go_enter Try.func7, Try.ntmps7
    go_wp2
    go_ret
    exact ⟨rfl, rfl⟩

theorem last_nil (w : World) : Calls Try.prog 12 #[.pointer none] w fun e w' => e = .returned (.int .i64 (-1)) ∧ w = w' := by
  go_enter Try.func12, Try.ntmps12
  go_wp2_with fail
  go_ret
  exact ⟨rfl, rfl⟩

theorem saw_nil (x : Int) (w : World) : Calls Try.prog 8 #[.pointer none, .int .i64 x] w fun e w' => e = .returned (.int .i64 1) ∧ w = w' := by
  go_enter Try.func8, Try.ntmps8
  go_wp2_with fail
  go_ret
  exact ⟨rfl, rfl⟩

theorem last_any (b : Nat) (node nodes behind taken : Int) (w : World) (h : Src w b node nodes behind taken) (h3 : 0 ≤ behind) (h4 : behind ≤ 1099511627777) :
    Calls Try.prog 12 #[.pointer (some ⟨b, 0, none⟩)] w fun e w' => e = .returned (.int .i64 (behind - 1)) ∧ w = w' := by
  have c2 := h.cell 2
  simp at c2
  clear h
  go_enter Try.func12, Try.ntmps12
  go_wp2_with (go_at_call 17; refine (load_any _ _ _ _ c2).mono ?_; rintro e w' ⟨rfl, rfl⟩)
  go_ret
  exact ⟨rfl, rfl⟩

theorem taken_any (b : Nat) (node nodes behind taken : Int) (w : World) (h : Src w b node nodes behind taken) (h3 : 0 ≤ taken) (h4 : taken ≤ 1000000) :
    Calls Try.prog 14 #[.pointer (some ⟨b, 0, none⟩)] w fun e w' => e = .returned (.int .i64 taken) ∧ w = w' := by
  have c3 := h.cell 3
  simp at c3
  clear h
  go_enter Try.func14, Try.ntmps14
  go_wp2_with (go_at_call 17; refine (load_any _ _ _ _ c3).mono ?_; rintro e w' ⟨rfl, rfl⟩)
  go_ret
  exact ⟨rfl, rfl⟩

/-- What Saw answers, and what is known behind it. -/
def sawE (x : Int) : Int := if x < 0 ∨ 1099511627776 < x then 1 else 0
def sawB (behind x : Int) : Int := if x < 0 ∨ 1099511627776 < x then behind else if x < behind then behind else x + 1

theorem saw_any (b : Nat) (node nodes behind taken x : Int) (w : World) (h : Src w b node nodes behind taken)
    (h3 : 0 ≤ behind) (h4 : behind ≤ 1099511627777) :
    Calls Try.prog 8 #[.pointer (some ⟨b, 0, none⟩), .int .i64 x] w fun e w' =>
      e = .returned (.int .i64 (sawE x)) ∧ Src w' b node nodes (sawB behind x) taken ∧ w.grownBy w' (some b) := by
  have c2 := h.cell 2
  have f2 := h.frozen 2
  simp at c2
  have H := Lib.hid h; clear h
  by_cases hx : x < 0 ∨ 1099511627776 < x
  · have hE : sawE x = 1 := by unfold sawE; rw [if_pos hx]
    have hB : sawB behind x = behind := by unfold sawB; rw [if_pos hx]
    rw [hE, hB]; clear hE hB
    have HX := Lib.hid hx; clear hx
    go_enter Try.func8, Try.ntmps8
    go_wp2_with (go_at_call 16; refine (known_out _ HX.out _).mono ?_; rintro e w' ⟨rfl, rfl⟩)
    go_ret
    exact ⟨rfl, H.out, World.grownBy.refl _ _⟩
  · have hE : sawE x = 0 := by unfold sawE; rw [if_neg hx]
    have x0 : 0 ≤ x := by omega
    have x1 : x ≤ 1099511627776 := by omega
    by_cases hb : x < behind
    · have hB : sawB behind x = behind := by unfold sawB; rw [if_neg hx, if_pos hb]
      rw [hE, hB]; clear hE hB hx
      go_enter Try.func8, Try.ntmps8
      go_wp2_with (go_at_call 16; refine (known_in _ x0 x1 _).mono ?_; rintro e w' ⟨rfl, rfl⟩)
      refine wp_loop_rounds 1 ?_
      rw [rounds_succ]
      go_wp2_with (go_at_call 17; refine (load_any _ _ _ _ c2).mono ?_; rintro e w' ⟨rfl, rfl⟩)
      go_ret
      exact ⟨rfl, H.out, World.grownBy.refl _ _⟩
    · have hB : sawB behind x = x + 1 := by unfold sawB; rw [if_neg hx, if_neg hb]
      rw [hE, hB]; clear hE hB hx
      go_enter Try.func8, Try.ntmps8
      go_wp2_with (go_at_call 16; refine (known_in _ x0 x1 _).mono ?_; rintro e w' ⟨rfl, rfl⟩)
      refine wp_loop_rounds 1 ?_
      rw [rounds_succ]
      go_wp2_with (first
        | (go_at_call 17; refine (load_any _ _ _ _ c2).mono ?_; rintro e w' ⟨rfl, rfl⟩)
        | (go_at_call 18; refine (cas_hit _ _ _ _ _ (by simpa using c2) (by simpa using f2)).mono ?_; rintro e w' ⟨rfl, rfl⟩))
      go_ret
      refine ⟨rfl, ?_, ?_⟩
      · exact (H.out.set_ 2 _)
      · repeat (first | exact World.grownBy.refl _ _ | with_reducible refine only_drewN ?_ _ | with_reducible refine only_setCell ?_ (Or.inl rfl) _)

theorem next_at (node nodes behind taken now x e behind' taken' : Int) (hR : nextR node nodes behind taken now = ⟨x, e, behind', taken'⟩) (h0 : 0 ≤ node) (h1 : node < nodes) (h2 : nodes ≤ 7)
    (h3 : 0 ≤ behind) (h4 : behind ≤ 1099511627777) (h5 : 0 ≤ taken) (h6 : taken ≤ 1000000) (b : Nat) (w : World) (h : Src w b node nodes behind taken) :
    Calls Try.prog 10 #[.pointer (some ⟨b, 0, none⟩), .int .i64 now] w fun e' w' =>
      e' = .returned (.tuple #[.int .i64 x, .int .i64 e]) ∧ Src w' b node nodes behind' taken' ∧ w.grownBy w' (some b) := by
  have := next_any b node nodes behind taken now w h h0 h1 h2 h3 h4 h5 h6
  rw [hR] at this
  exact this
theorem saw_at (node nodes behind taken x e behind' : Int) (hE : sawE x = e) (hB : sawB behind x = behind') (h3 : 0 ≤ behind) (h4 : behind ≤ 1099511627777) (b : Nat) (w : World) (h : Src w b node nodes behind taken) :
    Calls Try.prog 8 #[.pointer (some ⟨b, 0, none⟩), .int .i64 x] w fun e' w' =>
      e' = .returned (.int .i64 e) ∧ Src w' b node nodes behind' taken ∧ w.grownBy w' (some b) := by
  have := saw_any b node nodes behind taken x w h h3 h4
  rw [hE, hB] at this
  exact this

theorem fixed_true (w : World) : Calls Try.prog 6 #[] w fun e w' => e = .returned (.bool true) ∧ Below w.heap.size w w' := by
  have a1 := Lib.hid (next_at 1 3 0 0 5 16 0 17 1 rfl (by decide) (by decide) (by decide) (by decide) (by decide) (by decide) (by decide))
  have a2 := Lib.hid (next_at 1 3 17 1 5 19 0 20 2 rfl (by decide) (by decide) (by decide) (by decide) (by decide) (by decide) (by decide))
  have a3 := Lib.hid (saw_at 1 3 20 2 30 0 31 (by decide) (by decide) (by decide) (by decide))
  have a4 := Lib.hid (next_at 1 3 31 2 5 34 0 35 3 rfl (by decide) (by decide) (by decide) (by decide) (by decide) (by decide) (by decide))
  have a5 := Lib.hid (next_at 1 3 35 3 (-1) 0 1 35 3 rfl (by decide) (by decide) (by decide) (by decide) (by decide) (by decide) (by decide))
  go_enter Try.func6, Try.ntmps6
  go_wp2_with fail
  refine (new_in 1 3 (by decide) (by decide) (by decide) _).mono ?_
  rintro e w1 ⟨rfl, hw1⟩
  have s1 : Src w1 w.heap.size 1 3 0 0 := by rw [hw1]; exact Blk.new _ _ _
  have b1 : Below w.heap.size w w1 := by rw [hw1]; exact (Below.refl _ _).alloc (Nat.le_refl _) _
  clear hw1
  go_wp2_with fail
  refine (a1.out _ _ s1).mono ?_
  rintro e w2 ⟨rfl, s2, g2⟩
  go_wp2_with fail
  refine (a2.out _ _ s2).mono ?_
  rintro e w3 ⟨rfl, s3, g3⟩
  go_wp2_with fail
  refine (a3.out _ _ s3).mono ?_
  rintro e w4 ⟨rfl, s4, g4⟩
  go_wp2_with fail
  refine (a4.out _ _ s4).mono ?_
  rintro e w5 ⟨rfl, s5, g5⟩
  go_wp2_with fail
  refine (of_in 34 3 (by decide) (by decide) (by decide) (by decide) _).mono ?_
  rintro e w6 ⟨rfl, k, hw6⟩
  have s6 : Src w6 w.heap.size 1 3 35 3 := by rw [hw6]; exact s5.drewN _
  have g6 : w5.grownBy w6 (some w.heap.size) := by rw [hw6]; exact only_drewN (World.grownBy.refl _ _) _
  clear hw6
  go_wp2_with fail
  refine (a5.out _ _ s6).mono ?_
  rintro e w7 ⟨rfl, s7, g7⟩
  go_wp2_with fail
  refine (next_nil _ _).mono ?_
  rintro e w8 ⟨rfl, rfl⟩
  go_wp2_with fail
  refine (last_any _ _ _ _ _ _ s7 (by decide) (by decide)).mono ?_
  rintro e w' ⟨rfl, rfl⟩
  go_wp2_with fail
  refine (taken_any _ _ _ _ _ _ s7 (by decide) (by decide)).mono ?_
  rintro e w' ⟨rfl, rfl⟩
  go_wp2_with fail
  refine (new_out _ _ (by decide) _).mono ?_
  rintro e w' ⟨rfl, rfl⟩
  go_wp2_with fail
  refine (last_nil _).mono ?_
  rintro e w' ⟨rfl, rfl⟩
  go_wp2_with fail
  refine (saw_nil _ _).mono ?_
  rintro e w' ⟨rfl, rfl⟩
  go_wp2_with fail
  go_ret
  refine ⟨rfl, ?_⟩
  have hr : ∀ k, some w.heap.size = some k → w.heap.size ≤ k := by rintro k hk; injection hk with hk; omega
  have B2 := b1.grown g2 b1.size hr
  have B3 := B2.grown g3 B2.size hr
  have B4 := B3.grown g4 B3.size hr
  have B5 := B4.grown g5 B4.size hr
  have B6 := B5.grown g6 B5.size hr
  exact B6.grown g7 B6.size hr

end Go.Proofs.Ytekibpfpkbgjkaa
