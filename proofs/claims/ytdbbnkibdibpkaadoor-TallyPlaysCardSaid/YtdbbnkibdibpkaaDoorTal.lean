/- The tally: its block, told by its numbers; a contract for each method. -/
import Derived.Test.YtdbbnkibdibpkaaDoorFns
namespace Go.Proofs.YtdbbnkibdibpkaaDoor
open Go.RowKit
set_option linter.unusedVariables false

/-- What a tally holds: 32 numbers (a counter's number, and the greatest that it was, in turn), flags, the gate (0, 1), how often it was tried, whether its names are made (0, 1), and its names. -/
structure St where
  c : Nat → Int
  flags : Int
  gate : Int
  tried : Int
  done : Int
  lock : Int
  names : Nat → ByteArray

def St.at_ (s : St) (i : Nat) : Value :=
  if i < 32 then .int .i64 (s.c i) else if i = 32 then .int .u64 s.flags else if i = 33 then .int .u32 s.gate else if i = 34 then .int .i64 s.tried
  else if i = 35 then .int .u32 s.done else if i = 36 then .int .i32 s.lock else if i = 37 then .int .u32 0 else .string (s.names (i - 38))
def St.cells (s : St) : Array Value := Array.ofFn (n := 54) fun i => s.at_ i
def put (c : Nat → Int) (i : Nat) (v : Int) : Nat → Int := fun j => if j = i then v else c j
theorem put_same (c : Nat → Int) (i : Nat) (v : Int) : put c i v i = v := by simp [put]
theorem put_other (c : Nat → Int) (i j : Nat) (v : Int) (h : j ≠ i) : put c i v j = c j := by simp [put, h]

theorem St.get (s : St) {i : Nat} (h : i < 54) : s.cells[i]? = some (s.at_ i) := by
  simp [St.cells, h]
theorem St.set_of (s s' : St) (i : Nat) (u : Value) (hi : i < 54) (hu : s'.at_ i = u) (ho : ∀ j, j < 54 → j ≠ i → s'.at_ j = s.at_ j) : s.cells.setIfInBounds i u = s'.cells := by
  apply Array.ext
  · simp [St.cells]
  · intro j h1 h2
    have hj : j < 54 := by simpa [St.cells] using h2
    rw [Array.getElem_setIfInBounds]
    · by_cases e : i = j
      · subst e; simp [St.cells, hu]
      · simp [St.cells, e, ho j hj (fun h => e h.symm)]
    · simpa [St.cells] using hj
theorem St.set_num (s : St) {i : Nat} (hi : i < 32) (v : Int) : s.cells.setIfInBounds i (.int .i64 v) = ({ s with c := put s.c i v } : St).cells :=
  St.set_of s _ i _ (by omega) (by simp [St.at_, hi, put]) (fun j hj hne => by simp [St.at_, put, hne])
theorem St.set_flags (s : St) (v : Int) : s.cells.setIfInBounds 32 (.int .u64 v) = ({ s with flags := v } : St).cells :=
  St.set_of s _ 32 _ (by omega) (by simp [St.at_]) (fun j hj hne => by simp [St.at_, hne])
theorem St.set_gate (s : St) (v : Int) : s.cells.setIfInBounds 33 (.int .u32 v) = ({ s with gate := v } : St).cells :=
  St.set_of s _ 33 _ (by omega) (by simp [St.at_]) (fun j hj hne => by simp [St.at_, hne])
theorem St.set_tried (s : St) (v : Int) : s.cells.setIfInBounds 34 (.int .i64 v) = ({ s with tried := v } : St).cells :=
  St.set_of s _ 34 _ (by omega) (by simp [St.at_]) (fun j hj hne => by simp [St.at_, hne])

theorem St.set_done (s : St) (v : Int) : s.cells.setIfInBounds 35 (.int .u32 v) = ({ s with done := v } : St).cells :=
  St.set_of s _ 35 _ (by omega) (by simp [St.at_]) (fun j hj hne => by simp [St.at_, hne])
theorem St.set_lock (s : St) (v : Int) : s.cells.setIfInBounds 36 (.int .i32 v) = ({ s with lock := v } : St).cells :=
  St.set_of s _ 36 _ (by omega) (by simp [St.at_]) (fun j hj hne => by simp [St.at_, hne])
def putn (c : Nat → ByteArray) (i : Nat) (v : ByteArray) : Nat → ByteArray := fun j => if j = i then v else c j
theorem St.at_name (s : St) (i : Nat) : s.at_ (38 + i) = .string (s.names i) := by
  have h1 : ¬ 38 + i < 32 := by omega
  have h2 : ¬ 38 + i = 32 := by omega
  have h3 : ¬ 38 + i = 33 := by omega
  have h4 : ¬ 38 + i = 34 := by omega
  have h5 : ¬ 38 + i = 35 := by omega
  have h6 : ¬ 38 + i = 36 := by omega
  have h7 : ¬ 38 + i = 37 := by omega
  have h8 : 38 + i - 38 = i := by omega
  simp only [St.at_, if_neg h1, if_neg h2, if_neg h3, if_neg h4, if_neg h5, if_neg h6, if_neg h7, h8]
theorem St.set_name (s : St) {i : Nat} (hi : i < 16) (v : ByteArray) : s.cells.setIfInBounds (38 + i) (.string v) = ({ s with names := putn s.names i v } : St).cells :=
  St.set_of s _ (38 + i) _ (by omega) (by rw [St.at_name]; simp [putn]) (fun j hj hne => by
    by_cases h : j < 38
    · by_cases h32 : j < 32
      · simp [St.at_, h32]
      · have : j = 32 ∨ j = 33 ∨ j = 34 ∨ j = 35 ∨ j = 36 ∨ j = 37 := by omega
        rcases this with rfl | rfl | rfl | rfl | rfl | rfl <;> simp [St.at_]
    · obtain ⟨m, rfl⟩ : ∃ m, j = 38 + m := ⟨j - 38, by omega⟩
      rw [St.at_name, St.at_name]
      simp [putn, show m ≠ i by omega])

def Tal (w : World) (b : Nat) (s : St) : Prop := Blk w b 75 s.cells
section
variable {w w' : World} {b : Nat} {s : St}
theorem Tal.num (h : Tal w b s) {i : Nat} (hi : i < 32) : w.cell? ⟨b, i, none⟩ = some (.int .i64 (s.c i)) := by
  rw [Blk.cell h, St.get s (by omega)]; simp [St.at_, hi]
theorem Tal.flags (h : Tal w b s) : w.cell? ⟨b, 32, none⟩ = some (.int .u64 s.flags) := by
  rw [Blk.cell h, St.get s (by omega)]; simp [St.at_]
theorem Tal.gate (h : Tal w b s) : w.cell? ⟨b, 33, none⟩ = some (.int .u32 s.gate) := by
  rw [Blk.cell h, St.get s (by omega)]; simp [St.at_]
theorem Tal.tried (h : Tal w b s) : w.cell? ⟨b, 34, none⟩ = some (.int .i64 s.tried) := by
  rw [Blk.cell h, St.get s (by omega)]; simp [St.at_]
theorem Tal.done (h : Tal w b s) : w.cell? ⟨b, 35, none⟩ = some (.int .u32 s.done) := by
  rw [Blk.cell h, St.get s (by omega)]; simp [St.at_]
theorem Tal.lock (h : Tal w b s) : w.cell? ⟨b, 36, none⟩ = some (.int .i32 s.lock) := by
  rw [Blk.cell h, St.get s (by omega)]; simp [St.at_]
theorem Tal.name (h : Tal w b s) {i : Nat} (hi : i < 16) : w.cell? ⟨b, 38 + i, none⟩ = some (.string (s.names i)) := by
  rw [Blk.cell h, St.get s (by omega), St.at_name]
theorem Tal.set_done (h : Tal w b s) (v : Int) : Tal (w.setCell ⟨b, 35, none⟩ (.int .u32 v)) b { s with done := v } := by
  have := Blk.set_ h 35 (.int .u32 v); rwa [St.set_done s] at this
theorem Tal.set_lock (h : Tal w b s) (v : Int) : Tal (w.setCell ⟨b, 36, none⟩ (.int .i32 v)) b { s with lock := v } := by
  have := Blk.set_ h 36 (.int .i32 v); rwa [St.set_lock s] at this
theorem Tal.set_name (h : Tal w b s) {i : Nat} (hi : i < 16) (v : ByteArray) : Tal (w.setCell ⟨b, 38 + i, none⟩ (.string v)) b { s with names := putn s.names i v } := by
  have := Blk.set_ h (38 + i) (.string v); rwa [St.set_name s hi] at this
theorem Tal.drewN (h : Tal w b s) (n : Nat) : Tal (w.drewN n) b s := h
theorem Tal.drew (h : Tal w b s) : Tal w.drew b s := h
theorem Tal.froz (h : Tal w b s) (i : Nat) : w.frozen? ⟨b, i, none⟩ = false := Blk.frozen h i
theorem Tal.set_num (h : Tal w b s) {i : Nat} (hi : i < 32) (v : Int) : Tal (w.setCell ⟨b, i, none⟩ (.int .i64 v)) b { s with c := put s.c i v } := by
  have := Blk.set_ h i (.int .i64 v); rwa [St.set_num s hi] at this
theorem Tal.set_flags (h : Tal w b s) (v : Int) : Tal (w.setCell ⟨b, 32, none⟩ (.int .u64 v)) b { s with flags := v } := by
  have := Blk.set_ h 32 (.int .u64 v); rwa [St.set_flags s] at this
theorem Tal.set_gate (h : Tal w b s) (v : Int) : Tal (w.setCell ⟨b, 33, none⟩ (.int .u32 v)) b { s with gate := v } := by
  have := Blk.set_ h 33 (.int .u32 v); rwa [St.set_gate s] at this
theorem Tal.set_tried (h : Tal w b s) (v : Int) : Tal (w.setCell ⟨b, 34, none⟩ (.int .i64 v)) b { s with tried := v } := by
  have := Blk.set_ h 34 (.int .i64 v); rwa [St.set_tried s] at this
end

def St.zero : St := { c := fun _ => 0, flags := 0, gate := 0, tried := 0, done := 0, lock := 0, names := fun _ => ByteArray.empty }
def Only (b : Nat) (w w' : World) : Prop := Ch (fun k => k = b) w w'

def MadeT (w : World) (e : Ending) (w' : World) : Prop := e = .returned (.pointer (some ⟨w.heap.size, 0, none⟩)) ∧ Tal w' w.heap.size St.zero ∧ w' = w.alloc (.cells St.zero.cells 75)
theorem zero_lit : St.zero.cells = #[.int .i64 0, .int .i64 0, .int .i64 0, .int .i64 0, .int .i64 0, .int .i64 0, .int .i64 0, .int .i64 0, .int .i64 0, .int .i64 0, .int .i64 0, .int .i64 0, .int .i64 0, .int .i64 0, .int .i64 0, .int .i64 0,
    .int .i64 0, .int .i64 0, .int .i64 0, .int .i64 0, .int .i64 0, .int .i64 0, .int .i64 0, .int .i64 0, .int .i64 0, .int .i64 0, .int .i64 0, .int .i64 0, .int .i64 0, .int .i64 0, .int .i64 0, .int .i64 0,
    .int .u64 0, .int .u32 0, .int .i64 0, .int .u32 0, .int .i32 0, .int .u32 0,
    .string ByteArray.empty, .string ByteArray.empty, .string ByteArray.empty, .string ByteArray.empty, .string ByteArray.empty, .string ByteArray.empty, .string ByteArray.empty, .string ByteArray.empty,
    .string ByteArray.empty, .string ByteArray.empty, .string ByteArray.empty, .string ByteArray.empty, .string ByteArray.empty, .string ByteArray.empty, .string ByteArray.empty, .string ByteArray.empty] := by rfl
theorem zero_run (w : World) : (zeroValue 75).run Tryd.prog w = .ok (.agg St.zero.cells) w := by kernel_rfl
theorem zero_size : St.zero.cells.size = 54 := by simp [St.cells]
theorem new_any (w : World) : Calls Tryd.prog 7 #[] w (MadeT w) := by
  have hz := zero_run
  have hzs := zero_size
  have hm : MadeT w (.returned (.pointer (some ⟨w.heap.size, 0, none⟩))) (w.alloc (.cells St.zero.cells 75)) := ⟨rfl, Blk.new w 75 _, rfl⟩
  generalize St.zero.cells = Z at hz hzs hm
  go_enter Tryd.func7, Tryd.ntmps7
  go_wp2
  go_ret
  exact hm

theorem find_in (b k : Nat) (hk : k < 16) (w : World) :
    Calls Tryd.prog 24 #[.pointer (some ⟨b, 0, none⟩), .int .i64 k] w fun e w' => e = .returned (.tuple #[.pointer (some ⟨b, k * 2, none⟩), .int .i64 0]) ∧ w = w' := by
  go_enter Tryd.func24, Tryd.ntmps24
  go_wp2
  go_ret2
  exact ⟨rfl, rfl⟩
theorem find_out (b : Nat) (N : Int) (hN : N < 0 ∨ 16 ≤ N) (w : World) :
    Calls Tryd.prog 24 #[.pointer (some ⟨b, 0, none⟩), .int .i64 N] w fun e w' => e = .returned (.tuple #[.pointer none, .int .i64 6]) ∧ w = w' := by
  rcases hN with h | h
  · go_enter Tryd.func24, Tryd.ntmps24
    go_wp2
    go_ret2
    exact ⟨rfl, rfl⟩
  · go_enter Tryd.func24, Tryd.ntmps24
    go_wp2
    go_ret2
    exact ⟨rfl, rfl⟩
theorem find_nil (N : Int) (w : World) : Calls Tryd.prog 24 #[.pointer none, .int .i64 N] w fun e w' => e = .returned (.tuple #[.pointer none, .int .i64 1]) ∧ w = w' := by
  go_enter Tryd.func24, Tryd.ntmps24
  go_wp2
  go_ret2
  exact ⟨rfl, rfl⟩

/-- What a method leaves behind. -/
def TP (b : Nat) (s' : St) (w w' : World) : Prop := Tal w' b s' ∧ Only b w w'
theorem TP.refl {b : Nat} {s : St} {w : World} (h : Tal w b s) : TP b s w w := ⟨h, Ch.refl _ _⟩
theorem TP.num {b : Nat} {s : St} {w w' : World} (h : TP b s w w') {i : Nat} (hi : i < 32) (v : Int) : TP b { s with c := put s.c i v } w (w'.setCell ⟨b, i, none⟩ (.int .i64 v)) :=
  ⟨h.1.set_num hi v, h.2.setCell (.inl rfl) _⟩

theorem rise_no (b k : Nat) (s : St) (hk : k < 16) (v : Int) (hv : v ≤ s.c (k * 2 + 1)) (w : World) (h : Tal w b s) :
    Calls Tryd.prog 26 #[.pointer (some ⟨b, k * 2, none⟩), .int .i64 v] w fun e w' => e = .returned (.tuple #[]) ∧ TP b s w w' := by
  have hp := TP.refl h
  have hd : decide (v ≤ s.c (k * 2 + 1)) = true := by simpa using hv
  have HC := Lib.hid (h.num (i := k * 2 + 1) (by omega))
  generalize s.c (k * 2 + 1) = H at *
  go_enter Tryd.func26, Tryd.ntmps26
  go_wp2_with fail
  refine wp_loop_rounds 1 ?_
  rw [rounds_succ]
  go_wp2_with (go_at_call 33; with_reducible refine (i64_load b _ _ _ HC.out).mono ?_; rintro e w' ⟨rfl, rfl⟩)
  refine bodyPost_ret (results_none rfl _ _ _) rfl ?_
  exact ⟨rfl, hp⟩
theorem rise_yes (b k : Nat) (s : St) (hk : k < 16) (v : Int) (hv : s.c (k * 2 + 1) < v) (w : World) (h : Tal w b s) :
    Calls Tryd.prog 26 #[.pointer (some ⟨b, k * 2, none⟩), .int .i64 v] w fun e w' => e = .returned (.tuple #[]) ∧ TP b { s with c := put s.c (k * 2 + 1) v } w w' := by
  have hp := (TP.refl h).num (i := k * 2 + 1) (by omega) v
  have hd : decide (v ≤ s.c (k * 2 + 1)) = false := by simp; omega
  have HC := Lib.hid (h.num (i := k * 2 + 1) (by omega))
  have HF := Lib.hid (h.froz (k * 2 + 1))
  generalize ({ s with c := put s.c (k * 2 + 1) v } : St) = s' at *
  generalize s.c (k * 2 + 1) = H at *
  go_enter Tryd.func26, Tryd.ntmps26
  go_wp2_with fail
  refine wp_loop_rounds 1 ?_
  rw [rounds_succ]
  go_wp2_with (first | (go_at_call 33; with_reducible refine (i64_load b _ _ _ HC.out).mono ?_; rintro e w' ⟨rfl, rfl⟩) | (go_at_call 27; with_reducible refine (i64_cas_hit b _ _ _ _ HC.out HF.out).mono ?_; rintro e w' ⟨rfl, rfl⟩))
  refine bodyPost_ret (results_none rfl _ _ _) rfl ?_
  exact ⟨rfl, hp⟩

/-- A number is laid, and the greatest one behind it. -/
def lay (c : Nat → Int) (k : Nat) (v : Int) : Nat → Int := if v ≤ c (k * 2 + 1) then put c (k * 2) v else put (put c (k * 2) v) (k * 2 + 1) v
theorem rise_any (b k : Nat) (s : St) (hk : k < 16) (v : Int) (w0 w : World) (h : TP b { s with c := put s.c (k * 2) v } w0 w) :
    Calls Tryd.prog 26 #[.pointer (some ⟨b, k * 2, none⟩), .int .i64 v] w fun e w' => e = .returned (.tuple #[]) ∧ TP b { s with c := lay s.c k v } w0 w' := by
  have e1 : put s.c (k * 2) v (k * 2 + 1) = s.c (k * 2 + 1) := put_other _ _ _ _ (by omega)
  by_cases hv : v ≤ s.c (k * 2 + 1)
  · refine (rise_no b k { s with c := put s.c (k * 2) v } hk v (by show v ≤ put s.c (k * 2) v (k * 2 + 1); rw [e1]; exact hv) w h.1).mono ?_
    rintro e w' ⟨he, h1, h2⟩
    refine ⟨he, ?_, h.2.trans' h2⟩
    have : lay s.c k v = put s.c (k * 2) v := by unfold lay; rw [if_pos hv]
    rw [this]; exact h1
  · refine (rise_yes b k { s with c := put s.c (k * 2) v } hk v (by show put s.c (k * 2) v (k * 2 + 1) < v; rw [e1]; omega) w h.1).mono ?_
    rintro e w' ⟨he, h1, h2⟩
    refine ⟨he, ?_, h.2.trans' h2⟩
    have : lay s.c k v = put (put s.c (k * 2) v) (k * 2 + 1) v := by unfold lay; rw [if_neg hv]
    rw [this]; exact h1

theorem add_in (b k : Nat) (s : St) (hk : k < 16) (n : Int) (w : World) (h : Tal w b s) :
    Calls Tryd.prog 9 #[.pointer (some ⟨b, 0, none⟩), .int .i64 k, .int .i64 n] w fun e w' => e = .returned (.tuple #[.int .i64 (IntKind.i64.wrap (s.c (k * 2) + n)), .int .i64 0]) ∧ TP b { s with c := lay s.c k (IntKind.i64.wrap (s.c (k * 2) + n)) } w w' := by
  have hp := Lib.hid ((TP.refl h).num (i := k * 2) (by omega) (IntKind.i64.wrap (s.c (k * 2) + n)))
  have hr := Lib.hid (fun w1 h1 => rise_any b k s hk (IntKind.i64.wrap (s.c (k * 2) + n)) w w1 h1)
  have HC := Lib.hid (h.num (i := k * 2) (by omega))
  have HF := Lib.hid (h.froz (k * 2))
  have hf := Lib.hid (find_in b k hk w)
  have hadd := Lib.hid (i64_add b (k * 2) (s.c (k * 2)) n w HC.out HF.out)
  generalize IntKind.i64.wrap (s.c (k * 2) + n) = S at *
  go_enter Tryd.func9, Tryd.ntmps9
  go_wp2_with (first | (go_at_call 24; with_reducible refine (hf.out).mono ?_; rintro e w' ⟨rfl, rfl⟩) | (go_at_call 25; with_reducible refine (hadd.out).mono ?_; rintro e w' ⟨rfl, rfl⟩) |
    (go_at_call 26; with_reducible refine (hr.out _ hp.out).mono ?_; rintro e w' ⟨rfl, HE⟩; have HE' := Lib.hid HE; clear HE))
  go_ret2
  exact ⟨rfl, HE'.out⟩
theorem add_out (b : Nat) (N n : Int) (hN : N < 0 ∨ 16 ≤ N) (w : World) :
    Calls Tryd.prog 9 #[.pointer (some ⟨b, 0, none⟩), .int .i64 N, .int .i64 n] w fun e w' => e = .returned (.tuple #[.int .i64 0, .int .i64 6]) ∧ w = w' := by
  have hf := Lib.hid (find_out b N hN w)
  clear hN
  go_enter Tryd.func9, Tryd.ntmps9
  go_wp2_with (go_at_call 24; with_reducible refine (hf.out).mono ?_; rintro e w' ⟨rfl, rfl⟩)
  go_ret2
  exact ⟨rfl, rfl⟩
theorem add_nil (N n : Int) (w : World) :
    Calls Tryd.prog 9 #[.pointer none, .int .i64 N, .int .i64 n] w fun e w' => e = .returned (.tuple #[.int .i64 0, .int .i64 1]) ∧ w = w' := by
  have hf := Lib.hid (find_nil N w)
  go_enter Tryd.func9, Tryd.ntmps9
  go_wp2_with (go_at_call 24; with_reducible refine (hf.out).mono ?_; rintro e w' ⟨rfl, rfl⟩)
  go_ret2
  exact ⟨rfl, rfl⟩
theorem change_hit (b k : Nat) (s : St) (hk : k < 16) (n : Int) (w : World) (h : Tal w b s) :
    Calls Tryd.prog 11 #[.pointer (some ⟨b, 0, none⟩), .int .i64 k, .int .i64 (s.c (k * 2)), .int .i64 n] w fun e w' => e = .returned (.tuple #[.bool true, .int .i64 0]) ∧ TP b { s with c := lay s.c k n } w w' := by
  have hp := Lib.hid ((TP.refl h).num (i := k * 2) (by omega) n)
  have hr := Lib.hid (fun w1 h1 => rise_any b k s hk n w w1 h1)
  have hf := Lib.hid (find_in b k hk w)
  have hadd := Lib.hid (i64_cas_hit b (k * 2) (s.c (k * 2)) n w (h.num (i := k * 2) (by omega)) (h.froz (k * 2)))
  generalize s.c (k * 2) = S at *
  go_enter Tryd.func11, Tryd.ntmps11
  go_wp2_with (first | (go_at_call 24; with_reducible refine (hf.out).mono ?_; rintro e w' ⟨rfl, rfl⟩) | (go_at_call 27; with_reducible refine (hadd.out).mono ?_; rintro e w' ⟨rfl, rfl⟩) |
    (go_at_call 26; with_reducible refine (hr.out _ hp.out).mono ?_; rintro e w' ⟨rfl, HE⟩; have HE' := Lib.hid HE; clear HE))
  go_ret2
  exact ⟨rfl, HE'.out⟩
theorem change_miss (b k : Nat) (s : St) (hk : k < 16) (x n : Int) (hx : ¬ s.c (k * 2) = x) (w : World) (h : Tal w b s) :
    Calls Tryd.prog 11 #[.pointer (some ⟨b, 0, none⟩), .int .i64 k, .int .i64 x, .int .i64 n] w fun e w' => e = .returned (.tuple #[.bool false, .int .i64 0]) ∧ w = w' := by
  have hf := Lib.hid (find_in b k hk w)
  have hadd := Lib.hid (i64_cas_miss b (k * 2) (s.c (k * 2)) x n hx w (h.num (i := k * 2) (by omega)) (h.froz (k * 2)))
  clear hx
  go_enter Tryd.func11, Tryd.ntmps11
  go_wp2_with (first | (go_at_call 24; with_reducible refine (hf.out).mono ?_; rintro e w' ⟨rfl, rfl⟩) | (go_at_call 27; with_reducible refine (hadd.out).mono ?_; rintro e w' ⟨rfl, rfl⟩))
  go_ret2
  exact ⟨rfl, rfl⟩
theorem change_out (b : Nat) (N x n : Int) (hN : N < 0 ∨ 16 ≤ N) (w : World) :
    Calls Tryd.prog 11 #[.pointer (some ⟨b, 0, none⟩), .int .i64 N, .int .i64 x, .int .i64 n] w fun e w' => e = .returned (.tuple #[.bool false, .int .i64 6]) ∧ w = w' := by
  have hf := Lib.hid (find_out b N hN w)
  clear hN
  go_enter Tryd.func11, Tryd.ntmps11
  go_wp2_with (go_at_call 24; with_reducible refine (hf.out).mono ?_; rintro e w' ⟨rfl, rfl⟩)
  go_ret2
  exact ⟨rfl, rfl⟩
theorem take_in (b k : Nat) (s : St) (hk : k < 16) (w : World) (h : Tal w b s) :
    Calls Tryd.prog 12 #[.pointer (some ⟨b, 0, none⟩), .int .i64 k] w fun e w' => e = .returned (.tuple #[.int .i64 (s.c (k * 2)), .int .i64 0]) ∧ TP b { s with c := put s.c (k * 2) 0 } w w' := by
  have hp := Lib.hid ((TP.refl h).num (i := k * 2) (by omega) 0)
  have hf := Lib.hid (find_in b k hk w)
  have hadd := Lib.hid (i64_swap b (k * 2) (s.c (k * 2)) 0 w (h.num (i := k * 2) (by omega)) (h.froz (k * 2)))
  generalize ({ s with c := put s.c (k * 2) 0 } : St) = s' at *
  generalize s.c (k * 2) = S at *
  go_enter Tryd.func12, Tryd.ntmps12
  go_wp2_with (first | (go_at_call 24; with_reducible refine (hf.out).mono ?_; rintro e w' ⟨rfl, rfl⟩) | (go_at_call 28; with_reducible refine (hadd.out).mono ?_; rintro e w' ⟨rfl, rfl⟩))
  go_ret2
  exact ⟨rfl, hp.out⟩
theorem take_out (b : Nat) (N : Int) (hN : N < 0 ∨ 16 ≤ N) (w : World) :
    Calls Tryd.prog 12 #[.pointer (some ⟨b, 0, none⟩), .int .i64 N] w fun e w' => e = .returned (.tuple #[.int .i64 0, .int .i64 6]) ∧ w = w' := by
  have hf := Lib.hid (find_out b N hN w)
  clear hN
  go_enter Tryd.func12, Tryd.ntmps12
  go_wp2_with (go_at_call 24; with_reducible refine (hf.out).mono ?_; rintro e w' ⟨rfl, rfl⟩)
  go_ret2
  exact ⟨rfl, rfl⟩
theorem get_in (b k : Nat) (s : St) (hk : k < 16) (w : World) (h : Tal w b s) :
    Calls Tryd.prog 19 #[.pointer (some ⟨b, 0, none⟩), .int .i64 k] w fun e w' => e = .returned (.int .i64 (s.c (k * 2))) ∧ w = w' := by
  have hf := Lib.hid (find_in b k hk w)
  have hadd := Lib.hid (i64_load b (k * 2) (s.c (k * 2)) w (h.num (i := k * 2) (by omega)))
  generalize s.c (k * 2) = S at *
  go_enter Tryd.func19, Tryd.ntmps19
  go_wp2_with (first | (go_at_call 24; with_reducible refine (hf.out).mono ?_; rintro e w' ⟨rfl, rfl⟩) | (go_at_call 33; with_reducible refine (hadd.out).mono ?_; rintro e w' ⟨rfl, rfl⟩))
  go_ret
  exact ⟨rfl, rfl⟩
theorem high_in (b k : Nat) (s : St) (hk : k < 16) (w : World) (h : Tal w b s) :
    Calls Tryd.prog 20 #[.pointer (some ⟨b, 0, none⟩), .int .i64 k] w fun e w' => e = .returned (.int .i64 (s.c (k * 2 + 1))) ∧ w = w' := by
  have hf := Lib.hid (find_in b k hk w)
  have hadd := Lib.hid (i64_load b (k * 2 + 1) (s.c (k * 2 + 1)) w (h.num (i := k * 2 + 1) (by omega)))
  generalize s.c (k * 2 + 1) = S at *
  go_enter Tryd.func20, Tryd.ntmps20
  go_wp2_with (first | (go_at_call 24; with_reducible refine (hf.out).mono ?_; rintro e w' ⟨rfl, rfl⟩) | (go_at_call 33; with_reducible refine (hadd.out).mono ?_; rintro e w' ⟨rfl, rfl⟩))
  go_ret
  exact ⟨rfl, rfl⟩
theorem raise_any (b : Nat) (s : St) (n : Int) (w : World) (h : Tal w b s) :
    Calls Tryd.prog 13 #[.pointer (some ⟨b, 0, none⟩), .int .u64 n] w fun e w' => e = .returned (.int .u64 s.flags) ∧ TP b { s with flags := bits .or .u64 s.flags n } w w' := by
  have hp := Lib.hid (show TP b { s with flags := bits .or .u64 s.flags n } w _ from ⟨h.set_flags _, (Ch.refl (fun k => k = b) w).setCell (p := ⟨b, 32, none⟩) (.inl rfl) _⟩)
  have hadd := Lib.hid (u64_or b 32 s.flags n w h.flags (h.froz 32))
  generalize ({ s with flags := bits .or .u64 s.flags n } : St) = s' at *
  generalize s.flags = S at *
  go_enter Tryd.func13, Tryd.ntmps13
  go_wp2_with (go_at_call 29; with_reducible refine (hadd.out).mono ?_; rintro e w' ⟨rfl, rfl⟩)
  go_ret
  exact ⟨rfl, hp.out⟩
theorem lower_any (b : Nat) (s : St) (n : Int) (w : World) (h : Tal w b s) :
    Calls Tryd.prog 14 #[.pointer (some ⟨b, 0, none⟩), .int .u64 n] w fun e w' => e = .returned (.int .u64 s.flags) ∧ TP b { s with flags := bits .and .u64 s.flags (bits .xor .u64 IntKind.u64.max n) } w w' := by
  have hsg : IntKind.u64.signed = false := rfl
  have hp := Lib.hid (show TP b { s with flags := bits .and .u64 s.flags (bits .xor .u64 IntKind.u64.max n) } w _ from ⟨h.set_flags _, (Ch.refl (fun k => k = b) w).setCell (p := ⟨b, 32, none⟩) (.inl rfl) _⟩)
  have hadd := Lib.hid (u64_and b 32 s.flags (bits .xor .u64 IntKind.u64.max n) w h.flags (h.froz 32))
  generalize ({ s with flags := bits .and .u64 s.flags (bits .xor .u64 IntKind.u64.max n) } : St) = s' at *
  generalize s.flags = S at *
  go_enter Tryd.func14, Tryd.ntmps14
  go_wp2_with (go_at_call 30; with_reducible refine (hadd.out).mono ?_; rintro e w' ⟨rfl, rfl⟩)
  go_ret
  exact ⟨rfl, hp.out⟩
theorem flags_any (b : Nat) (s : St) (w : World) (h : Tal w b s) :
    Calls Tryd.prog 17 #[.pointer (some ⟨b, 0, none⟩)] w fun e w' => e = .returned (.int .u64 s.flags) ∧ w = w' := by
  have hadd := Lib.hid (u64_load b 32 s.flags w h.flags)
  generalize s.flags = S at *
  go_enter Tryd.func17, Tryd.ntmps17
  go_wp2_with (go_at_call 34; go_loud (with_reducible refine (hadd.out).mono ?_; rintro e w' ⟨rfl, rfl⟩))
  go_ret
  exact ⟨rfl, rfl⟩
end Go.Proofs.YtdbbnkibdibpkaaDoor
