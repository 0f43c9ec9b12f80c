/- The tally's row of all numbers; the calls whose answers the document fixes. -/
import Derived.Test.YtdbbnkibdibpkaaDoorOnce
namespace Go.Proofs.YtdbbnkibdibpkaaDoor
open Go.RowKit
set_option linter.unusedVariables false

theorem int_info : (Tryd.prog.info? 3).map (fun i => (i.zero, i.size, i.bytes)) = some (some (.int .i64 0), 1, 8) := by kernel_rfl
theorem info_parts {t : TypeId} {z : Option Value} {a b : Nat} (h : (Tryd.prog.info? t).map (fun i => (i.zero, i.size, i.bytes)) = some (z, a, b)) : ∃ i, Tryd.prog.info? t = some i ∧ i.zero = z ∧ i.size = a ∧ i.bytes = b := by
  obtain ⟨i, h1, h2⟩ := Option.map_eq_some_iff.1 h
  injection h2 with h2 h3
  injection h3 with h3 h4
  exact ⟨i, h1, h2, h3, h4⟩
def nowL (s : St) (k : Nat) : List Value := (List.range k).map fun i => .int .i64 (s.c (i * 2))
theorem nowL_next (s : St) (k : Nat) : nowL s (k + 1) = nowL s k ++ [.int .i64 (s.c (k * 2))] := by simp [nowL, List.range_succ]
def AllOf (b : Nat) (s : St) (w : World) (e : Ending) (w' : World) : Prop := ∃ v, e = .returned v ∧ w'.ownsRow w.heap.size 3 1 v 16 (nowL s 16) ∧ Tal w' b s ∧ Ch (fun _ => False) w w'
set_option maxRecDepth 100000 in
theorem all_any (b : Nat) (s : St) (w : World) (h : Tal w b s) : Calls Tryd.prog 18 #[.pointer (some ⟨b, 0, none⟩)] w (AllOf b s w) := by
  obtain ⟨i0, hi0, hz0, hz1, hz2⟩ := info_parts int_info
  have H := Lib.hid h
  clear h
  go_enter Tryd.func18, Tryd.ntmps18
  go_wp2_with fail
  go_loopw [3, 7] (fun v i w' => ∃ k : Nat, k ≤ 16 ∧ i = .int .i64 k ∧ w'.ownsRow w.heap.size 3 1 v k (nowL s k) ∧ Tal w' b s ∧ Ch (fun _ => False) w w') (fun _ i _ => 16 - (intOf i).toNat)
  case atStart => exact ⟨0, by omega, rfl, ⟨by simp [nowL], .inl ⟨rfl, rfl⟩⟩, H.out, Ch.refl _ _⟩
  case round =>
    obtain ⟨k, hk, rfl, hown, hT, hC⟩ := hrel
    by_cases hlt : k < 16
    · have hg := Lib.hid (get_in b k s hlt wr hT)
      have hsz := hC.size
      have HN := Lib.hid (nowL_next s k)
      have Ho := Lib.hid hown
      have HT := Lib.hid hT
      have HC := Lib.hid hC
      clear hown hT hC H
      generalize s.c (k * 2) = N at *
      go_wp2_with (first
        | (go_at_call 19; (with_reducible refine (hg.out).mono ?_); rintro e w' ⟨rfl, rfl⟩)
        | (at_builtin
           refine wpList_append_any _ rfl (.tmp 10) (.tmp 14) _ rfl w.heap.size 3 i0 _ 1 8 Tryd.underlying35 hi0 hz0 hz1 hz2 rfl (by omega) _ k (nowL s k) rfl
             (Ho.out.alloc _) (wr.heap.size + 1) (some ⟨wr.heap.size, 0, none⟩) 1 1 [.int .i64 _] rfl (reads_one _ _ _) (by simp [Value.oneCell']) (by simp only [maxLen]; omega) (by omega) (by simp; omega) ?_
           intro v1 w1 hown1 hg1 hat1
           have HO := Lib.hid hown1; clear hown1
           have HG := Lib.hid hg1; clear hg1
           have HA := Lib.hid hat1; clear hat1))
      have HG' : (wr.alloc (.cells #[.int .i64 N] 3)).grownBy w1 u3.ownBlock := HG.out
      have hne : u3.ownBlock ≠ some b := own_blk_ne Ho.out HT.out (by decide)
      refine ⟨⟨k + 1, by omega, by go_num, by rw [HN.out]; exact HO.out, (HT.out.alloc _).grown HG' (fun e => hne e.symm), (HC.out.alloc _).grown HG' (fun g hg => .inr (Ho.out.lt g hg).1)⟩, by simp [intOf]; omega⟩
    · obtain rfl : k = 16 := by omega
      have HF := Lib.hid (show AllOf b s w (.returned u3) wr from ⟨u3, rfl, hown, hT, hC⟩)
      clear hown hT hC H hlt hk
      go_wp2
      go_ret
      exact HF.out

def kind12 : ByteArray := ⟨#[107, 105, 110, 100, 49, 50]⟩
theorem kind12_eq : kind 12 = kind12 := by rfl

/-- What a caller keeps of a tally of its own. -/
def Kept (w0 : World) (b : Nat) (s : St) (w : World) : Prop := Tal w b s ∧ Below w0.heap.size w0 w ∧ w0.heap.size ≤ b
theorem Kept.step {w0 : World} {b : Nat} {s s' : St} {w w' : World} (h : Kept w0 b s w) (hp : TP b s' w w') : Kept w0 b s' w' :=
  ⟨hp.1, Ch.below h.2.1 hp.2 (fun k hk => by subst hk; exact h.2.2) h.2.1.size, h.2.2⟩
theorem Kept.drewN {w0 : World} {b : Nat} {s : St} {w : World} (h : Kept w0 b s w) (n : Nat) : Kept w0 b s (w.drewN n) := ⟨h.1.drewN n, below_drewN h.2.1 n, h.2.2⟩
theorem Kept.new (w0 w1 : World) (h : Below w0.heap.size w0 w1) : Kept w0 w1.heap.size St.zero (w1.alloc (.cells St.zero.cells 75)) :=
  ⟨Blk.new _ _ _, Ch.below h ((Ch.refl (fun _ => False) w1).alloc _) (fun _ h => h.elim) h.size, h.size⟩

def f1 : St := { St.zero with c := lay St.zero.c 3 5 }
def f2 : St := { f1 with c := put f1.c 6 0 }
def f3 : St := { f2 with c := lay f2.c 3 7 }
def f4 : St := { f3 with flags := 6 }
def f5 : St := { f4 with flags := 4 }
def f6 : St := { f5 with tried := 1, gate := 1 }
def f7 : St := { f6 with tried := 2, gate := 1 }
theorem f7_named : Named f7 := ⟨rfl, .inl rfl⟩
theorem made_named : Named (made f7) := ⟨rfl, .inr ⟨rfl, fun i hi => by simp [made, upto, hi]⟩⟩

section
variable {w0 w : World} {b : Nat}
theorem s_add (h : Kept w0 b St.zero w) : Calls Tryd.prog 9 #[.pointer (some ⟨b, 0, none⟩), .int .i64 3, .int .i64 5] w fun e w' => e = .returned (.tuple #[.int .i64 5, .int .i64 0]) ∧ Kept w0 b f1 w' :=
  (add_in b 3 St.zero (by decide) 5 w h.1).mono fun _ _ ⟨h1, h2⟩ => ⟨h1, h.step h2⟩
theorem s_take (h : Kept w0 b f1 w) : Calls Tryd.prog 12 #[.pointer (some ⟨b, 0, none⟩), .int .i64 3] w fun e w' => e = .returned (.tuple #[.int .i64 5, .int .i64 0]) ∧ Kept w0 b f2 w' :=
  (take_in b 3 f1 (by decide) w h.1).mono fun _ _ ⟨h1, h2⟩ => ⟨h1, h.step h2⟩
theorem s_change (h : Kept w0 b f2 w) : Calls Tryd.prog 11 #[.pointer (some ⟨b, 0, none⟩), .int .i64 3, .int .i64 0, .int .i64 7] w fun e w' => e = .returned (.tuple #[.bool true, .int .i64 0]) ∧ Kept w0 b f3 w' :=
  (change_hit b 3 f2 (by decide) 7 w h.1).mono fun _ _ ⟨h1, h2⟩ => ⟨h1, h.step h2⟩
theorem s_change2 (h : Kept w0 b f3 w) : Calls Tryd.prog 11 #[.pointer (some ⟨b, 0, none⟩), .int .i64 3, .int .i64 0, .int .i64 9] w fun e w' => e = .returned (.tuple #[.bool false, .int .i64 0]) ∧ w = w' :=
  change_miss b 3 f3 (by decide) 0 9 (by decide) w h.1
theorem s_raise (h : Kept w0 b f3 w) : Calls Tryd.prog 13 #[.pointer (some ⟨b, 0, none⟩), .int .u64 6] w fun e w' => e = .returned (.int .u64 0) ∧ Kept w0 b f4 w' :=
  (raise_any b f3 6 w h.1).mono fun _ _ ⟨h1, h2⟩ => ⟨h1, h.step (by
    have : bits .or .u64 f3.flags 6 = 6 := by decide
    rw [this] at h2; exact h2)⟩
theorem s_lower (h : Kept w0 b f4 w) : Calls Tryd.prog 14 #[.pointer (some ⟨b, 0, none⟩), .int .u64 2] w fun e w' => e = .returned (.int .u64 6) ∧ Kept w0 b f5 w' :=
  (lower_any b f4 2 w h.1).mono fun _ _ ⟨h1, h2⟩ => ⟨h1, h.step (by
    have : bits .and .u64 f4.flags (bits .xor .u64 IntKind.u64.max 2) = 4 := by decide
    rw [this] at h2; exact h2)⟩
theorem s_open (h : Kept w0 b f5 w) : Calls Tryd.prog 15 #[.pointer (some ⟨b, 0, none⟩)] w fun e w' => e = .returned (.bool true) ∧ Kept w0 b f6 w' :=
  (open_yes b f5 rfl (by decide) (by decide) w h.1).mono fun _ _ ⟨h1, h2⟩ => ⟨h1, h.step h2⟩
theorem s_open2 (h : Kept w0 b f6 w) : Calls Tryd.prog 15 #[.pointer (some ⟨b, 0, none⟩)] w fun e w' => e = .returned (.bool false) ∧ Kept w0 b f7 w' :=
  (open_no b f6 rfl (by decide) (by decide) w h.1).mono fun _ _ ⟨h1, h2⟩ => ⟨h1, h.step h2⟩
theorem s_opened (h : Kept w0 b f7 w) : Calls Tryd.prog 16 #[.pointer (some ⟨b, 0, none⟩)] w fun e w' => e = .returned (.tuple #[.bool true, .int .i64 2]) ∧ Kept w0 b f7 w' :=
  (opened_any b f7 w h.1).mono fun _ _ ⟨h1, h2⟩ => ⟨h1, h.step h2⟩
theorem s_get (h : Kept w0 b f7 w) : Calls Tryd.prog 19 #[.pointer (some ⟨b, 0, none⟩), .int .i64 3] w fun e w' => e = .returned (.int .i64 7) ∧ w = w' := get_in b 3 f7 (by decide) w h.1
theorem s_high (h : Kept w0 b f7 w) : Calls Tryd.prog 20 #[.pointer (some ⟨b, 0, none⟩), .int .i64 3] w fun e w' => e = .returned (.int .i64 7) ∧ w = w' := high_in b 3 f7 (by decide) w h.1
theorem s_flags (h : Kept w0 b f7 w) : Calls Tryd.prog 17 #[.pointer (some ⟨b, 0, none⟩)] w fun e w' => e = .returned (.int .u64 4) ∧ w = w' := flags_any b f7 w h.1
theorem s_name (h : Kept w0 b f7 w) : Calls Tryd.prog 22 #[.pointer (some ⟨b, 0, none⟩), .int .i64 12] w fun e w' => e = .returned (.string ⟨#[107, 105, 110, 100, 49, 50]⟩) ∧ Kept w0 b (made f7) w' :=
  (name_in b 12 (by decide) f7 w h.1 f7_named).mono fun _ _ ⟨h1, h2⟩ => ⟨h1, h.step h2⟩
theorem s_all (h : Kept w0 b (made f7) w) : Calls Tryd.prog 18 #[.pointer (some ⟨b, 0, none⟩)] w fun e w' => ∃ A c, e = .returned (.slice A 16 c) ∧ Kept w0 b (made f7) w' :=
  (all_any b (made f7) w h.1).mono fun _ _ ⟨v, h1, h2, h3, h4⟩ => by
    obtain ⟨A, c, rfl⟩ := own_form h2
    exact ⟨A, c, h1, h3, Ch.below h.2.1 h4 (fun _ h => h.elim) h.2.1.size, h.2.2⟩
end
set_option maxRecDepth 100000 in
set_option maxHeartbeats 1000000 in
theorem fixed_any (w : World) : Calls Tryd.prog 6 #[] w fun e w' => e = .returned (.bool true) ∧ Below w.heap.size w w' := by
  go_enter Tryd.func6, Tryd.ntmps6
  go_wp2_with fail
  refine (new_any _).mono ?_
  rintro e w' ⟨rfl, -, rfl⟩
  have k0 := Lib.hid (Kept.new w w (Below.refl _ _))
  generalize w.alloc (.cells St.zero.cells 75) = w1 at k0 ⊢
  go_wp2_with fail
  refine (s_add k0.out).mono ?_
  rintro e w' ⟨rfl, h⟩
  have k1 := Lib.hid h
  clear h
  go_wp2_with fail
  refine (s_take k1.out).mono ?_
  rintro e w' ⟨rfl, h⟩
  have k2 := Lib.hid h
  clear h
  go_wp2_with fail
  refine (add_out _ 16 1 (.inr (by decide)) _).mono ?_
  rintro e w' ⟨rfl, rfl⟩
  go_wp2_with fail
  refine (s_change k2.out).mono ?_
  rintro e w' ⟨rfl, h⟩
  have k3 := Lib.hid h
  clear h
  go_wp2_with fail
  refine (s_change2 k3.out).mono ?_
  rintro e w' ⟨rfl, rfl⟩
  go_wp2_with fail
  refine (s_raise k3.out).mono ?_
  rintro e w' ⟨rfl, h⟩
  have k4 := Lib.hid h
  clear h
  go_wp2_with fail
  refine (s_lower k4.out).mono ?_
  rintro e w' ⟨rfl, h⟩
  have k5 := Lib.hid h
  clear h
  go_wp2_with fail
  refine (s_open k5.out).mono ?_
  rintro e w' ⟨rfl, h⟩
  have k6 := Lib.hid h
  clear h
  go_wp2_with fail
  refine (s_open2 k6.out).mono ?_
  rintro e w' ⟨rfl, h⟩
  have k7 := Lib.hid h
  clear h
  go_wp2_with fail
  refine (s_opened k7.out).mono ?_
  rintro e w' ⟨rfl, h⟩
  have k8 := Lib.hid h
  clear h
  go_wp2_with fail
  refine (add_nil 0 1 _).mono ?_
  rintro e w' ⟨rfl, rfl⟩
  go_wp2_with fail
  refine (s_get k8.out).mono ?_
  rintro e w' ⟨rfl, rfl⟩
  go_wp2_with fail
  refine (s_high k8.out).mono ?_
  rintro e w' ⟨rfl, rfl⟩
  go_wp2_with fail
  refine (s_flags k8.out).mono ?_
  rintro e w' ⟨rfl, rfl⟩
  go_wp2_with fail
  refine (s_name k8.out).mono ?_
  rintro e w' ⟨rfl, h⟩
  have k9 := Lib.hid h
  clear h
  go_wp2_with fail
  refine (name_out _ (-1) (.inl (by decide)) _).mono ?_
  rintro e w' ⟨rfl, rfl⟩
  go_wp2_with fail
  refine (s_all k9.out).mono ?_
  rintro e w' ⟨A, c, rfl, h⟩
  have k10 := Lib.hid h
  clear h
  go_wp2_with fail
  refine (open_nil _).mono ?_
  rintro e w' ⟨rfl, rfl⟩
  go_wp2_with fail
  refine (name_nil 1 _).mono ?_
  rintro e w' ⟨rfl, rfl⟩
  go_wp2_with fail
  go_ret
  exact ⟨rfl, k10.out.2.1⟩
end Go.Proofs.YtdbbnkibdibpkaaDoor
