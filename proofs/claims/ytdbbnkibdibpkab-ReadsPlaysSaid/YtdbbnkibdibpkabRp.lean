/- The document's plain reads: its block, told by its numbers and its two rows; the contracts of its small methods. -/
import Derived.Test.YtdbbnkibdibpkabKr
import Derived.Test.YtdbbnkibdibpkabLaw
import Derived.Test.YtdbbnkibdibpkabLibOff
namespace Go.Proofs.Ytdbbnkibdibpkab
open Go.RowKit
set_option linter.unusedVariables false

def flatK (ks : List (Int × Int)) : List Value := ks.flatMap fun x => [.int .i64 x.1, .int .i64 x.2]
theorem flatK_snoc (ks : List (Int × Int)) (x : Int × Int) : flatK (ks ++ [x]) = flatK ks ++ [.int .i64 x.1, .int .i64 x.2] := by simp [flatK]
theorem flatK_get (ks : List (Int × Int)) {i : Nat} {x : Int × Int} (h : ks[i]? = some x) : (flatK ks)[i * 2]? = some (.int .i64 x.1) ∧ (flatK ks)[i * 2 + 1]? = some (.int .i64 x.2) := by
  refine ⟨?_, ?_⟩
  · have := flat_get (f := fun x : Int × Int => [Value.int .i64 x.1, .int .i64 x.2]) (m := 2) (fun _ _ => rfl) h (j := 0) (by omega); simpa [flatK] using this
  · have := flat_get (f := fun x : Int × Int => [Value.int .i64 x.1, .int .i64 x.2]) (m := 2) (fun _ _ => rfl) h (j := 1) (by omega); simpa [flatK] using this
def pcells (s : RS) (va vl : Value) : Array Value := #[.int .i64 s.self, .int .i64 s.n, .int .i64 s.rounds, .int .i64 s.commit, .int .i64 s.applied, va, vl]
structure Rp (w : World) (B b : Nat) (s : RS) (ks : List (Int × Int)) (W : List Rdg) (va vl : Value) : Prop where
  blk : Blk w b 30 (pcells s va vl)
  acks : rowAt w B 55 2 va ks.length (flatK ks)
  row : rowAt w B 41 3 vl W.length (flatW W)
  bB : B ≤ b
def PFoot (b : Nat) (va vl : Value) (k : Nat) : Prop := k = b ∨ va.ownBlock = some k ∨ vl.ownBlock = some k
def PP (B b : Nat) (s : RS) (ks : List (Int × Int)) (W : List Rdg) (va vl : Value) (w w' : World) : Prop := ∃ va' vl', Rp w' B b s ks W va' vl' ∧ Ch (PFoot b va vl) w w'
section
variable {w w' : World} {B b : Nat} {s s' : RS} {ks : List (Int × Int)} {W : List Rdg} {va vl : Value}
theorem Rp.ch {S : Nat → Prop} (h : Rp w B b s ks W va vl) (hc : Ch S w w') (h1 : ¬ S b) (h2 : ∀ k, va.ownBlock = some k → ¬ S k) (h3 : ∀ k, vl.ownBlock = some k → ¬ S k) : Rp w' B b s ks W va vl :=
  ⟨h.blk.ch hc h1, h.acks.ch hc h2, h.row.ch hc h3, h.bB⟩
theorem Rp.new_ (h : Rp w B b s ks W va vl) (hc : NewW w w') : Rp w' B b s ks W va vl := h.ch hc (fun h => h) (fun _ _ h => h) (fun _ _ h => h)
theorem Rp.keep (h : Rp w B b s ks W va vl) (hk : Keep w w') : Rp w' B b s ks W va vl :=
  ⟨hk _ _ _ (by decide) (by decide) h.blk, h.acks.keep fun g cs _ hb => hk _ _ _ (by decide) (by decide) hb, h.row.keep fun g cs _ hb => hk _ _ _ (by decide) (by decide) hb, h.bB⟩
theorem Rp.drewN (h : Rp w B b s ks W va vl) (n : Nat) : Rp (w.drewN n) B b s ks W va vl := h.new_ ((Ch.refl (fun _ => False) w).drewN n)
theorem Rp.low (h : Rp w B b s ks W va vl) {k : Nat} (hk : PFoot b va vl k) : B ≤ k ∧ k < w.heap.size := by
  rcases hk with rfl | hk | hk
  · exact ⟨h.bB, h.blk.lt⟩
  · exact h.acks.lt hk
  · exact h.row.lt hk
/-- A block of another kind is none of these. -/
theorem Rp.far (h : Rp w B b s ks W va vl) {g : Nat} {t : TypeId} {cs : Array Value} (hg : Blk w g t cs) (h1 : t ≠ 30) (h2 : t ≠ 55) (h3 : t ≠ 41) : ¬ PFoot b va vl g := by
  rintro (rfl | e | e)
  · exact Blk.ne_ hg h.blk h1 rfl
  · exact h.acks.blk_ne hg (fun e => h2 e.symm) e
  · exact h.row.blk_ne hg (fun e => h3 e.symm) e
theorem Rp.c0 (h : Rp w B b s ks W va vl) : w.cell? ⟨b, 0, none⟩ = some (.int .i64 s.self) := by rw [h.blk.cell]; rfl
theorem Rp.c1 (h : Rp w B b s ks W va vl) : w.cell? ⟨b, 1, none⟩ = some (.int .i64 s.n) := by rw [h.blk.cell]; rfl
theorem Rp.c2 (h : Rp w B b s ks W va vl) : w.cell? ⟨b, 2, none⟩ = some (.int .i64 s.rounds) := by rw [h.blk.cell]; rfl
theorem Rp.c3 (h : Rp w B b s ks W va vl) : w.cell? ⟨b, 3, none⟩ = some (.int .i64 s.commit) := by rw [h.blk.cell]; rfl
theorem Rp.c4 (h : Rp w B b s ks W va vl) : w.cell? ⟨b, 4, none⟩ = some (.int .i64 s.applied) := by rw [h.blk.cell]; rfl
theorem Rp.c5 (h : Rp w B b s ks W va vl) : w.cell? ⟨b, 5, none⟩ = some va := by rw [h.blk.cell]; rfl
theorem Rp.c6 (h : Rp w B b s ks W va vl) : w.cell? ⟨b, 6, none⟩ = some vl := by rw [h.blk.cell]; rfl
theorem Rp.fz (h : Rp w B b s ks W va vl) (i : Nat) : w.frozen? ⟨b, i, none⟩ = false := h.blk.frozen i
theorem Rp.set (h : Rp w B b s ks W va vl) (i : Nat) (u : Value) (hc : (pcells s va vl).setIfInBounds i u = pcells s' va vl) : PP B b s' ks W va vl w (w.setCell ⟨b, i, none⟩ u) := by
  have hset : Ch (fun k => k = b) w (w.setCell ⟨b, i, none⟩ u) := (Ch.refl (fun k => k = b) w).setCell (p := ⟨b, i, none⟩) (.inl rfl) _
  refine ⟨va, vl, ⟨?_, h.acks.ch hset (fun k hk e => h.acks.blk_ne h.blk (by decide) (e ▸ hk)), h.row.ch hset (fun k hk e => h.row.blk_ne h.blk (by decide) (e ▸ hk)), h.bB⟩, hset.mono fun k hk => .inl hk⟩
  have := h.blk.set_ i u
  rwa [hc] at this
theorem PP.refl (h : Rp w B b s ks W va vl) : PP B b s ks W va vl w w := ⟨va, vl, h, Ch.refl _ _⟩
theorem PP.new_ (h : Rp w B b s ks W va vl) (hc : NewW w w') : PP B b s ks W va vl w w' := ⟨va, vl, h.new_ hc, hc.mono (fun _ h => h.elim)⟩
end

/-! ### The small methods -/
theorem r_commit (B b : Nat) (s : RS) (ks : List (Int × Int)) (W : List Rdg) (va vl : Value) (w : World) (h : Rp w B b s ks W va vl) (x : Int) :
    Calls Try.prog 9 #[.pointer (some ⟨b, 0, none⟩), .int .i64 x] w fun e w' => e = .returned (.int .i64 (commitE s x)) ∧ PP B b (commitS s x) ks W va vl w w' := by
  by_cases h1 : x < 0
  · have e1 : commitE s x = 1 := by unfold commitE; rw [if_pos h1]
    have e2 : commitS s x = s := by unfold commitS; rw [if_pos h1]
    rw [e1, e2]
    have HR := Lib.hid (PP.refl h)
    have hd : decide (x < 0) = true := by simpa using h1
    clear h e1 e2
    go_enter Try.func9, Try.ntmps9
    go_wp2
    go_ret
    exact ⟨rfl, HR.out⟩
  · have hd : decide (x < 0) = false := by simpa using h1
    have c3 := h.c3
    have fz := h.fz 3
    by_cases h2 : x < s.commit
    · have e1 : commitE s x = 5 := by unfold commitE; rw [if_neg h1, if_pos h2]
      have e2 : commitS s x = s := by unfold commitS; rw [if_neg h1, if_pos h2]
      rw [e1, e2]
      have HR := Lib.hid (PP.refl h)
      have hd2 : decide (x < s.commit) = true := by simpa using h2
      clear h e1 e2
      generalize s.commit = C at *
      go_enter Try.func9, Try.ntmps9
      go_wp2
      go_ret
      exact ⟨rfl, HR.out⟩
    · have e1 : commitE s x = 0 := by unfold commitE; rw [if_neg h1, if_neg h2]
      have e2 : commitS s x = { s with commit := x } := by unfold commitS; rw [if_neg h1, if_neg h2]
      rw [e1, e2]
      have HR := Lib.hid (h.set (s' := { s with commit := x }) 3 (.int .i64 x) (by simp [pcells]))
      have hd2 : decide (x < s.commit) = false := by simpa using h2
      clear h e1 e2
      generalize ({ s with commit := x } : RS) = s' at *
      generalize s.commit = C at *
      go_enter Try.func9, Try.ntmps9
      go_wp2
      go_ret
      exact ⟨rfl, HR.out⟩
theorem r_apply (B b : Nat) (s : RS) (ks : List (Int × Int)) (W : List Rdg) (va vl : Value) (w : World) (h : Rp w B b s ks W va vl) (x : Int) :
    Calls Try.prog 11 #[.pointer (some ⟨b, 0, none⟩), .int .i64 x] w fun e w' => e = .returned (.int .i64 (applyE s x)) ∧ PP B b (applyS s x) ks W va vl w w' := by
  by_cases h1 : x < 0
  · have e1 : applyE s x = 1 := by unfold applyE; rw [if_pos h1]
    have e2 : applyS s x = s := by unfold applyS; rw [if_pos h1]
    rw [e1, e2]
    have HR := Lib.hid (PP.refl h)
    have hd : decide (x < 0) = true := by simpa using h1
    clear h e1 e2
    go_enter Try.func11, Try.ntmps11
    go_wp2
    go_ret
    exact ⟨rfl, HR.out⟩
  · have hd : decide (x < 0) = false := by simpa using h1
    have c3 := h.c3
    have c4 := h.c4
    have fz := h.fz 4
    by_cases h2 : x < s.applied ∨ s.commit < x
    · have e1 : applyE s x = 5 := by unfold applyE; rw [if_neg h1, if_pos h2]
      have e2 : applyS s x = s := by unfold applyS; rw [if_neg h1, if_pos h2]
      rw [e1, e2]
      have HR := Lib.hid (PP.refl h)
      clear h e1 e2
      generalize s.commit = C at *
      generalize s.applied = D at *
      by_cases h3 : x < D
      · have hd2 : decide (x < D) = true := by simpa using h3
        clear h2
        go_enter Try.func11, Try.ntmps11
        go_wp2
        go_ret
        exact ⟨rfl, HR.out⟩
      · have hd2 : decide (x < D) = false := by simpa using h3
        have hd3 : decide (C < x) = true := by simp; omega
        clear h2
        go_enter Try.func11, Try.ntmps11
        go_wp2
        go_ret
        exact ⟨rfl, HR.out⟩
    · have e1 : applyE s x = 0 := by unfold applyE; rw [if_neg h1, if_neg h2]
      have e2 : applyS s x = { s with applied := x } := by unfold applyS; rw [if_neg h1, if_neg h2]
      rw [e1, e2]
      have HR := Lib.hid (h.set (s' := { s with applied := x }) 4 (.int .i64 x) (by simp [pcells]))
      have hd2 : decide (x < s.applied) = false := by simp; omega
      have hd3 : decide (s.commit < x) = false := by simp; omega
      clear h e1 e2 h2
      generalize ({ s with applied := x } : RS) = s' at *
      generalize s.commit = C at *
      generalize s.applied = D at *
      go_enter Try.func11, Try.ntmps11
      go_wp2
      go_ret
      exact ⟨rfl, HR.out⟩

theorem ack_info : (Try.prog.info? 55).map (fun i => (i.zero, i.size, i.bytes)) = some (some (.agg #[.int .i64 0, .int .i64 0]), 2, 16) := by kernel_rfl
theorem ridg_info : (Try.prog.info? 41).map (fun i => (i.zero, i.size, i.bytes)) = some (some (.agg #[.int .i64 0, .int .i64 0, .int .i64 0]), 3, 24) := by kernel_rfl
def ackK (s : RS) (ks : List (Int × Int)) (x y : Int) : List (Int × Int) := if ackE s x y = 0 then ks ++ [(x, y)] else ks
theorem pnew_new {w : World} {n : Nat} {t : TypeId} {vs : Array Value} {k size : Nat} (h : vs.size = k * size) : ∀ j u, vs.toList[j]? = some u → ((w.drewN n).alloc (.cells vs t)).cell? ((⟨w.heap.size, 0, none⟩ : Addr).add j) = some u := by
  intro j u hu
  rw [add_mk, Nat.zero_add]
  have := (Blk.new (w.drewN n) t vs).cell j
  rw [show (w.drewN n).heap.size = w.heap.size from rfl] at this
  rw [this, ← hu, Array.getElem?_toList]
/-- The acks' row behind an append, laid back into its cell. -/
theorem ack_fin {w w7 : World} {B b : Nat} {s : RS} {ks : List (Int × Int)} {W : List Rdg} {va vl : Value} {A7 : Option Addr} {c7 : Nat} {o : Obj} {x : Int × Int} (h : Rp w B b s ks W va vl)
    (ho : rowAt w7 B 55 2 (.slice A7 (ks.length + 1) c7) (ks.length + 1) (flatK ks ++ [.int .i64 x.1, .int .i64 x.2])) (hg : (w.alloc o).grownBy w7 va.ownBlock) :
    PP B b s (ks ++ [x]) W va vl w (w7.setCell ⟨b, 5, none⟩ (.slice A7 (ks.length + 1) c7)) := by
  have hne : va.ownBlock ≠ some b := h.acks.blk_ne h.blk (by decide)
  have hb7 : Blk w7 b 30 (pcells s va vl) := (h.blk.alloc o).grown hg (fun e => hne e.symm)
  have hc7 : Ch (fun k => va.ownBlock = some k) w w7 := ((Ch.refl _ w).alloc o).grown hg (fun k hk => .inl hk)
  have hrow : rowAt w7 B 41 3 vl W.length (flatW W) := h.row.ch hc7 (fun k hk e => by
    rcases h.acks.2 with ⟨rfl, _⟩ | ⟨g, off, cap, cur, rfl, _, hh, _⟩
    · simp [Value.ownBlock] at e
    · simp [Value.ownBlock] at e
      subst e
      exact h.row.blk_ne hh (by decide) hk)
  have hset : Ch (fun k => k = b) w7 (w7.setCell ⟨b, 5, none⟩ (.slice A7 (ks.length + 1) c7)) := (Ch.refl (fun k => k = b) w7).setCell (p := ⟨b, 5, none⟩) (.inl rfl) _
  refine ⟨.slice A7 (ks.length + 1) c7, vl, ⟨?_, ?_, hrow.ch hset (fun k hk e => hrow.blk_ne hb7 (by decide) (e ▸ hk)), h.bB⟩, (hc7.mono (fun k hk => .inr (.inl hk))).trans' (hset.mono fun k hk => .inl hk)⟩
  · have := hb7.set_ 5 (.slice A7 (ks.length + 1) c7)
    rwa [show (pcells s va vl).setIfInBounds 5 (.slice A7 (ks.length + 1) c7) = pcells s (.slice A7 (ks.length + 1) c7) vl by simp [pcells]] at this
  · rw [List.length_append, flatK_snoc]
    exact ho.ch hset (fun k hk e => ho.blk_ne hb7 (by decide) (e ▸ hk))
theorem row_fin {w w7 : World} {B b : Nat} {s : RS} {ks : List (Int × Int)} {W : List Rdg} {va vl : Value} {A7 : Option Addr} {c7 n : Nat} {o : Obj} {x : Rdg} (h : Rp w B b s ks W va vl)
    (ho : rowAt w7 B 41 3 (.slice A7 (W.length + 1) c7) (W.length + 1) (flatW W ++ [.int .i64 x.1, .int .i64 x.2.1, .int .i64 x.2.2])) (hg : ((w.drewN n).alloc o).grownBy w7 vl.ownBlock) :
    PP B b s ks (W ++ [x]) va vl w (w7.setCell ⟨b, 6, none⟩ (.slice A7 (W.length + 1) c7)) := by
  have hne : vl.ownBlock ≠ some b := h.row.blk_ne h.blk (by decide)
  have hb7 : Blk w7 b 30 (pcells s va vl) := ((h.drewN n).blk.alloc o).grown hg (fun e => hne e.symm)
  have hc7 : Ch (fun k => vl.ownBlock = some k) w w7 := (((Ch.refl _ w).drewN n).alloc o).grown hg (fun k hk => .inl hk)
  have hrow : rowAt w7 B 55 2 va ks.length (flatK ks) := h.acks.ch hc7 (fun k hk e => by
    rcases h.row.2 with ⟨rfl, _⟩ | ⟨g, off, cap, cur, rfl, _, hh, _⟩
    · simp [Value.ownBlock] at e
    · simp [Value.ownBlock] at e
      subst e
      exact h.acks.blk_ne hh (by decide) hk)
  have hset : Ch (fun k => k = b) w7 (w7.setCell ⟨b, 6, none⟩ (.slice A7 (W.length + 1) c7)) := (Ch.refl (fun k => k = b) w7).setCell (p := ⟨b, 6, none⟩) (.inl rfl) _
  refine ⟨va, .slice A7 (W.length + 1) c7, ⟨?_, hrow.ch hset (fun k hk e => hrow.blk_ne hb7 (by decide) (e ▸ hk)), ?_, h.bB⟩, (hc7.mono (fun k hk => .inr (.inr hk))).trans' (hset.mono fun k hk => .inl hk)⟩
  · have := hb7.set_ 6 (.slice A7 (W.length + 1) c7)
    rwa [show (pcells s va vl).setIfInBounds 6 (.slice A7 (W.length + 1) c7) = pcells s va (.slice A7 (W.length + 1) c7) by simp [pcells]] at this
  · rw [List.length_append, flatW_snoc]
    exact ho.ch hset (fun k hk e => ho.blk_ne hb7 (by decide) (e ▸ hk))
set_option maxRecDepth 100000 in
theorem r_ack (B b : Nat) (s : RS) (ks : List (Int × Int)) (W : List Rdg) (va vl : Value) (w : World) (h : Rp w B b s ks W va vl) (hB : B ≤ w.heap.size) (me : s.self < s.n) (hk : ks.length ≤ 1000) (x y : Int) :
    Calls Try.prog 16 #[.pointer (some ⟨b, 0, none⟩), .int .i64 x, .int .i64 y] w fun e w' => e = .returned (.int .i64 (ackE s x y)) ∧ PP B b s (ackK s ks x y) W va vl w w' := by
  have c0 := h.c0
  have c1 := h.c1
  have c2 := h.c2
  by_cases h1 : x < 0 ∨ (s.n : Int) ≤ x ∨ x = s.self
  · have e1 : ackE s x y = 1 := by unfold ackE; rw [if_pos h1]
    have e2 : ackK s ks x y = ks := by unfold ackK; rw [e1]; rfl
    rw [e1, e2]
    have HR := Lib.hid (PP.refl h)
    clear h e1 e2
    generalize s.self = M at *
    generalize s.n = n at *
    by_cases h2 : x < 0
    · have hd : decide (x < 0) = true := by simpa using h2
      clear h1
      go_enter Try.func16, Try.ntmps16
      go_wp2
      go_ret
      exact ⟨rfl, HR.out⟩
    · have hd : decide (x < 0) = false := by simpa using h2
      by_cases h3 : (n : Int) ≤ x
      · have hd2 : decide ((n : Int) ≤ x) = true := by simpa using h3
        clear h1
        go_enter Try.func16, Try.ntmps16
        go_wp2
        go_ret
        exact ⟨rfl, HR.out⟩
      · have hd2 : decide ((n : Int) ≤ x) = false := by simpa using h3
        obtain rfl : x = M := by omega
        clear h1
        go_enter Try.func16, Try.ntmps16
        go_wp2
        go_ret
        exact ⟨rfl, HR.out⟩
  · obtain ⟨k, rfl⟩ : ∃ k : Nat, x = k := ⟨x.toNat, by omega⟩
    have hd : decide ((s.n : Int) ≤ (k : Int)) = false := by simp; omega
    have hkn : k < s.n := by omega
    have hd1 : ((k : Int) == (s.self : Int)) = false := by simp; omega
    by_cases h2 : y < 1 ∨ s.rounds < y
    · have e1 : ackE s k y = 5 := by unfold ackE; rw [if_neg h1, if_pos h2]
      have e2 : ackK s ks k y = ks := by unfold ackK; rw [e1]; rfl
      rw [e1, e2]
      have HR := Lib.hid (PP.refl h)
      clear h e1 e2 h1
      generalize s.self = M at *
      generalize s.n = n at *
      generalize s.rounds = R at *
      by_cases h3 : y < 1
      · have hd2 : decide (y < 1) = true := by simpa using h3
        clear h2
        go_enter Try.func16, Try.ntmps16
        go_wp2
        go_ret
        exact ⟨rfl, HR.out⟩
      · have hd2 : decide (y < 1) = false := by simpa using h3
        have hd3 : decide (R < y) = true := by simp; omega
        clear h2
        go_enter Try.func16, Try.ntmps16
        go_wp2
        go_ret
        exact ⟨rfl, HR.out⟩
    · have e1 : ackE s k y = 0 := by unfold ackE; rw [if_neg h1, if_neg h2]
      have e2 : ackK s ks k y = ks ++ [((k : Int), y)] := by unfold ackK; rw [e1]; rfl
      rw [e1, e2]
      obtain ⟨i1, hi1, hy0, hy1, hy2⟩ := info_parts ack_info
      have hd2 : decide (y < 1) = false := by simp; omega
      have hd3 : decide (s.rounds < y) = false := by simp; omega
      have hne : va.ownBlock ≠ some b := h.acks.blk_ne h.blk (by decide)
      have c5 := (h.new_ ((Ch.refl (fun _ => False) w).alloc (.cells #[.int .i64 k, .int .i64 y] 55))).c5
      have hl := Nat.lt_succ_self w.heap.size
      have HH := Lib.hid h
      have hb0 := Lib.hid (h.blk.alloc (.cells #[.int .i64 k, .int .i64 y] 55))
      obtain ⟨A, q, rfl⟩ := h.acks.form_
      have c5' := h.c5
      have HFX := Lib.hid (fun (w7 : World) A7 c7 ho hg => ack_fin (A7 := A7) (c7 := c7) (w7 := w7) (x := ((k : Int), y)) (o := .cells #[.int .i64 k, .int .i64 y] 55) h ho hg)
      clear h e1 e2 h1 h2
      generalize s.self = M at *
      generalize s.n = n at *
      generalize s.rounds = R at *
      go_enter Try.func16, Try.ntmps16
      go_wp2_with (first
        | (at_builtin
           refine wpList_append_off _ rfl (.tmp 39) (.tmp 43) _ rfl B 55 i1 _ 2 16 Try.underlying27 hi1 hy0 hy1 hy2 rfl (by omega) (.slice A ks.length q) ks.length (flatK ks) rfl
             (HH.out.new_ ((Ch.refl (fun _ => False) w).alloc _)).acks ⟨w.heap.size, 0, none⟩ 1 1 [.int .i64 k, .int .i64 y] rfl rfl (pnew_new (n := 0) (vs := #[.int .i64 k, .int .i64 y]) (k := 1) (size := 2) rfl) (by simp [Value.oneCell']) (by simp only [maxLen]; omega) (by omega) (by simp; omega) ?_
           intro v7 w7 hown7 hg7 hat7
           have hb7 : Blk w7 b 30 _ := hb0.out.grown hg7 (fun e => hne e.symm)
           have m1 := hb7.frozen 5
           have m2 := hb7.cell 5
           simp [pcells] at m2
           obtain ⟨A7, c7, rfl⟩ := hown7.form_
           have HO7 := Lib.hid hown7; clear hown7
           have HG7 := Lib.hid hg7; clear hg7))
      go_ret
      exact ⟨rfl, HFX.out _ _ _ HO7.out HG7.out⟩
end Go.Proofs.Ytdbbnkibdibpkab
