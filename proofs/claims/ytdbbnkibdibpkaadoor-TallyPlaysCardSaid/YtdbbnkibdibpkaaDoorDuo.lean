/- A tally and the reference's plain numbers in one memory. -/
import Derived.Test.YtdbbnkibdibpkaaDoorRf
import Derived.Test.YtdbbnkibdibpkaaDoorTx
namespace Go.Proofs.YtdbbnkibdibpkaaDoor
open Go.RowKit
set_option linter.unusedVariables false

structure Duo (w0 w : World) (b rb nb : Nat) (v : Value) (L : List (Nat × Int)) (s r : St) : Prop where
  tal : Tal w b s
  ref : Ref w w0.heap.size rb nb v L r
  below : Below w0.heap.size w0 w
  bB : w0.heap.size ≤ b
def Keep (w w' : World) : Prop := ∀ g cs, Blk w g 30 cs → Blk w' g 30 cs
theorem Ref.ch {w w' : World} {S : Nat → Prop} {B rb nb : Nat} {v : Value} {L : List (Nat × Int)} {r : St} (h : Ref w B rb nb v L r) (hc : Ch S w w') (h1 : ¬ S rb) (h2 : ¬ S nb) (h3 : ∀ k, v.ownBlock = some k → ¬ S k) : Ref w' B rb nb v L r :=
  ⟨h.blk.ch hc h1, h.now.ch hc h2, own_ch h.was hc h3, h.ne, h.rB, h.nB, h.best, h.len⟩
section
variable {w0 w w' : World} {b rb nb : Nat} {v : Value} {L L' : List (Nat × Int)} {s s' r r' : St}
theorem Duo.prog (h : Duo w0 w b rb nb v L s r) (hp : TP b s' w w') : Duo w0 w' b rb nb v L s' r ∧ Keep w w' := by
  obtain ⟨h1, h2⟩ := hp
  refine ⟨⟨h1, h.ref.ch h2 (fun e => ?_) (fun e => ?_) (fun k hk e => ?_), Ch.below h.below h2 (fun k hk => by subst hk; exact h.bB) h.below.size, h.bB⟩, fun g cs hg => hg.ch h2 (fun e => ?_)⟩
  · subst e; exact Blk.ne_ h.tal h.ref.blk (by decide) rfl
  · subst e; exact Blk.ne_ h.tal h.ref.now (by decide) rfl
  · subst e; exact own_blk_ne h.ref.was h.tal (by decide) hk
  · subst e; exact Blk.ne_ h.tal hg (by decide) rfl
theorem Duo.refp (h : Duo w0 w b rb nb v L s r) (hp : RPost w0.heap.size rb nb v L' r' w w') : ∃ v', Duo w0 w' b rb nb v' L' s r' ∧ Keep w w' := by
  obtain ⟨v', h1, h2, h3⟩ := hp
  refine ⟨v', ⟨h.tal.ch h2 ?_, h1, Ch.below h.below h2 ?_ h.below.size, h.bB⟩, fun g cs hg => hg.ch h2 ?_⟩
  · rintro (e | e | e)
    · subst e; exact Blk.ne_ h.tal h.ref.blk (by decide) rfl
    · subst e; exact Blk.ne_ h.tal h.ref.now (by decide) rfl
    · exact own_blk_ne h.ref.was h.tal (by decide) e
  · rintro k (e | e | e)
    · subst e; exact h.ref.rB
    · subst e; exact h.ref.nB
    · exact (h.ref.was.lt k e).1
  · rintro (e | e | e)
    · subst e; exact Blk.ne_ h.ref.blk hg (by decide) rfl
    · subst e; exact Blk.ne_ h.ref.now hg (by decide) rfl
    · exact own_blk_ne h.ref.was hg (by decide) e
theorem Duo.new_ (h : Duo w0 w b rb nb v L s r) (hc : Ch (fun _ => False) w w') : Duo w0 w' b rb nb v L s r ∧ Keep w w' :=
  ⟨⟨h.tal.ch hc (fun h => h), h.ref.ch hc (fun h => h) (fun h => h) (fun _ _ h => h), Ch.below h.below hc (fun _ h => h.elim) h.below.size, h.bB⟩, fun g cs hg => hg.ch hc (fun h => h)⟩
theorem Duo.alloc (h : Duo w0 w b rb nb v L s r) (o : Obj) : Duo w0 (w.alloc o) b rb nb v L s r := (h.new_ ((Ch.refl _ w).alloc o)).1
theorem Duo.drewN (h : Duo w0 w b rb nb v L s r) (n : Nat) : Duo w0 (w.drewN n) b rb nb v L s r := (h.new_ ((Ch.refl _ w).drewN n)).1
theorem Duo.drew (h : Duo w0 w b rb nb v L s r) : Duo w0 w.drew b rb nb v L s r := (h.new_ ((Ch.refl _ w).drew)).1
theorem lift_p {f : FuncId} {args : Array Value} {x : Value} (h : Duo w0 w b rb nb v L s r) (hc : Calls Tryd.prog f args w fun e w' => e = .returned x ∧ TP b s' w w') :
    Calls Tryd.prog f args w fun e w' => e = .returned x ∧ Duo w0 w' b rb nb v L s' r ∧ Keep w w' := hc.mono fun _ _ ⟨h1, h2⟩ => ⟨h1, h.prog h2⟩
theorem lift_r {f : FuncId} {args : Array Value} {x : Value} (h : Duo w0 w b rb nb v L s r) (hc : Calls Tryd.prog f args w fun e w' => e = .returned x ∧ RPost w0.heap.size rb nb v L' r' w w') :
    Calls Tryd.prog f args w fun e w' => e = .returned x ∧ ∃ v', Duo w0 w' b rb nb v' L' s r' ∧ Keep w w' := hc.mono fun _ _ ⟨h1, h2⟩ => ⟨h1, h.refp h2⟩
/-- The reference's flags, and how often its gate was tried, are laid. -/
theorem Duo.rflags (h : Duo w0 w b rb nb v L s r) (x : Int) : Duo w0 (w.setCell ⟨rb, 2, none⟩ (.int .u64 x)) b rb nb v L s { r with flags := x } ∧ Keep w (w.setCell ⟨rb, 2, none⟩ (.int .u64 x)) := by
  have hc : Ch (fun k => k = rb) w (w.setCell ⟨rb, 2, none⟩ (.int .u64 x)) := (Ch.refl (fun k => k = rb) w).setCell (p := ⟨rb, 2, none⟩) (.inl rfl) _
  have e1 : b ≠ rb := Blk.ne_ h.tal h.ref.blk (by decide)
  have e2 : nb ≠ rb := Blk.ne_ h.ref.now h.ref.blk (by decide)
  have e3 : v.ownBlock ≠ some rb := own_blk_ne h.ref.was h.ref.blk (by decide)
  refine ⟨⟨h.tal.ch hc e1, ⟨?_, h.ref.now.ch hc e2, own_ch h.ref.was hc (fun k hk e => by subst e; exact e3 hk), h.ref.ne, h.ref.rB, h.ref.nB, h.ref.best, h.ref.len⟩, Ch.below h.below hc (fun k hk => by subst hk; exact h.ref.rB) h.below.size, h.bB⟩, fun g cs hg => hg.ch hc (Blk.ne_ hg h.ref.blk (by decide))⟩
  exact h.ref.blk.set_ 2 (.int .u64 x)
theorem Duo.rtried (h : Duo w0 w b rb nb v L s r) (x : Int) : Duo w0 (w.setCell ⟨rb, 3, none⟩ (.int .i64 x)) b rb nb v L s { r with tried := x } ∧ Keep w (w.setCell ⟨rb, 3, none⟩ (.int .i64 x)) := by
  have hc : Ch (fun k => k = rb) w (w.setCell ⟨rb, 3, none⟩ (.int .i64 x)) := (Ch.refl (fun k => k = rb) w).setCell (p := ⟨rb, 3, none⟩) (.inl rfl) _
  have e1 : b ≠ rb := Blk.ne_ h.tal h.ref.blk (by decide)
  have e2 : nb ≠ rb := Blk.ne_ h.ref.now h.ref.blk (by decide)
  have e3 : v.ownBlock ≠ some rb := own_blk_ne h.ref.was h.ref.blk (by decide)
  refine ⟨⟨h.tal.ch hc e1, ⟨?_, h.ref.now.ch hc e2, own_ch h.ref.was hc (fun k hk e => by subst e; exact e3 hk), h.ref.ne, h.ref.rB, h.ref.nB, h.ref.best, h.ref.len⟩, Ch.below h.below hc (fun k hk => by subst hk; exact h.ref.rB) h.below.size, h.bB⟩, fun g cs hg => hg.ch hc (Blk.ne_ hg h.ref.blk (by decide))⟩
  exact h.ref.blk.set_ 3 (.int .i64 x)
/-- The reference reads c, flags and tried alone. -/
theorem Duo.same (h : Duo w0 w b rb nb v L s r) (h1 : r.c = r'.c) (h2 : r.flags = r'.flags) (h3 : r.tried = r'.tried) : Duo w0 w b rb nb v L s r' :=
  ⟨h.tal, ⟨by rw [← h2, ← h3]; exact h.ref.blk, by rw [← h1]; exact h.ref.now, h.ref.was, h.ref.ne, h.ref.rB, h.ref.nB, by rw [← h1]; exact h.ref.best, h.ref.len⟩, h.below, h.bB⟩
theorem Duo.now_cell (h : Duo w0 w b rb nb v L s r) {k : Nat} (hk : k < 16) : w.cell? ⟨nb, k, none⟩ = some (.int .i64 (r.c (k * 2))) := by rw [h.ref.now.cell, nowc_get _ hk]
theorem Duo.nows (h : Duo w0 w b rb nb v L s r) : w.cell? ⟨rb, 0, none⟩ = some (.slice (some ⟨nb, 0, none⟩) 16 16) := by rw [h.ref.blk.cell]; rfl
theorem Duo.flg (h : Duo w0 w b rb nb v L s r) : w.cell? ⟨rb, 2, none⟩ = some (.int .u64 r.flags) := by rw [h.ref.blk.cell]; rfl
theorem Duo.trd (h : Duo w0 w b rb nb v L s r) : w.cell? ⟨rb, 3, none⟩ = some (.int .i64 r.tried) := by rw [h.ref.blk.cell]; rfl
theorem Duo.pos (h : Duo w0 w b rb nb v L s r) {k : Nat} (hk : k < 16) : 0 ≤ r.c (k * 2 + 1) := by rw [← h.ref.best k hk]; exact best_pos _ _
end
theorem new_duo (w w1 : World) (hb : Below w.heap.size w w1) :
    Duo w (((w1.alloc (.cells St.zero.cells 75)).alloc (.cells (nowc (fun _ => 0)) 3)).alloc (.cells (rblk (w1.heap.size + 1) (.slice none 0 0) St.zero) 37)) w1.heap.size (w1.heap.size + 2) (w1.heap.size + 1) (.slice none 0 0) [] St.zero St.zero := by
  have hs := hb.size
  have e1 : (w1.alloc (.cells St.zero.cells 75)).heap.size = w1.heap.size + 1 := by simp
  have e2 : ((w1.alloc (.cells St.zero.cells 75)).alloc (.cells (nowc (fun _ => 0)) 3)).heap.size = w1.heap.size + 2 := by simp
  refine ⟨((Blk.new w1 75 _).alloc _).alloc _, ⟨?_, ?_, ⟨by simp [wasL], .inl ⟨rfl, rfl⟩⟩, by simp [Value.ownBlock], by omega, by omega, fun i hi => rfl, by simp⟩, ?_, hs⟩
  · have := Blk.new ((w1.alloc (.cells St.zero.cells 75)).alloc (.cells (nowc (fun _ => 0)) 3)) 37 (rblk (w1.heap.size + 1) (.slice none 0 0) St.zero)
    rw [e2] at this
    exact this
  · have := (Blk.new (w1.alloc (.cells St.zero.cells 75)) 3 (nowc (fun _ => 0))).alloc (.cells (rblk (w1.heap.size + 1) (.slice none 0 0) St.zero) 37)
    rw [e1] at this
    exact this
  · exact Ch.below hb ((((Ch.refl (fun _ => False) w1).alloc _).alloc _).alloc _) (fun _ h => h.elim) hs
theorem andNot_eq (x y : Int) : bits .andNot .u64 x y = bits .and .u64 x (bits .xor .u64 IntKind.u64.max y) := by
  show IntKind.u64.wrap ((BitVec.ofInt 64 x &&& ~~~ BitVec.ofInt 64 y).toNat : Int) = IntKind.u64.wrap ((BitVec.ofInt 64 x &&& BitVec.ofInt 64 (IntKind.u64.wrap ((BitVec.ofInt 64 IntKind.u64.max ^^^ BitVec.ofInt 64 y).toNat : Int))).toNat : Int)
  have h1 : BitVec.ofInt 64 IntKind.u64.max = BitVec.allOnes 64 := by decide
  have h2 : ∀ X : BitVec 64, BitVec.ofInt 64 (IntKind.u64.wrap (X.toNat : Int)) = X := by
    intro X
    have := X.isLt
    have e : IntKind.u64.wrap (X.toNat : Int) = X.toNat := by simp [IntKind.wrap, IntKind.bits, IntKind.signed]; omega
    rw [e]
    simp
  rw [h1, BitVec.allOnes_xor, h2]
end Go.Proofs.YtdbbnkibdibpkaaDoor
