/- What ReadsFresh keeps: the leader, the law's own row of those that asked, and the law's own answers. -/
import Derived.Test.YtdbbnkibdibpkabFix
import Derived.Test.YtdbbnkibdibpkabFr
import Derived.Test.YtdbbnkibdibpkabLibOff
namespace Go.Proofs.Ytdbbnkibdibpkab
open Go.RowKit
set_option linter.unusedVariables false

def ackc (n : Nat) (f : Nat → Int) : Array Value := Array.ofFn (n := n) fun i => .int .i64 (f i)
theorem ackc_get (n : Nat) (f : Nat → Int) {i : Nat} (h : i < n) : (ackc n f)[i]? = some (.int .i64 (f i)) := by simp [ackc, h]
theorem ackc_set (n : Nat) (f : Nat → Int) {i : Nat} (hi : i < n) (x : Int) : (ackc n f).setIfInBounds i (.int .i64 x) = ackc n (upd f i x) := by
  apply Array.ext
  · simp [ackc]
  · intro j h1 h2
    have hj : j < n := by simpa [ackc] using h2
    rw [Array.getElem_setIfInBounds]
    · by_cases e : i = j
      · subst e; simp [ackc, upd]
      · simp [ackc, upd, e, show ¬ j = i from fun h => e h.symm]
    · simpa [ackc] using hj
structure FI (w : World) (b me kn m : Nat) (rv : Value) (ag : Nat) (s : RS) (W : List Rdg) (v : Value) (wr : World) : Prop where
  kr : Kr w b s W v wr
  fine : Fine s W
  self : s.self = me
  n : s.n = kn
  row : rowAt wr w.heap.size 45 3 rv W.length (flatW W)
  acks : Blk wr ag 3 (ackc kn s.ans)
  agB : w.heap.size ≤ ag
  r1 : s.rounds ≤ m
section
variable {w0 w w' : World} {b me kn m ag : Nat} {rv rv' : Value} {s s' : RS} {W W' : List Rdg} {v v' : Value} {wr w2 : World}
theorem Kr.far (h : Kr w0 b s W v w) {S : Nat → Prop} (hc : Ch S w w') (h1 : ¬ S b) (h2 : ∀ k, v.ownBlock = some k → ¬ S k) (h3 : ∀ k, S k → w0.heap.size ≤ k) : Kr w0 b s W v w' :=
  ⟨h.rd.ch hc h1 h2, Ch.below h.below hc h3 h.below.size⟩
/-- Behind a call that keeps the law's own. -/
theorem FI.step (h : FI w b me kn m rv ag s W v wr) (hk : Kr w b s' W' v' w2) (hp : Keep wr w2) (hf : Fine s' W') (h1 : s'.self = s.self) (h2 : s'.n = s.n) (h3 : ∀ i, i < kn → s'.ans i = s.ans i) (h4 : s'.rounds ≤ m + 1) (h5 : W' = W) : FI w b me kn (m + 1) rv ag s' W' v' w2 := by
  subst h5
  refine ⟨hk, hf, h1.trans h.self, h2.trans h.n, h.row.keep fun g cs _ hb => hp g 45 cs (by decide) (by decide) hb, ?_, h.agB, h4⟩
  have := hp ag 3 _ (by decide) (by decide) h.acks
  have e : ackc kn s'.ans = ackc kn s.ans := by
    unfold ackc
    congr 1
    funext i
    rw [h3 i i.isLt]
  rw [e]; exact this
/-- A number is laid into the law's answers. -/
theorem FI.lay_ack (h : Blk w2 ag 3 (ackc kn s.ans)) (hk : Kr w b s W v w2) (hrow : rowAt w2 w.heap.size 45 3 rv W.length (flatW W)) (hB : w.heap.size ≤ ag) {i : Nat} (hi : i < kn) (x : Int) :
    Blk (w2.setCell ⟨ag, i, none⟩ (.int .i64 x)) ag 3 (ackc kn (upd s.ans i x)) ∧ Kr w b s W v (w2.setCell ⟨ag, i, none⟩ (.int .i64 x)) ∧ rowAt (w2.setCell ⟨ag, i, none⟩ (.int .i64 x)) w.heap.size 45 3 rv W.length (flatW W) := by
  have hc : Ch (fun k => k = ag) w2 (w2.setCell ⟨ag, i, none⟩ (.int .i64 x)) := (Ch.refl (fun k => k = ag) w2).setCell (p := ⟨ag, i, none⟩) (.inl rfl) _
  refine ⟨?_, hk.far hc (Blk.ne_ hk.rd.blk h (by decide)) (fun k hv e => by subst e; exact own_blk_ne hk.rd.own h (by decide) hv) (fun k e => by subst e; exact hB), hrow.ch hc fun k hv e => by subst e; exact hrow.blk_ne h (by decide) hv⟩
  have := h.set_ i (.int .i64 x)
  rwa [ackc_set kn s.ans hi] at this
/-- The law's row is laid longer. -/
theorem FI.more (h : Blk w2 ag 3 (ackc kn s.ans)) (hk : Kr w b s W' v w2) (hrow : rowAt w2 w.heap.size 45 3 rv W.length (flatW W)) {x : Rdg} {w3 : World} (o : Obj)
    (hr : rowAt w3 w.heap.size 45 3 rv' (W.length + 1) (flatW W ++ [.int .i64 x.1, .int .i64 x.2.1, .int .i64 x.2.2])) (hg : (w2.alloc o).grownBy w3 rv.ownBlock) :
    Blk w3 ag 3 (ackc kn s.ans) ∧ Kr w b s W' v w3 ∧ rowAt w3 w.heap.size 45 3 rv' (W ++ [x]).length (flatW (W ++ [x])) := by
  have hc : Ch (fun k => rv.ownBlock = some k) w2 w3 := ((Ch.refl _ w2).alloc o).grown hg (fun k hk => .inl hk)
  refine ⟨h.ch hc (fun e => hrow.blk_ne h (by decide) e), hk.far hc (fun e => hrow.blk_ne hk.rd.blk (by decide) e) (fun k hv e => ?_) (fun k e => (hrow.lt e).1), ?_⟩
  · rcases hk.rd.own.2 with ⟨h1, _⟩ | ⟨g, cap, cur, h1, _, hh, _⟩
    · rw [h1] at hv; simp [Value.ownBlock] at hv
    · rw [h1] at hv
      have : g = k := by simpa [Value.ownBlock] using hv
      subst this
      exact hrow.blk_ne (t := 53) hh (by decide) e
  · rw [flatW_snoc, List.length_append]; exact hr
end
end Go.Proofs.Ytdbbnkibdibpkab
