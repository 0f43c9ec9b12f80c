/- General words for maps of the call's own, their keys and elements ints, told by a function. No program is spoken of. -/
import Derived.Test.YtbggadhaaphmcaaDoorLib
import Derived.Maps.Own
import Derived.Maps.OwnOps
import Derived.Maps.Views
namespace Go.Proofs.YtbggadhaaphmcaaDoor
open Go.RowKit Go.Maps
set_option linter.unusedVariables false

/-- Block b is a map of at most n entries, told by f (0 where there is no entry). -/
def IMap (P : Program) (K E : TypeId) (w : World) (b n : Nat) (D : DataW Unit) (f : Int → Int) : Prop :=
  w.ownsMap P K (plainElem P E) b n D ∧ IsMap D ∧ ∀ x, D.atKey (.int .i64 x) (.lit (.int .i64 0)) = .lit (.int .i64 (f x))

section
variable {P : Program} {K E : TypeId} {w w' : World} {b n : Nat} {D : DataW Unit} {f : Int → Int}
theorem imap_made (w : World) (P : Program) (K E : TypeId) : IMap P K E (w.alloc (.map #[] 0)) w.heap.size 0 (.map []) (fun _ => 0) :=
  ⟨World.ownsMap_made _ _ _ _, isMap_empty, fun _ => rfl⟩
theorem IMap.at_ (h : IMap P K E w b n D f) {x c : Int} (hat : D.atKey (.int .i64 x) (.lit (.int .i64 0)) = .lit (.int .i64 c)) : c = f x := by
  have := (h.2.2 x).symm.trans hat
  injection this with this
  injection this with _ this
  exact this.symm
theorem IMap.put (h : IMap P K E w b n D f) {k v : Int} (hown : w'.ownsMap P K (plainElem P E) b (n + 1) (D.put (.int .i64 k) (.lit (.int .i64 v)))) :
    IMap P K E w' b (n + 1) (D.put (.int .i64 k) (.lit (.int .i64 v))) (fun x => if x = k then v else f x) := by
  refine ⟨hown, h.2.1.put _ _, fun x => ?_⟩
  by_cases hx : x = k
  · subst hx
    rw [atKey_put_same h.2.1 (by trivial)]
    simp
  · rw [atKey_put_other (by intro e; injection e with _ e; exact hx e), h.2.2 x]
    simp [hx]
theorem own_map_ch {S : Nat → Prop} {R : Value → Option (DataW Unit × List MemPlace)} (h : w.ownsMap P K R b n D) (hc : Ch S w w') (hb : ¬ S b) : w'.ownsMap P K R b n D := by
  have hlt := h.lt
  obtain ⟨es, clock, hbk, F, hs, hD⟩ := h
  exact ⟨es, clock, (hc.block b hlt hb).trans hbk, F, hs, hD⟩
theorem IMap.ch {S : Nat → Prop} (h : IMap P K E w b n D f) (hc : Ch S w w') (hb : ¬ S b) : IMap P K E w' b n D f := ⟨own_map_ch h.1 hc hb, h.2⟩
theorem IMap.mono (h : IMap P K E w b n D f) {n' : Nat} (hn : n ≤ n') : IMap P K E w b n' D f := ⟨h.1.mono hn, h.2⟩
theorem map_blk_ne {R : Value → Option (DataW Unit × List MemPlace)} (h : w.ownsMap P K R b n D) {g : Nat} {t : TypeId} {cs : Array Value} (hg : Blk w g t cs) : b ≠ g := by
  rintro rfl
  obtain ⟨es, clock, hbk, _⟩ := h
  unfold Blk at hg
  rw [hg] at hbk
  cases hbk
theorem own_map_ne {R : Value → Option (DataW Unit × List MemPlace)} (h : w.ownsMap P K R b n D) {base : Nat} {e : TypeId} {size m : Nat} {v : Value} {xs : List Value} (hv : w.ownsRow base e size v m xs) : v.ownBlock ≠ some b := by
  rcases hv.2 with ⟨rfl, _⟩ | ⟨g', cap, cur, rfl, _, hh, _⟩
  · simp [Value.ownBlock]
  · intro he
    have : g' = b := by simpa [Value.ownBlock] using he
    subst this
    exact map_blk_ne (g := g') (t := e) h hh rfl
end
/-- A list told by a function, one place turned. -/
theorem map_range_set {α : Type} (g : Nat → α) (n i : Nat) (u : α) : ((List.range n).map g).set i u = (List.range n).map (fun j => if j = i then u else g j) := by
  apply List.ext_getElem?
  intro j
  rw [List.getElem?_set]
  by_cases hj : j < n
  · by_cases h : i = j
    · subst h; simp [hj]
    · have h' : ¬ j = i := fun e => h e.symm
      simp [h, hj, h']
  · have hj' : n ≤ j := by omega
    by_cases h : i = j
    · subst h; simp [hj]
    · simp [h, hj']
end Go.Proofs.YtbggadhaaphmcaaDoor
