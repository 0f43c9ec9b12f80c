/- A plan's map in memory; New, Get (the program's). -/
import Derived.Test.YtbggadhaaphmcaaDoorRi
import Derived.Test.YtbggadhaaphmcaaDoorLibMap
import Derived.StringKeys
import Derived.Deep.QuietTactic
namespace Go.Proofs.YtbggadhaaphmcaaDoor
open Go.RowKit Go.Maps
set_option linter.unusedVariables false

section
variable {H : Type} {P : Program} {K E : TypeId} {w w' : World} {b n : Nat} {D : DataW H} {R : Value → Option (DataW H × List MemPlace)}
theorem map_ch {S : Nat → Prop} (h : w.ownsMap P K R b n D) (hc : Ch S w w') (hb : ¬ S b) : w'.ownsMap P K R b n D := by
  have hlt := h.lt
  obtain ⟨es, clock, hbk, F, hs, hD⟩ := h
  exact ⟨es, clock, (hc.block b hlt hb).trans hbk, F, hs, hD⟩
theorem map_blk {g : Nat} {t : TypeId} {cs : Array Value} (h : w.ownsMap P K R b n D) (hg : Blk w g t cs) : b ≠ g := by
  rintro rfl
  obtain ⟨es, clock, hbk, _⟩ := h
  unfold Blk at hg
  rw [hg] at hbk
  cases hbk
theorem map_row {base : Nat} {e : TypeId} {size m : Nat} {v : Value} {xs : List Value} (h : w.ownsMap P K R b n D) (hv : w.ownsRow base e size v m xs) : v.ownBlock ≠ some b := by
  rcases hv.2 with ⟨rfl, _⟩ | ⟨g', cap, cur, rfl, _, hh, _⟩
  · simp [Value.ownBlock]
  · intro he
    have : g' = b := by simpa [Value.ownBlock] using he
    subst this
    exact map_blk (g := g') (t := e) h hh rfl
end
def RH (v : Value) : Option (DataW Value × List MemPlace) := some (.held v, [])
def encR (r : Res) : Value := .agg #[.string (vOf r), .bool (hOf r)]
theorem keyed9 : Keyed Tryd.prog 9 := string_keyed Tryd.underlying9
theorem zero45 (w : World) : (zeroValue 45).run Tryd.prog w = .ok (encR none) w := by kernel_rfl
/-- The map at a block tells f. -/
structure MP (w : World) (mb n : Nat) (D : DataW Value) (f : Has) : Prop where
  map : w.ownsMap Tryd.prog 9 RH mb n D
  at_ : ∀ k : Txt, D.atKey (.string k) (.held (encR none)) = .held (encR (f k))
  has : ∀ k : Txt, Maps.has D (.string k) = true ↔ f k ≠ none
section
variable {w w' : World} {mb n : Nat} {D : DataW Value} {f : Has}
theorem MP.isMap (h : MP w mb n D f) : IsMap D := by
  obtain ⟨es, clock, _, _, _, rfl⟩ := h.map
  exact ⟨_, rfl⟩
theorem MP.ch {S : Nat → Prop} (h : MP w mb n D f) (hc : Ch S w w') (hb : ¬ S mb) : MP w' mb n D f := ⟨map_ch h.map hc hb, h.at_, h.has⟩
theorem MP.new_ (h : MP w mb n D f) (hc : NewW w w') : MP w' mb n D f := h.ch hc fun h => h
theorem MP.mono (h : MP w mb n D f) {n' : Nat} (hn : n ≤ n') : MP w mb n' D f := ⟨h.map.mono hn, h.at_, h.has⟩
theorem MP.look (h : MP w mb n D f) {key : ByteArray} (hk : key.size ≤ maxLen) : (Instr.lookup 92 (.map (some mb)) (.string key) false).run Tryd.prog w = .ok (.agg #[.string (vOf (f key.data.toList)), .bool (hOf (f key.data.toList))]) w := by
  obtain ⟨v, ps, hrun, hv⟩ := h.map.lookup keyed9 Tryd.underlying92 (zero45 w) (zd := .held (encR none)) (zp := []) rfl (WideMaps.keyOf_string_mk Tryd.underlying9 hk)
  rw [hrun]
  rw [h.at_] at hv
  simp only [RH, Option.some.injEq, Prod.mk.injEq, DataW.held.injEq] at hv
  rw [hv.1]
  rfl
theorem MP.put (h : MP w mb n D f) {k : Txt} {v : ByteArray} (ho : w'.ownsMap Tryd.prog 9 RH mb (n + 1) (D.put (.string k) (.held (.agg #[.string v, .bool true])))) : MP w' mb (n + 1) (D.put (.string k) (.held (.agg #[.string v, .bool true]))) (putF f k (some v)) := by
  refine ⟨ho, fun j => ?_, fun j => ?_⟩
  · by_cases e : j = k
    · subst e
      rw [atKey_put_same h.isMap (by trivial), putF_same]
      rfl
    · rw [atKey_put_other (by intro e'; injection e' with e'; exact e e'), h.at_ j]
      simp [putF, e]
  · by_cases e : j = k
    · subst e
      rw [has_put_same h.isMap (by trivial), putF_same]
      simp
    · rw [has_put_other (by intro e'; injection e' with e'; exact e e'), h.has j]
      simp [putF, e]
theorem MP.del (h : MP w mb n D f) {k : Txt} (ho : w'.ownsMap Tryd.prog 9 RH mb n (D.del (.string k))) : MP w' mb n (D.del (.string k)) (putF f k none) := by
  refine ⟨ho, fun j => ?_, fun j => ?_⟩
  · by_cases e : j = k
    · subst e
      rw [atKey_del_same, putF_same]
    · rw [atKey_del_other (by intro e'; injection e' with e'; exact e e'), h.at_ j]
      simp [putF, e]
  · by_cases e : j = k
    · subst e
      rw [has_del_same, putF_same]
      simp
    · rw [has_del_other (by intro e'; injection e' with e'; exact e e'), h.has j]
      simp [putF, e]
end
/-- A plan.Map: its block, its map. -/
structure PM (w : World) (B pb mb n : Nat) (D : DataW Value) (f : Has) : Prop where
  blk : Blk w pb 94 #[.map (some mb)]
  mp : MP w mb n D f
  pB : B ≤ pb
  mB : B ≤ mb
structure KM (w0 : World) (pb n : Nat) (f : Has) (w : World) : Prop where
  pm : ∃ mb D, PM w w0.heap.size pb mb n D f
  below : Below w0.heap.size w0 w
section
variable {w0 w w' : World} {B pb mb n : Nat} {D : DataW Value} {f : Has}
theorem PM.new_ (h : PM w B pb mb n D f) (hc : NewW w w') : PM w' B pb mb n D f := ⟨h.blk.ch hc (fun h => h), h.mp.new_ hc, h.pB, h.mB⟩
theorem PM.c0 (h : PM w B pb mb n D f) : w.cell? ⟨pb, 0, none⟩ = some (.map (some mb)) := by rw [h.blk.cell]; rfl
theorem KM.new_ (h : KM w0 pb n f w) (hc : NewW w w') : KM w0 pb n f w' := by
  obtain ⟨mb, D, hm⟩ := h.pm
  exact ⟨⟨mb, D, hm.new_ hc⟩, Ch.below h.below hc (fun _ h => h.elim) h.below.size⟩
theorem KM.ch {S : Nat → Prop} (h : KM w0 pb n f w) (hc : Ch S w w') (hS : ∀ g, S g → w0.heap.size ≤ g) (h1 : ¬ S pb) (h2 : ∀ g es cl, w.heap[g]? = some (.map es cl) → ¬ S g) : KM w0 pb n f w' := by
  obtain ⟨mb, D, hm⟩ := h.pm
  have hmb : ¬ S mb := by
    obtain ⟨es, clock, hb, _⟩ := hm.mp.map
    exact h2 _ _ _ hb
  exact ⟨⟨mb, D, hm.blk.ch hc h1, hm.mp.ch hc hmb, hm.pB, hm.mB⟩, Ch.below h.below hc hS h.below.size⟩
theorem KM.size (h : KM w0 pb n f w) : w0.heap.size ≤ w.heap.size := h.below.size
end
theorem km_new (w0 w : World) (hb : Below w0.heap.size w0 w) : Calls Tryd.prog 15 #[] w fun e w' => e = .returned (.pointer (some ⟨w.heap.size + 1, 0, none⟩)) ∧ KM w0 (w.heap.size + 1) 0 none0 w' ∧ NewW w w' := by
  have hmm := @run_makeMap Tryd.prog
  have hsz := hb.size
  have HX := Lib.hid (show KM w0 (w.heap.size + 1) 0 none0 ((w.alloc (.map #[] 0)).alloc (.cells #[.map (some w.heap.size)] 94)) from by
    refine ⟨⟨w.heap.size, .map [], ⟨?_, ⟨(World.ownsMap_made w _ _ _).alloc _, fun _ => rfl, fun k => by simp [none0, Maps.has]⟩, by omega, hsz⟩⟩, Ch.below hb ((((Ch.refl (fun _ => False) w).alloc (.map #[] 0)).alloc (.cells #[.map (some w.heap.size)] 94))) (fun _ h => h.elim) hsz⟩
    have := Blk.new (w.alloc (.map #[] 0)) 94 #[.map (some w.heap.size)]
    rwa [World.size_alloc] at this)
  go_enter Tryd.func15, Tryd.ntmps15
  go_wp2
  go_ret
  exact ⟨by simp, HX.out, (Ch.refl _ w).alloc _ |>.alloc _⟩
/-- Get. -/
theorem get_any {w0 w : World} {pb n : Nat} {f : Has} (h : KM w0 pb n f w) {key : ByteArray} (hk : key.size ≤ 1000) :
    Calls Tryd.prog 23 #[.pointer (some ⟨pb, 0, none⟩), .string key] w fun e w' => e = .returned (.tuple #[.string (vOf (f key.data.toList)), .bool (hOf (f key.data.toList))]) ∧ NewW w w' := by
  obtain ⟨mb, D, hm⟩ := h.pm
  have hlk := hm.mp.look (key := key) (by unfold maxLen; omega)
  have c0 := hm.c0
  generalize vOf (f key.data.toList) = V at *
  generalize hOf (f key.data.toList) = HB at *
  have BX := Blk.new w 45 #[.string V, .bool HB]
  have x0 := BX.cell 0
  have x1 := BX.cell 1
  clear h hm
  go_enter Tryd.func23, Tryd.ntmps23
  go_wp2_with fail
  go_quiet (fail)
  go_wp2_with fail
  go_ret2
  exact ⟨rfl, ((Ch.refl _ w).alloc _).drewN _⟩
end Go.Proofs.YtbggadhaaphmcaaDoor
