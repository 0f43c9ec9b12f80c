/- serial: the map of dead places: its keys are pairs of a word and a text. -/
import Derived.Test.YtbggadhaaphmcaaDoorZt
import Derived.Test.YtbggadhaaphmcaaDoorLibMap
import Derived.DeepKeys4
namespace Go.Proofs.YtbggadhaaphmcaaDoor
open Go.Lib Go.RowKit Go.Maps Go.WideMaps
set_option linter.unusedVariables false

theorem kl_laid : laidOutB Tryd.prog = true := by kernel_rfl
theorem law133 : Keyed Tryd.prog 133 := Keyed.of_law (deep_law_laid kl_laid (m := 3) (by omega) (of_decide_eq_true (by kernel_rfl)) (by kernel_rfl) (by rw [Tryd.underlying133]))
theorem zero3_ (w : World) : (zeroValue 3).run Tryd.prog w = .ok (.int .i64 0) w := by kernel_rfl
theorem kt133 : Tryd.prog.keyType 133 = true := by kernel_rfl
theorem cells133 : Tryd.prog.cellsOf 133 = 2 := by kernel_rfl
theorem cells121 : Tryd.prog.cellsOf 121 = 1 := by kernel_rfl
theorem cells9_ : Tryd.prog.cellsOf 9 = 1 := by kernel_rfl
theorem size_types : ∃ d, Tryd.prog.types.size + 1 = d + 2 := ⟨Tryd.prog.types.size - 1, by kernel_rfl⟩
theorem lits133 (d : Nat) (a : Int) (s : ByteArray) (ha : (Lit.int .u64 a).wf = true) (hs : s.size ≤ maxLen) : ∃ k, Tryd.prog.keyLits (d + 2) 133 [.int .u64 a, .string s] = some k := by
  simp [Program.keyLits, Tryd.underlying133, Tryd.underlying121, Tryd.underlying9, cells121, cells9_, cells133, ha, hs]
def placeK (m : Int) (s : ByteArray) : Value := .agg #[.int .u64 m, .string s]
set_option maxRecDepth 100000 in
theorem place_of (m : Int) (s : ByteArray) (hm : (Lit.int .u64 m).wf = true) (hs : s.size ≤ maxLen) : ∃ kl, keyOf Tryd.prog 133 (placeK m s) = some kl := by
  obtain ⟨d, hd⟩ := size_types
  obtain ⟨k, hk⟩ := lits133 d m s hm hs
  refine ⟨.string (keyBytes k), ?_⟩
  unfold keyOf placeK
  rw [Tryd.underlying133, kt133]
  simp only [Value.formed, Tryd.underlying133, cells133, Value.cells]
  rw [hd]
  rw [hk]
  simp
/-- Block b is the map of the dead: told by f (0 where there is no entry). -/
def DMap (w : World) (b n : Nat) (D : DataW Unit) (f : Int → ByteArray → Int) : Prop :=
  w.ownsMap Tryd.prog 133 (plainElem Tryd.prog 3) b n D ∧ IsMap D ∧ ∀ x y kl, keyOf Tryd.prog 133 (placeK x y) = some kl → D.atKey kl (.lit (.int .i64 0)) = .lit (.int .i64 (f x y))
set_option maxRecDepth 100000 in
theorem dmap_made (w : World) : DMap (w.alloc (.map #[] 0)) w.heap.size 0 (.map []) (fun _ _ => 0) := ⟨World.ownsMap_made _ _ _ _, isMap_empty, fun _ _ _ _ => rfl⟩
section
variable {w w' : World} {b n : Nat} {D : DataW Unit} {f : Int → ByteArray → Int}
set_option maxRecDepth 100000 in
theorem DMap.at_ (h : DMap w b n D f) {x c : Int} {y : ByteArray} {kl : Lit} (hk : keyOf Tryd.prog 133 (placeK x y) = some kl) (hat : D.atKey kl (.lit (.int .i64 0)) = .lit (.int .i64 c)) : c = f x y := by
  have := (h.2.2 x y kl hk).symm.trans hat
  injection this with this
  injection this with _ this
  exact this.symm
set_option maxRecDepth 100000 in
theorem DMap.put (h : DMap w b n D f) {x v : Int} {y : ByteArray} {kl : Lit} (hk : keyOf Tryd.prog 133 (placeK x y) = some kl) (hown : w'.ownsMap Tryd.prog 133 (plainElem Tryd.prog 3) b (n + 1) (D.put kl (.lit (.int .i64 v)))) :
    DMap w' b (n + 1) (D.put kl (.lit (.int .i64 v))) (fun x' y' => if x' = x ∧ y' = y then v else f x' y') := by
  refine ⟨hown, h.2.1.put _ _, fun x' y' kl' hk' => ?_⟩
  by_cases hx : x' = x ∧ y' = y
  · obtain ⟨rfl, rfl⟩ := hx
    rw [hk] at hk'
    cases hk'
    rw [atKey_put_same h.2.1 (law133.key hk)]
    simp
  · rw [atKey_put_other (fun e => hx (by
      subst e
      have := law133.inj hk' hk
      unfold placeK at this
      injection this with this
      simp at this
      exact this)), h.2.2 x' y' kl' hk']
    simp [hx]
theorem DMap.ch {S : Nat → Prop} (h : DMap w b n D f) (hc : Ch S w w') (hb : ¬ S b) : DMap w' b n D f := ⟨own_map_ch h.1 hc hb, h.2⟩
theorem DMap.mono (h : DMap w b n D f) {n' : Nat} (hn : n ≤ n') : DMap w b n' D f := ⟨h.1.mono hn, h.2⟩
end
end Go.Proofs.YtbggadhaaphmcaaDoor
