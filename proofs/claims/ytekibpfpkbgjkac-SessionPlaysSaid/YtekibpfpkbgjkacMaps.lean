/- Maps whose keys are pairs of ints: the key's law, and a map told by a function. -/
import Derived.Test.YtekibpfpkbgjkacRows
import Derived.Test.YtekibpfpkbgjkacLibMap
import Derived.DeepKeys4
namespace Go.Proofs.Ytekibpfpkbgjkac
open Go.RowKit Go.Maps Go.WideMaps
set_option linter.unusedVariables false

theorem kl_laid : laidOutB Try.prog = true := by kernel_rfl
theorem law46 : Keyed Try.prog 46 := Keyed.of_law (deep_law_laid kl_laid (m := 3) (by omega) (of_decide_eq_true (by kernel_rfl)) (by kernel_rfl) (by rw [Try.underlying46]))
theorem zero3 (w : World) : (zeroValue 3).run Try.prog w = .ok (.int .i64 0) w := by kernel_rfl
theorem kt46 : Try.prog.keyType 46 = true := by kernel_rfl
theorem cells46 : Try.prog.cellsOf 46 = 2 := by kernel_rfl
theorem cells3 : Try.prog.cellsOf 3 = 1 := by kernel_rfl
theorem size_types : ∃ d, Try.prog.types.size + 1 = d + 2 := ⟨Try.prog.types.size - 1, by kernel_rfl⟩
theorem lits (d : Nat) (a b : Int) (ha : (Lit.int .i64 a).wf = true) (hb : (Lit.int .i64 b).wf = true) : Try.prog.keyLits (d + 2) 46 [.int .i64 a, .int .i64 b] = some [.int .i64 a, .int .i64 b] := by
  simp [Program.keyLits, Try.underlying46, Try.underlying3, cells46, cells3, ha, hb]

def pairKey (a b : Int) : Value := .agg #[.int .i64 a, .int .i64 b]
theorem key_of (a b : Int) (ha : (Lit.int .i64 a).wf = true) (hb : (Lit.int .i64 b).wf = true) : ∃ kl, keyOf Try.prog 46 (pairKey a b) = some kl := by
  refine ⟨.string (keyBytes [.int .i64 a, .int .i64 b]), ?_⟩
  unfold keyOf pairKey
  rw [Try.underlying46, kt46]
  simp only [Value.formed, Try.underlying46, cells46, Value.cells]
  obtain ⟨d, hd⟩ := size_types
  rw [hd]
  rw [lits d a b ha hb]
  simp

/-- Block b is a map of at most n entries, told by f (0 where there is no entry). -/
def KMap (w : World) (b n : Nat) (D : DataW Unit) (f : Int → Int → Int) : Prop :=
  w.ownsMap Try.prog 46 (plainElem Try.prog 3) b n D ∧ IsMap D ∧ ∀ x y kl, keyOf Try.prog 46 (pairKey x y) = some kl → D.atKey kl (.lit (.int .i64 0)) = .lit (.int .i64 (f x y))
theorem kmap_made (w : World) : KMap (w.alloc (.map #[] 0)) w.heap.size 0 (.map []) (fun _ _ => 0) := ⟨World.ownsMap_made _ _ _ _, isMap_empty, fun _ _ _ _ => rfl⟩
section
variable {w w' : World} {b n : Nat} {D : DataW Unit} {f : Int → Int → Int}
theorem KMap.at_ (h : KMap w b n D f) {x y c : Int} {kl : Lit} (hk : keyOf Try.prog 46 (pairKey x y) = some kl) (hat : D.atKey kl (.lit (.int .i64 0)) = .lit (.int .i64 c)) : c = f x y := by
  have := (h.2.2 x y kl hk).symm.trans hat
  injection this with this
  injection this with _ this
  exact this.symm
theorem KMap.put (h : KMap w b n D f) {x y v : Int} {kl : Lit} (hk : keyOf Try.prog 46 (pairKey x y) = some kl) (hown : w'.ownsMap Try.prog 46 (plainElem Try.prog 3) b (n + 1) (D.put kl (.lit (.int .i64 v)))) :
    KMap w' b (n + 1) (D.put kl (.lit (.int .i64 v))) (fun x' y' => if x' = x ∧ y' = y then v else f x' y') := by
  refine ⟨hown, h.2.1.put _ _, fun x' y' kl' hk' => ?_⟩
  by_cases hx : x' = x ∧ y' = y
  · obtain ⟨rfl, rfl⟩ := hx
    rw [hk] at hk'
    cases hk'
    rw [atKey_put_same h.2.1 (law46.key hk)]
    simp
  · rw [atKey_put_other (fun e => hx (by
      subst e
      have := law46.inj hk' hk
      unfold pairKey at this
      injection this with this
      simp at this
      exact this)), h.2.2 x' y' kl' hk']
    simp [hx]
theorem KMap.ch {S : Nat → Prop} (h : KMap w b n D f) (hc : Ch S w w') (hb : ¬ S b) : KMap w' b n D f := ⟨own_map_ch h.1 hc hb, h.2⟩
theorem KMap.mono (h : KMap w b n D f) {n' : Nat} (hn : n ≤ n') : KMap w b n' D f := ⟨h.1.mono hn, h.2⟩
end
end Go.Proofs.Ytekibpfpkbgjkac
