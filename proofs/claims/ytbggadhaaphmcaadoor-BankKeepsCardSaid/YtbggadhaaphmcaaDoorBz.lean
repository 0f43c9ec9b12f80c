/- BankKeeps: deals, in plain words; the first account below 0; what stands apart in memory. -/
import Derived.Test.YtbggadhaaphmcaaDoorBv
import Derived.Test.YtbggadhaaphmcaaDoorOq
namespace Go.Proofs.YtbggadhaaphmcaaDoor
open Go.Lib Go.RowKit
set_option linter.unusedVariables false

def inB (K : Nat) (t : Int) : Bool := decide (0 ≤ t) && decide (t < K)
def dealR (K : Nat) (d : DealD) : Bool := decide (mayE K d.fr d.am = 0) && (d.sh || inB K d.to)
def dealG (K : Nat) (d : DealD) : List Gift := if d.sh then giftsOf (shareI K d.fr d.am) else if d.fr = d.to then [(d.fr.toNat, 0)] else [(d.fr.toNat, -d.am), (d.to.toNat, d.am)]
theorem may_in {n t s : Int} (h : mayE n t s = 0) (hn : 0 ≤ n) : inB n.toNat t = true := by
  obtain ⟨a, b, _⟩ := may_zero h
  unfold inB
  simp; omega
theorem may_other {K : Nat} {f t s : Int} (h : mayE K f s = 0) : mayE K t s = 0 ↔ inB K t = true := by
  obtain ⟨a, b, c, d, e⟩ := may_zero h
  constructor
  · intro h'
    obtain ⟨a', b', _⟩ := may_zero h'
    unfold inB
    simp; omega
  · intro h'
    unfold inB at h'
    simp at h'
    unfold mayE isB amB
    rw [if_pos (by simp; omega), if_neg (by omega)]
theorem move_right {K : Nat} {f t s : Int} : moveE K f t s = 0 ↔ (mayE K f s = 0 ∧ inB K t = true) := by
  unfold moveE
  split
  · rename_i h
    rw [may_other h]
    exact ⟨fun h' => ⟨h, h'⟩, fun h' => h'.2⟩
  · rename_i h
    exact ⟨fun h' => absurd h' h, fun h' => h'.1⟩
theorem move_gifts {K : Nat} {d : DealD} (h : moveE K d.fr d.to d.am = 0) (hs : d.sh = false) : moveL K d.fr d.to d.am = addsL (dealG K d) := by
  have h1 := (move_right.1 h)
  obtain ⟨a, b, _⟩ := may_zero h1.1
  have h2 := h1.2
  unfold inB at h2
  simp at h2
  unfold moveL dealG
  rw [if_pos h, hs]
  have e1 : ((d.fr.toNat : Nat) : Int) = d.fr := by omega
  have e2 : ((d.to.toNat : Nat) : Int) = d.to := by omega
  simp only [Bool.false_eq_true, if_false]
  split
  · show _ = [addO ((d.fr.toNat : Nat) : Int) 0]
    rw [e1]
  · show _ = [addO ((d.fr.toNat : Nat) : Int) (-d.am), addO ((d.to.toNat : Nat) : Int) d.am]
    rw [e1, e2]
theorem deal_ok {K : Nat} {d : DealD} (h : dealR K d = true) : (∀ p ∈ dealG K d, p.1 < K ∧ -10000000 ≤ p.2 ∧ p.2 ≤ 10000000) ∧ (dealG K d).length ≤ 16 ∧ sumI ((dealG K d).map (·.2)) = 0 := by
  unfold dealR at h
  rw [Bool.and_eq_true] at h
  have hm := of_decide_eq_true h.1
  obtain ⟨a, b, c, e1, e2⟩ := may_zero hm
  obtain ⟨F, hF⟩ : ∃ F : Nat, d.fr = F := ⟨d.fr.toNat, by omega⟩
  unfold dealG
  by_cases hs : d.sh = true
  · rw [if_pos hs]
    have hb := share_bound (n := K) (f := d.fr) (s := d.am) (by omega) ⟨e1, e2⟩
    have hl := shareI_len (n := K) d.fr d.am (by omega)
    refine ⟨fun p hp => ?_, by rw [gifts_len, hl]; omega, by rw [gifts_snd]; exact share_sum (by omega) a b⟩
    have := gifts_mem hp
    have h2 := hb p.2 this.2
    exact ⟨by omega, by omega, by omega⟩
  · rw [if_neg hs]
    have hs' : d.sh = false := by simpa using hs
    have h2 := h.2
    rw [hs', Bool.false_or] at h2
    unfold inB at h2
    simp at h2
    split
    · refine ⟨fun p hp => ?_, by simp, by simp [sumI]⟩
      simp at hp
      subst hp
      dsimp only
      omega
    · refine ⟨fun p hp => ?_, by simp, by simp [sumI]; omega⟩
      simp at hp
      rcases hp with rfl | rfl
      · dsimp only; omega
      · dsimp only; omega
theorem addR_set {r : List Int} {i : Nat} {x y : Int} (h : r[i]? = some y) : addR r (i, x) = r.set i (y + x) := by
  have hi := lt_of_some h
  refine List.ext_getElem? fun j => ?_
  rw [addR_get, List.getElem?_set]
  dsimp only
  by_cases e : i = j
  · subst e
    rw [if_pos rfl, if_pos rfl, if_pos hi, h]
    rfl
  · rw [if_neg e, if_neg e]
theorem adds_same {r : List Int} {f : Nat} {a y : Int} (h : r[f]? = some y) : (r.set f (y - a)).set f (y - a + a) = addsR r [(f, 0)] := by
  show _ = addR r (f, 0)
  rw [addR_set h, List.set_set]
  congr 1
  omega
theorem adds_two {r : List Int} {f t : Nat} {a y z : Int} (h : r[f]? = some y) (hft : f ≠ t) (hz : r[t]? = some z) : (r.set f (y - a)).set t (z + a) = addsR r [(f, -a), (t, a)] := by
  show _ = addR (addR r (f, -a)) (t, a)
  rw [addR_set h, addR_set (r := r.set f (y + -a)) (y := z) (by rw [List.getElem?_set_ne hft]; exact hz)]
  rfl
/-! ### The first one below 0, step by step -/
theorem poor_app : ∀ (l : List Int) (x : Int) (k : Nat), poorI (l ++ [x]) k = match poorI l k with
    | some i => some i
    | none => if x < 0 then some (k + l.length) else none
  | [], x, k => by
    unfold poorI
    by_cases h : x < 0
    · simp [h]
    · simp [h, poorI]
  | a :: l, x, k => by
    rw [List.cons_append]
    unfold poorI
    by_cases h : a < 0
    · rw [if_pos h, if_pos h]
    · rw [if_neg h, if_neg h, poor_app l x (k + 1)]
      rw [List.length_cons, show k + (l.length + 1) = k + 1 + l.length by omega]
theorem poor_step {r : List Int} {j : Nat} {x : Int} (h : r[j]? = some x) : poorI (r.take (j + 1)) 0 = if x < 0 ∧ (poorI (r.take j) 0).isSome = false then some j else poorI (r.take j) 0 := by
  have hj := lt_of_some h
  rw [List.take_succ_eq_append_getElem hj]
  rw [List.getElem?_eq_getElem hj] at h
  injection h with h
  rw [h, poor_app, List.length_take, show min j r.length = j by omega]
  rcases poorI (r.take j) 0 with _ | i
  · simp
  · simp
def fillR (K : Nat) (x : Int) (j : Nat) : List Int := List.replicate j x ++ List.replicate (K - j) 0
theorem fill_zero (K : Nat) (x : Int) : fillR K x 0 = List.replicate K 0 := by simp [fillR]
theorem fill_end (K : Nat) (x : Int) : fillR K x K = List.replicate K x := by simp [fillR]
theorem fill_at {K : Nat} {x : Int} {j : Nat} (h : j < K) : (fillR K x j)[j]? = some 0 := by
  unfold fillR
  rw [List.getElem?_append_right (by simp), List.length_replicate, Nat.sub_self, List.getElem?_replicate, if_pos (by omega)]
theorem fill_step {K : Nat} {x : Int} {j : Nat} (h : j < K) : (fillR K x j).set j x = fillR K x (j + 1) := by
  unfold fillR
  rw [List.set_append_right _ _ (by simp), List.length_replicate, Nat.sub_self, show K - j = (K - (j + 1)) + 1 by omega, List.replicate_succ, List.set_cons_zero, List.replicate_succ', List.append_assoc]
  rfl
/-! ### Apart in memory -/
theorem ops_row {w : World} {A : Option Addr} {n K R g : Nat} {l : List OpD} {row : List Value} (h : Ops w A n l) (hl : l ≠ []) (ho : w.ownsRow R 3 1 (.slice (some ⟨g, 0, none⟩) K K) K row) (hr : ∀ v ∈ row, ∀ s, v ≠ .string s) : ∃ b off, A = some ⟨b, off, none⟩ ∧ b ≠ g := by
  obtain ⟨o, hoo⟩ : ∃ o, l[0]? = some o := by
    rcases l with _ | ⟨o, r⟩
    · exact absurd rfl hl
    · exact ⟨o, rfl⟩
  obtain ⟨b, off, hA, _, h1, _⟩ := h.at_ hoo
  refine ⟨b, off, hA, ?_⟩
  rintro rfl
  rcases ho.2 with ⟨h2, _⟩ | ⟨g', cap, cur, h2, _, hh, _, _, hsz, htk⟩
  · cases h2
  · injection h2 with h2 _ hc
    injection h2 with h2
    injection h2 with h2
    subst h2 hc
    have hb : Blk w b 3 cur := hh
    rw [hb.cell] at h1
    have hlt : off + 0 * 4 + 1 < K := by
      have := Array.getElem?_eq_some_iff.1 h1
      obtain ⟨h3, _⟩ := this
      omega
    have h4 : row[off + 0 * 4 + 1]? = some (.string o.key) := by
      rw [← htk, List.getElem?_take, if_pos (by omega)]
      simpa using h1
    exact hr _ (mem_of_some h4) _ rfl
theorem rowI_str (row : List Int) : ∀ v ∈ rowI row, ∀ s, v ≠ .string s := by
  intro v hv s e
  unfold rowI at hv
  obtain ⟨x, _, rfl⟩ := List.mem_map.1 hv
  cases e
end Go.Proofs.YtbggadhaaphmcaaDoor
