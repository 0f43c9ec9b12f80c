/- Versions of keys, in plain words. No program is spoken of. -/
import Derived.Test.YtfcdplfnhjbdnaaLib
import Derived.Test.YtfcdplfnhjbdnaaLibRows
namespace Go.Proofs.Ytfcdplfnhjbdnaa
open Go.RowKit
set_option linter.unusedVariables false

/-- A version: its moment, its value, whether there is one. -/
structure Ver where
  t : Int
  val : ByteArray
  has : Bool
deriving DecidableEq
def flatV (l : List Ver) : List Value := l.flatMap fun v => [.int .i64 v.t, .string v.val, .bool v.has]
theorem flatV_len (l : List Ver) : (flatV l).length = l.length * 3 := flat_len (m := 3) (fun _ _ => rfl)
theorem flatV_snoc (l : List Ver) (v : Ver) : flatV (l ++ [v]) = flatV l ++ [.int .i64 v.t, .string v.val, .bool v.has] := by simp [flatV]
theorem flatV_get (l : List Ver) {i : Nat} {v : Ver} (h : l[i]? = some v) : (flatV l)[i * 3]? = some (.int .i64 v.t) ∧ (flatV l)[i * 3 + 1]? = some (.string v.val) ∧ (flatV l)[i * 3 + 2]? = some (.bool v.has) := by
  refine ⟨?_, ?_, ?_⟩
  · have := flat_get (f := fun v : Ver => [Value.int .i64 v.t, .string v.val, .bool v.has]) (m := 3) (fun _ _ => rfl) h (j := 0) (by omega); simpa [flatV] using this
  · have := flat_get (f := fun v : Ver => [Value.int .i64 v.t, .string v.val, .bool v.has]) (m := 3) (fun _ _ => rfl) h (j := 1) (by omega); simpa [flatV] using this
  · have := flat_get (f := fun v : Ver => [Value.int .i64 v.t, .string v.val, .bool v.has]) (m := 3) (fun _ _ => rfl) h (j := 2) (by omega); simpa [flatV] using this
theorem flatV_drop (l : List Ver) (k : Nat) : (flatV l).drop (k * 3) = flatV (l.drop k) := by
  induction k generalizing l with
  | zero => simp
  | succ k ih =>
    cases l with
    | nil => simp [flatV]
    | cons x r =>
      have : flatV (x :: r) = [.int .i64 x.t, .string x.val, .bool x.has] ++ flatV r := by simp [flatV]
      rw [this, List.drop_succ_cons, ← ih r, Nat.add_mul, Nat.one_mul, Nat.add_comm (k * 3) 3, ← List.drop_drop]
      rfl
theorem flatV_take (l : List Ver) (k : Nat) : (flatV l).take (k * 3) = flatV (l.take k) := by
  induction k generalizing l with
  | zero => simp [flatV]
  | succ k ih =>
    cases l with
    | nil => simp [flatV]
    | cons x r =>
      have h1 : flatV (x :: r) = .int .i64 x.t :: .string x.val :: .bool x.has :: flatV r := by simp [flatV]
      have h2 : flatV (x :: r.take k) = .int .i64 x.t :: .string x.val :: .bool x.has :: flatV (r.take k) := by simp [flatV]
      rw [List.take_succ_cons, h1, h2, ← ih r, Nat.add_mul, Nat.one_mul]
      rfl
theorem flatV_one (l : List Ver) : ∀ u ∈ flatV l, u.oneCell' = true := by
  intro u hu
  obtain ⟨x, _, hx⟩ := List.mem_flatMap.1 hu
  simp at hx
  rcases hx with rfl | rfl | rfl <;> rfl

/-- How many versions aren't later than a moment. -/
def upN (l : List Ver) (m : Int) : Nat := l.countP fun v => decide (v.t ≤ m)
theorem upN_le (l : List Ver) (m : Int) : upN l m ≤ l.length := List.countP_le_length
/-- What a row tells of a moment. -/
def valOf (l : List Ver) (m : Int) : ByteArray × Bool := if upN l m = 0 then (ByteArray.empty, false) else match l[upN l m - 1]? with
  | some v => (v.val, v.has)
  | none => (ByteArray.empty, false)
/-- How many of the first versions a floor takes. -/
def goneK (o : Option Ver) (k : Nat) (m : Int) : Nat := match o with
  | some v => if v.has = false ∧ v.t ≤ m then k + 1 else k
  | none => k
def goneN (l : List Ver) (m : Int) : Nat := goneK l[upN l m - 1]? (upN l m - 1) m
theorem goneN_le (l : List Ver) (m : Int) : goneN l m ≤ l.length := by
  have := upN_le l m
  unfold goneN goneK
  rcases h : l[upN l m - 1]? with _ | v
  · simp; omega
  · have hl := lt_of_some h
    simp only
    split <;> omega
theorem range_countP {α : Type} (p : α → Bool) : ∀ (l : List α) (q : Nat → Bool), (∀ i v, l[i]? = some v → q i = p v) → (List.range l.length).countP q = l.countP p
  | [], q, h => rfl
  | x :: r, q, h => by
    rw [List.length_cons, List.range_succ_eq_map, List.countP_cons, List.countP_cons, List.countP_map, h 0 x rfl]
    rw [range_countP p r (q ∘ Nat.succ) (fun i v hv => h (i + 1) v (by simpa using hv))]
/-- In a rising row those that aren't later stand first. -/
theorem rise_up {l : List Ver} (h : l.Pairwise fun a b => a.t < b.t) (m : Int) {i : Nat} {v : Ver} (hv : l[i]? = some v) : i < upN l m ↔ v.t ≤ m := by
  induction l generalizing i with
  | nil => simp at hv
  | cons x r ih =>
    have hp := List.pairwise_cons.1 h
    unfold upN at ih ⊢
    rw [List.countP_cons]
    rcases i with _ | i
    · simp at hv
      subst hv
      by_cases hx : x.t ≤ m
      · simp [hx]
      · have : r.countP (fun v => decide (v.t ≤ m)) = 0 := by
          rw [List.countP_eq_zero]
          intro y hy
          have := hp.1 y hy
          simp; omega
        simp [hx, this]
    · have hv' : r[i]? = some v := by simpa using hv
      have := ih hp.2 hv'
      have hlt := hp.1 v (List.mem_of_getElem? hv')
      by_cases hx : x.t ≤ m
      · simp only [hx, decide_true, if_true]
        omega
      · have h0 : ¬ v.t ≤ m := by omega
        simp only [hx, decide_false]
        simp
        omega

structure CS where
  f : List UInt8 → List Ver
  last : Int
  floor : Int
def maxClock : Int := 1099511627776
def updF (f : List UInt8 → List Ver) (k : List UInt8) (l : List Ver) : List UInt8 → List Ver := fun j => if j = k then l else f j
/-- A row without a last version of the moment. -/
def cutAt (l : List Ver) (m : Int) : List Ver := match l.getLast? with
  | some v => if v.t = m then l.dropLast else l
  | none => l
def putE (s : CS) (k v : ByteArray) (m : Int) : Int := if 16 < k.size ∨ 32 < v.size ∨ m < 0 ∨ maxClock < m then 1 else if m < s.last ∨ m ≤ s.floor then 5 else 0
def putV (v : ByteArray) (has : Bool) (m : Int) : Ver := ⟨m, if has then v else ⟨#[]⟩, has⟩
def putS (s : CS) (k v : ByteArray) (has : Bool) (m : Int) : CS := if putE s k v m = 0 then { s with f := updF s.f k.data.toList (cutAt (s.f k.data.toList) m ++ [putV v has m]), last := m } else s
structure Good (s : CS) : Prop where
  rise : ∀ k, (s.f k).Pairwise fun a b => a.t < b.t
  ver : ∀ k, ∀ v ∈ s.f k, 0 ≤ v.t ∧ v.t ≤ s.last
  l0 : 0 ≤ s.last
  l1 : s.last ≤ maxClock
  f0 : 0 ≤ s.floor
  f1 : s.floor ≤ maxClock
def emptyS : CS := ⟨fun _ => [], 0, 0⟩
theorem good_empty : Good emptyS := ⟨fun _ => List.Pairwise.nil, fun _ _ h => by simp [emptyS] at h, Int.le_refl 0, by simp [emptyS, maxClock], Int.le_refl 0, by simp [emptyS, maxClock]⟩
end Go.Proofs.Ytfcdplfnhjbdnaa
