/- What plans do, in plain words: operations, results, what the keys have. No program is spoken of. -/
import Derived.Test.YtbggadhaaphmcaaDoorNm
import Derived.Test.YtbggadhaaphmcaaDoorLib
import Derived.Test.YtbggadhaaphmcaaDoorLibRows
import Derived.Laws.Strings
namespace Go.Proofs.YtbggadhaaphmcaaDoor
open Go.Lib Go.RowKit
set_option linter.unusedVariables false

abbrev Txt := List UInt8
structure OpD where
  k : Int
  key : ByteArray
  val : ByteArray
  n : Int
/-- A result: the text, where there is one. -/
abbrev Res := Option ByteArray
def emp : ByteArray := ⟨#[]⟩
def mkT (l : Txt) : ByteArray := ⟨l.toArray⟩
def vOf (r : Res) : ByteArray := r.getD emp
def hOf (r : Res) : Bool := r.isSome
theorem vOf_none : vOf none = emp := rfl
theorem vOf_some (v : ByteArray) : vOf (some v) = v := rfl
theorem hOf_none : hOf none = false := rfl
theorem hOf_some (v : ByteArray) : hOf (some v) = true := rfl
def clampI (n : Int) : Int := min (max n (-1125899906842624)) 1125899906842624
theorem clamp_bound (n : Int) : -1125899906842624 ≤ clampI n ∧ clampI n ≤ 1125899906842624 := by unfold clampI; omega
def txt (n : Int) : ByteArray := mkT (itoa n)
theorem txt_data (n : Int) : (txt n).data.toList = itoa n := by simp [txt, mkT]
noncomputable def numR (s : ByteArray) : Int := numOf s.data.toList
theorem numR_bound (s : ByteArray) : -1125899906842624 ≤ numR s ∧ numR s ≤ 1125899906842624 := numOf_bound _
noncomputable def sumOf (o : OpD) (has : Res) : Int := clampI (numR (vOf has) + clampI o.n)
noncomputable def stepW (o : OpD) (has last : Res) : Res :=
  if o.k = 2 then some o.val else if o.k = 4 then last else if o.k = 5 then some (txt (sumOf o has)) else none
noncomputable def stepR (o : OpD) (has last : Res) : Res :=
  if o.k = 5 then some (txt (sumOf o has)) else if 1 ≤ o.k ∧ o.k ≤ 4 then has else none
def wrB (o : OpD) : Bool := decide (2 ≤ o.k) && decide (o.k ≤ 5)
/-- May an operation be? -/
def okB (o : OpD) : Bool := (o.k == 6) || (((o.k == 1) || (o.k == 3) || (o.k == 4) || ((o.k == 2) && decide (o.val.size ≤ 32)) || ((o.k == 5) && (decide (-1125899906842624 ≤ o.n) && decide (o.n ≤ 1125899906842624)))) && (decide (0 < o.key.size) && decide (o.key.size ≤ 16)))
def rightE (l : List OpD) : Int := if 16 < l.length then 4 else if l.all okB then 0 else 1
def abortB (l : List OpD) : Bool := l.any (fun o => o.k == 6)
abbrev Has := Txt → Res
def none0 : Has := fun _ => none
def putF (f : Has) (k : Txt) (r : Res) : Has := fun x => if x = k then r else f x
structure Rs where
  f : Has
  last : Res
  out : List Res
noncomputable def stepS (s : Rs) (o : OpD) : Rs :=
  ⟨if wrB o then putF s.f o.key.data.toList (stepW o (s.f o.key.data.toList) s.last) else s.f, stepR o (s.f o.key.data.toList) s.last, s.out ++ [stepR o (s.f o.key.data.toList) s.last]⟩
noncomputable def runS (f : Has) (l : List OpD) : Rs := l.foldl stepS ⟨f, none, []⟩
theorem runS_nil (f : Has) : runS f [] = ⟨f, none, []⟩ := rfl
theorem runS_snoc (f : Has) (l : List OpD) (o : OpD) : runS f (l ++ [o]) = stepS (runS f l) o := by simp [runS]
theorem runS_take (f : Has) {l : List OpD} {i : Nat} {o : OpD} (h : l[i]? = some o) : runS f (l.take (i + 1)) = stepS (runS f (l.take i)) o := by
  have hi := lt_of_some h
  rw [List.take_succ_eq_append_getElem hi, runS_snoc]
  congr 1
  rw [List.getElem?_eq_getElem hi] at h
  injection h
def goodB (l : List OpD) : Bool := (rightE l == 0) && !abortB l
noncomputable def runO (f : Has) (l : List OpD) : List Res := if goodB l then (runS f l).out else []
noncomputable def runF (f : Has) (l : List OpD) : Has := if goodB l then (runS f l).f else f
theorem runS_len (f : Has) (l : List OpD) : (runS f l).out.length = l.length := by
  have : ∀ (l : List OpD) (s : Rs), (l.foldl stepS s).out.length = s.out.length + l.length := by
    intro l
    induction l with
    | nil => intro s; rfl
    | cons o r ih => intro s; rw [List.foldl_cons, ih]; simp [stepS]; omega
  have h := this l ⟨f, none, []⟩
  unfold runS
  rw [h]
  simp
theorem runO_len (f : Has) (l : List OpD) : (runO f l).length = if goodB l then l.length else 0 := by
  unfold runO
  split
  · exact runS_len f l
  · rfl
theorem good_len {l : List OpD} (h : goodB l = true) : l.length ≤ 16 := by
  simp only [goodB, Bool.and_eq_true, beq_iff_eq] at h
  have := h.1
  unfold rightE at this
  split at this
  · cases this
  · omega
theorem run_bad {f : Has} {l : List OpD} (h : goodB l = false) : runO f l = [] ∧ runF f l = f := by
  unfold runO runF
  rw [h]
  exact ⟨rfl, rfl⟩
theorem run_good {f : Has} {l : List OpD} (h : goodB l = true) : runO f l = (runS f l).out ∧ runF f l = (runS f l).f := by
  unfold runO runF
  rw [h]
  exact ⟨rfl, rfl⟩
/-! ### Equality of texts -/
theorem str_eq {a b : ByteArray} : a.toList = b.toList ↔ a = b := by
  constructor
  · intro h
    rw [ByteArray.toList_eq, ByteArray.toList_eq] at h
    cases a; cases b
    simp at h
    subst h
    rfl
  · rintro rfl; rfl
/-! ### Rows in memory -/
def flatO (l : List OpD) : List Value := l.flatMap fun o => [.int .i64 o.k, .string o.key, .string o.val, .int .i64 o.n]
def flatR (l : List Res) : List Value := l.flatMap fun r => [.string (vOf r), .bool (hOf r)]
def flatW (l : List (ByteArray × ByteArray)) : List Value := l.flatMap fun w => [.string w.1, .string w.2, .bool true]
theorem flatO_len (l : List OpD) : (flatO l).length = l.length * 4 := flat_len (m := 4) (fun _ _ => rfl)
theorem flatR_len (l : List Res) : (flatR l).length = l.length * 2 := flat_len (m := 2) (fun _ _ => rfl)
theorem flatW_len (l : List (ByteArray × ByteArray)) : (flatW l).length = l.length * 3 := flat_len (m := 3) (fun _ _ => rfl)
theorem flatO_snoc (l : List OpD) (o : OpD) : flatO (l ++ [o]) = flatO l ++ [.int .i64 o.k, .string o.key, .string o.val, .int .i64 o.n] := by simp [flatO]
theorem flatR_snoc (l : List Res) (r : Res) : flatR (l ++ [r]) = flatR l ++ [.string (vOf r), .bool (hOf r)] := by simp [flatR]
theorem flatW_snoc (l : List (ByteArray × ByteArray)) (w : ByteArray × ByteArray) : flatW (l ++ [w]) = flatW l ++ [.string w.1, .string w.2, .bool true] := by simp [flatW]
theorem flatO_get {l : List OpD} {i : Nat} {o : OpD} (h : l[i]? = some o) : (flatO l)[i * 4]? = some (.int .i64 o.k) ∧ (flatO l)[i * 4 + 1]? = some (.string o.key) ∧ (flatO l)[i * 4 + 2]? = some (.string o.val) ∧ (flatO l)[i * 4 + 3]? = some (.int .i64 o.n) := by
  have g := fun j hj => flat_get (f := fun o : OpD => [Value.int .i64 o.k, .string o.key, .string o.val, .int .i64 o.n]) (m := 4) (fun _ _ => rfl) h (j := j) hj
  exact ⟨g 0 (by omega), g 1 (by omega), g 2 (by omega), g 3 (by omega)⟩
theorem flatR_get {l : List Res} {i : Nat} {r : Res} (h : l[i]? = some r) : (flatR l)[i * 2]? = some (.string (vOf r)) ∧ (flatR l)[i * 2 + 1]? = some (.bool (hOf r)) := by
  have g := fun j hj => flat_get (f := fun r : Res => [Value.string (vOf r), .bool (hOf r)]) (m := 2) (fun _ _ => rfl) h (j := j) hj
  exact ⟨g 0 (by omega), g 1 (by omega)⟩
theorem flatW_get {l : List (ByteArray × ByteArray)} {i : Nat} {w : ByteArray × ByteArray} (h : l[i]? = some w) : (flatW l)[i * 3]? = some (.string w.1) ∧ (flatW l)[i * 3 + 1]? = some (.string w.2) ∧ (flatW l)[i * 3 + 2]? = some (.bool true) := by
  have g := fun j hj => flat_get (f := fun w : ByteArray × ByteArray => [Value.string w.1, .string w.2, .bool true]) (m := 3) (fun _ _ => rfl) h (j := j) hj
  exact ⟨g 0 (by omega), g 1 (by omega), g 2 (by omega)⟩
def NewW (w w' : World) : Prop := Ch (fun _ => False) w w'
/-- A slice's cells, wherever they lie. -/
def Rd (w : World) (A : Option Addr) (xs : List Value) : Prop := xs ≠ [] → ∃ b off, A = some ⟨b, off, none⟩ ∧ b < w.heap.size ∧ ∀ i v, xs[i]? = some v → w.cell? ⟨b, off + i, none⟩ = some v
section
variable {w w' w0 : World} {A : Option Addr} {xs : List Value}
theorem ch_cell (h : NewW w w') {a : Addr} (ha : a.block < w.heap.size) : w'.cell? a = w.cell? a := World.cell?_of_block (h.block a.block ha (fun h => h))
theorem lt_cell {b o : Nat} {s : Option Nat} {v : Value} (h : w.cell? ⟨b, o, s⟩ = some v) : b < w.heap.size := by
  unfold World.cell? at h
  split at h
  · rename_i c e f hb
    exact lt_of_block hb
  · cases h
theorem new_cell (h : NewW w w') {b o : Nat} {s : Option Nat} {v : Value} (ha : w.cell? ⟨b, o, s⟩ = some v) : w'.cell? ⟨b, o, s⟩ = some v :=
  (ch_cell h (a := ⟨b, o, s⟩) (lt_cell ha)).trans ha
theorem Rd.nil_ (w : World) (A : Option Addr) : Rd w A [] := fun h => absurd rfl h
theorem Rd.new_ (h : Rd w A xs) (hc : NewW w w') : Rd w' A xs := fun hn => by
  obtain ⟨b, off, hA, hb, hcell⟩ := h hn
  exact ⟨b, off, hA, Nat.lt_of_lt_of_le hb hc.size, fun i v hv => new_cell hc (hcell i v hv)⟩
theorem Rd.below (h : Rd w0 A xs) (hb : Below w0.heap.size w0 w) : Rd w A xs := fun hn => by
  obtain ⟨b, off, hA, hlt, hcell⟩ := h hn
  exact ⟨b, off, hA, Nat.lt_of_lt_of_le hlt hb.size, fun i v hv => (hb.cell (p := ⟨b, off + i, none⟩) hlt).trans (hcell i v hv)⟩
theorem Rd.ch {S : Nat → Prop} (h : Rd w A xs) (hc : Ch S w w') (hS : ∀ b off, A = some ⟨b, off, none⟩ → ¬ S b) : Rd w' A xs := fun hn => by
  obtain ⟨b, off, hA, hlt, hcell⟩ := h hn
  exact ⟨b, off, hA, Nat.lt_of_lt_of_le hlt hc.size, fun i v hv => (World.cell?_of_block (a := ⟨b, off + i, none⟩) (hc.block b hlt (hS b off hA))).trans (hcell i v hv)⟩
theorem Rd.own {B : Nat} {e : TypeId} {size n c : Nat} (h : w.ownsRow B e size (.slice A n c) n xs) : Rd w A xs := fun hn => by
  have hpos : 0 < n := by
    have := h.1
    rcases Nat.eq_zero_or_pos n with h0 | h0
    · subst h0
      exact absurd (List.eq_nil_of_length_eq_zero (by simpa using this)) hn
    · exact h0
  obtain ⟨g, cap, hv, _, hlt⟩ := h.form hpos
  injection hv with hA
  subst hA
  refine ⟨g, 0, rfl, hlt, fun i v hv => ?_⟩
  have := h.cells (g := g) rfl i v hv
  have e : (⟨g, 0, none⟩ : Addr).add i = ⟨g, 0 + i, none⟩ := by unfold Addr.add; split <;> simp_all
  rwa [e] at this
theorem ne_of_get {α : Type} {l : List α} {i : Nat} {x : α} (h : l[i]? = some x) : l ≠ [] := fun e => by rw [e] at h; simp at h
end
/-- A plan's operations in memory. -/
def Ops (w : World) (A : Option Addr) (n : Nat) (l : List OpD) : Prop := l.length = n ∧ Rd w A (flatO l)
def Ress (w : World) (A : Option Addr) (n : Nat) (l : List Res) : Prop := l.length = n ∧ Rd w A (flatR l)
def Wrs (w : World) (A : Option Addr) (n : Nat) (l : List (ByteArray × ByteArray)) : Prop := l.length = n ∧ Rd w A (flatW l)
section
variable {w w' w0 : World} {A : Option Addr} {n : Nat}
theorem Ops.new_ {l : List OpD} (h : Ops w A n l) (hc : NewW w w') : Ops w' A n l := ⟨h.1, h.2.new_ hc⟩
theorem Ops.below {l : List OpD} (h : Ops w0 A n l) (hb : Below w0.heap.size w0 w) : Ops w A n l := ⟨h.1, h.2.below hb⟩
theorem Ress.new_ {l : List Res} (h : Ress w A n l) (hc : NewW w w') : Ress w' A n l := ⟨h.1, h.2.new_ hc⟩
theorem Wrs.new_ {l : List (ByteArray × ByteArray)} (h : Wrs w A n l) (hc : NewW w w') : Wrs w' A n l := ⟨h.1, h.2.new_ hc⟩
theorem Ops.at_ {l : List OpD} (h : Ops w A n l) {i : Nat} {o : OpD} (ho : l[i]? = some o) : ∃ b off, A = some ⟨b, off, none⟩ ∧ w.cell? ⟨b, off + i * 4, none⟩ = some (.int .i64 o.k) ∧ w.cell? ⟨b, off + i * 4 + 1, none⟩ = some (.string o.key) ∧
    w.cell? ⟨b, off + i * 4 + 2, none⟩ = some (.string o.val) ∧ w.cell? ⟨b, off + i * 4 + 3, none⟩ = some (.int .i64 o.n) := by
  obtain ⟨a0, a1, a2, a3⟩ := flatO_get ho
  obtain ⟨b, off, hA, _, hc⟩ := h.2 (ne_of_get a0)
  exact ⟨b, off, hA, hc _ _ a0, by rw [Nat.add_assoc]; exact hc _ _ a1, by rw [Nat.add_assoc]; exact hc _ _ a2, by rw [Nat.add_assoc]; exact hc _ _ a3⟩
theorem Ress.at_ {l : List Res} (h : Ress w A n l) {i : Nat} {r : Res} (ho : l[i]? = some r) : ∃ b off, A = some ⟨b, off, none⟩ ∧ w.cell? ⟨b, off + i * 2, none⟩ = some (.string (vOf r)) ∧ w.cell? ⟨b, off + i * 2 + 1, none⟩ = some (.bool (hOf r)) := by
  obtain ⟨a0, a1⟩ := flatR_get ho
  obtain ⟨b, off, hA, _, hc⟩ := h.2 (ne_of_get a0)
  exact ⟨b, off, hA, hc _ _ a0, by rw [Nat.add_assoc]; exact hc _ _ a1⟩
theorem Wrs.at_ {l : List (ByteArray × ByteArray)} (h : Wrs w A n l) {i : Nat} {x : ByteArray × ByteArray} (ho : l[i]? = some x) : ∃ b off, A = some ⟨b, off, none⟩ ∧ w.cell? ⟨b, off + i * 3, none⟩ = some (.string x.1) ∧ w.cell? ⟨b, off + i * 3 + 1, none⟩ = some (.string x.2) ∧
    w.cell? ⟨b, off + i * 3 + 2, none⟩ = some (.bool true) := by
  obtain ⟨a0, a1, a2⟩ := flatW_get ho
  obtain ⟨b, off, hA, _, hc⟩ := h.2 (ne_of_get a0)
  exact ⟨b, off, hA, hc _ _ a0, by rw [Nat.add_assoc]; exact hc _ _ a1, by rw [Nat.add_assoc]; exact hc _ _ a2⟩
end
end Go.Proofs.YtbggadhaaphmcaaDoor
