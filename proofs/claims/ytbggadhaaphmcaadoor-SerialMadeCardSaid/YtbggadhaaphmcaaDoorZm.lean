/- serial: histories and what explains them, in plain words. No program is spoken of. -/
import Derived.Test.YtbggadhaaphmcaaDoorSa
namespace Go.Proofs.YtbggadhaaphmcaaDoor
open Go.Lib Go.RowKit
set_option linter.unusedVariables false

structure DeedD where
  fr : Int
  to : Int
  plan : List OpD
  res : List Pr
  op : Bool
def deed0 : DeedD := ⟨0, 0, [], [], false⟩
abbrev Hist := List DeedD
def Hist.get (l : Hist) (i : Nat) : DeedD := (l[i]?).getD deed0
theorem Hist.get_of {l : Hist} {i : Nat} {d : DeedD} (h : l[i]? = some d) : Hist.get l i = d := by unfold Hist.get; rw [h]; rfl
def rangeB (d : DeedD) : Bool := decide (d.fr < 0) || decide (d.to < d.fr)
def planE : Hist → Int
  | [] => 0
  | d :: r => if rightE d.plan = 0 then planE r else rightE d.plan
def rightD (l : Hist) : Int := if 8 < l.length then 4 else if l.any rangeB then 5 else planE l
/-- What was told is what the map tells. -/
noncomputable def tellB (d : DeedD) (f : Has) : Bool := d.op || decide ((runO f d.plan).map prR = d.res)
/-- A deed that ended ahead of another one's begin isn't behind it. -/
def lateB (x y : DeedD) : Bool := !x.op && decide (x.to < y.fr)
def mayB (l : Hist) (ps : List Nat) (i : Nat) : Bool := (List.range l.length).all (fun j => decide (j ∈ ps) || !lateB (l.get j) (l.get i)) && !decide (i ∈ ps)
def allB (l : Hist) (ps : List Nat) : Bool := (List.range l.length).all fun j => decide (j ∈ ps) || (l.get j).op
/-! ### The program's way -/
noncomputable def chkB (l : Hist) : List Nat → Has → List Int → Bool
  | ps, _, [] => allB l ps
  | ps, f, x :: r => (decide (0 ≤ x) && decide (x < l.length)) && (mayB l ps x.toNat && (tellB (l.get x.toNat) f && chkB l (ps ++ [x.toNat]) (runF f (l.get x.toNat).plan) r))
noncomputable def findS (l : Hist) : Nat → List Nat → Has → Option (List Nat)
  | 0, ps, _ => if allB l ps then some [] else none
  | n + 1, ps, f => if allB l ps then some [] else (List.range l.length).findSome? fun i =>
      if mayB l ps i && tellB (l.get i) f then (findS l n (ps ++ [i]) (runF f (l.get i).plan)).map (i :: ·) else none
/-! ### The document's way -/
def okAt (l : Hist) (order : List Int) (x : Int) (k : Nat) : Bool :=
  (decide (0 ≤ x) && decide (x < l.length)) && (order.take k).all fun y => !(decide (x = y)) && !lateB (l.get x.toNat) (l.get y.toNat)
def pairsB (l : Hist) (order : List Int) : Bool := (List.range order.length).all fun k => okAt l order ((order[k]?).getD 0) k
def coverB (l : Hist) (order : List Int) : Bool := (List.range l.length).all fun i => (l.get i).op || decide ((i : Int) ∈ order)
noncomputable def tellsB (l : Hist) : Has → List Int → Bool
  | _, [] => true
  | f, x :: r => tellB (l.get x.toNat) f && tellsB l (runF f (l.get x.toNat).plan) r
noncomputable def explB (l : Hist) (order : List Int) : Bool := pairsB l order && (coverB l order && tellsB l none0 order)
noncomputable def refS (l : Hist) : Nat → List Int → Option (List Int)
  | 0, b => if explB l b then some b else none
  | n + 1, b => if explB l b then some b else (List.range l.length).findSome? fun (i : Nat) => if (i : Int) ∈ b then none else refS l n (b ++ [(i : Int)])

/-! ### That they are one -/
/-- The document's pairs, one behind the other. -/
def prsB (l : Hist) : List Int → List Int → Bool
  | _, [] => true
  | b, x :: r => ((decide (0 ≤ x) && decide (x < l.length)) && b.all fun y => !(decide (x = y)) && !lateB (l.get x.toNat) (l.get y.toNat)) && prsB l (b ++ [x]) r
theorem prs_pairs (l : Hist) : ∀ (r b : List Int), prsB l b r = (List.range r.length).all fun k => okAt l (b ++ r) ((r[k]?).getD 0) (b.length + k) := by
  intro r
  induction r with
  | nil => intro b; rfl
  | cons x r ih =>
    intro b
    rw [prsB, ih (b ++ [x])]
    rw [List.length_cons, List.range_succ_eq_map, List.all_cons, List.all_map]
    congr 1
    · unfold okAt
      simp
    · refine List.all_congr rfl fun k => ?_
      simp only [Function.comp_apply, List.append_assoc, List.singleton_append, List.length_append, List.length_singleton, List.getElem?_cons_succ]
      rw [show b.length + 1 + k = b.length + Nat.succ k by omega]
theorem pairs_eq (l : Hist) (order : List Int) : pairsB l order = prsB l [] order := by
  rw [prs_pairs]
  unfold pairsB
  refine List.all_congr rfl fun k => ?_
  simp
def natL (ps : List Nat) : List Int := ps.map fun i : Nat => (i : Int)
theorem natL_mem {ps : List Nat} {x : Nat} : ((x : Int) ∈ natL ps) ↔ x ∈ ps := by
  unfold natL
  constructor
  · intro h
    obtain ⟨y, hy, e⟩ := List.mem_map.1 h
    have : y = x := by omega
    rwa [← this]
  · intro h
    exact List.mem_map.2 ⟨x, h, rfl⟩
theorem natL_snoc (ps : List Nat) (x : Nat) : natL (ps ++ [x]) = natL ps ++ [(x : Int)] := by simp [natL]
/-- None that isn't placed ended ahead of the begin of one that is. -/
def Inv (l : Hist) (ps : List Nat) : Prop := ∀ j, j < l.length → j ∉ ps → ∀ y ∈ ps, lateB (l.get j) (l.get y) = false
theorem inv_nil (l : Hist) : Inv l [] := fun j _ _ y hy => by simp at hy
theorem may_iff {l : Hist} {ps : List Nat} {i : Nat} : mayB l ps i = true ↔ (∀ j, j < l.length → j ∈ ps ∨ lateB (l.get j) (l.get i) = false) ∧ i ∉ ps := by
  unfold mayB
  rw [Bool.and_eq_true, List.all_eq_true]
  simp only [List.mem_range, Bool.or_eq_true, decide_eq_true_eq, Bool.not_eq_true', decide_eq_false_iff_not]
theorem inv_snoc {l : Hist} {ps : List Nat} {i : Nat} (h : Inv l ps) (hm : mayB l ps i = true) : Inv l (ps ++ [i]) := by
  intro j hj hn y hy
  have hn' : j ∉ ps := fun h => hn (by simp [h])
  rcases List.mem_append.1 hy with hy | hy
  · exact h j hj hn' y hy
  · simp only [List.mem_singleton] at hy
    subst hy
    rcases (may_iff.1 hm).1 j hj with h1 | h1
    · exact absurd h1 hn'
    · exact h1
/-- Each may be: none ends ahead of its own begin. -/
def Fine (l : Hist) : Prop := ∀ j, j < l.length → ¬ (l.get j).to < (l.get j).fr
theorem fine_late {l : Hist} (h : Fine l) {j : Nat} (hj : j < l.length) : lateB (l.get j) (l.get j) = false := by
  unfold lateB
  have := h j hj
  simp; omega
def covB (l : Hist) (ps : List Nat) (order : List Int) : Bool := (List.range l.length).all fun i => (l.get i).op || (decide (i ∈ ps) || decide ((i : Int) ∈ order))
theorem cov_nil (l : Hist) (ps : List Nat) : covB l ps [] = allB l ps := by
  unfold covB allB
  refine List.all_congr rfl fun j => ?_
  simp [Bool.or_comm]
theorem cov_cons (l : Hist) (ps : List Nat) (x : Nat) (r : List Int) : covB l ps ((x : Int) :: r) = covB l (ps ++ [x]) r := by
  unfold covB
  refine List.all_congr rfl fun j => ?_
  congr 1
  simp only [List.mem_append, List.mem_cons]
  by_cases h1 : j ∈ ps <;> by_cases h2 : j = x <;> by_cases h3 : (j : Int) ∈ r <;> simp [h1, h2, h3, Int.ofNat_inj]
theorem cov_iff {l : Hist} {ps : List Nat} {r : List Int} : covB l ps r = true ↔ ∀ i, i < l.length → (l.get i).op = true ∨ i ∈ ps ∨ (i : Int) ∈ r := by
  unfold covB
  rw [List.all_eq_true]
  simp only [List.mem_range, Bool.or_eq_true, decide_eq_true_eq]
theorem prs_far {l : Hist} : ∀ {r b : List Int} {x z : Int}, prsB l b r = true → z ∈ r → x ∈ b → lateB (l.get z.toNat) (l.get x.toNat) = false := by
  intro r
  induction r with
  | nil => intro b x z _ hz; simp at hz
  | cons a r ih =>
    intro b x z h hz hx
    rw [prsB, Bool.and_eq_true, Bool.and_eq_true] at h
    rcases List.mem_cons.1 hz with e | hz
    · subst e
      have := List.all_eq_true.1 h.1.2 x hx
      simp only [Bool.and_eq_true, Bool.not_eq_true'] at this
      exact this.2
    · exact ih h.2 hz (by simp [hx])
/-- The program's way is the document's. -/
theorem chk_eq {l : Hist} (hf : Fine l) : ∀ (r : List Int) (ps : List Nat) (f : Has), Inv l ps → chkB l ps f r = (prsB l (natL ps) r && (covB l ps r && tellsB l f r)) := by
  intro r
  induction r with
  | nil => intro ps f _; simp [chkB, prsB, tellsB, cov_nil]
  | cons x r ih =>
    intro ps f hi
    rw [chkB, prsB, tellsB]
    by_cases hr : 0 ≤ x ∧ x < l.length
    · have hr0 : decide (0 ≤ x) = true := by simpa using hr.1
      have hr1 : decide (x < (l.length : Int)) = true := by simpa using hr.2
      rw [hr0, hr1]
      obtain ⟨i, rfl⟩ : ∃ i : Nat, x = i := ⟨x.toNat, by omega⟩
      have hil : i < l.length := by omega
      rw [Int.toNat_natCast, cov_cons]
      simp only [Bool.true_and]
      by_cases hm : mayB l ps i = true
      · rw [hm, ih _ _ (inv_snoc hi hm), natL_snoc]
        have hall : ((natL ps).all fun y => !(decide ((i : Int) = y)) && !lateB (l.get i) (l.get y.toNat)) = true := by
          rw [List.all_eq_true]
          intro y hy
          obtain ⟨k, hk, rfl⟩ := List.mem_map.1 hy
          have h1 := (may_iff.1 hm).2
          have h2 := hi i hil h1 k hk
          have h3 : ¬ (i : Int) = (k : Int) := fun e => h1 (by rw [show i = k by omega]; exact hk)
          simp [h2, h3]
        rw [hall]
        cases tellB (l.get i) f <;> simp
      · have hm' : mayB l ps i = false := by simpa using hm
        rw [hm']
        simp only [Bool.false_and]
        symm
        rw [Bool.and_eq_false_iff]
        by_cases hc : covB l (ps ++ [i]) r = true
        · left
          apply Bool.eq_false_iff.2
          intro hp
          rw [Bool.and_eq_true] at hp
          refine hm (may_iff.2 ⟨fun j hj => ?_, fun hin => ?_⟩)
          · by_cases hjp : j ∈ ps
            · exact .inl hjp
            · refine .inr ?_
              rcases cov_iff.1 hc j hj with h | h | h
              · unfold lateB; rw [h]; rfl
              · rcases List.mem_append.1 h with h | h
                · exact absurd h hjp
                · simp only [List.mem_singleton] at h
                  rw [h]
                  exact fine_late hf hil
              · have := prs_far hp.2 h (show (i : Int) ∈ natL ps ++ [(i : Int)] by simp)
                rwa [Int.toNat_natCast, Int.toNat_natCast] at this
          · have := List.all_eq_true.1 hp.1 (i : Int) (natL_mem.2 hin)
            simp at this
        · right
          have : covB l (ps ++ [i]) r = false := by simpa using hc
          rw [this]
          rfl
    · have hr' : (decide (0 ≤ x) && decide (x < (l.length : Int))) = false := by
        rw [Bool.and_eq_false_iff]
        by_cases h : 0 ≤ x
        · right; simp; omega
        · left; simp; omega
      rw [hr']
      simp
theorem check_expl {l : Hist} (hf : Fine l) (order : List Int) : chkB l [] none0 order = explB l order := by
  rw [chk_eq hf order [] none0 (inv_nil l)]
  unfold explB
  rw [pairs_eq]
  have : covB l [] order = coverB l order := by
    unfold covB coverB
    refine List.all_congr rfl fun j => ?_
    simp
  rw [this]
  rfl
end Go.Proofs.YtbggadhaaphmcaaDoor
