/- A ring's youngest node, in plain words. -/
import Derived.Test.YtfcdplfnhjbdnabDoorBw
namespace Go.Proofs.YtfcdplfnhjbdnabDoor
open Go.RowKit Go.Sort
set_option linter.unusedVariables false

/-- Nodes 0, 1, .. with these stamps. -/
def Shape (G : List Nd) (ss : List Int) : Prop := G.length = ss.length ∧ ∀ (i : Nat) (x : Nd), G[i]? = some x → x.id = i ∧ x.st = ss.getD i 0
theorem edgeL_get {G : List Nd} {a b : Int} {i : Nat} {x : Nd} (h : (edgeL G a b)[i]? = some x) : ∃ y : Nd, G[i]? = some y ∧ x.id = y.id ∧ x.st = y.st := by
  unfold edgeL at h
  split at h
  · rw [setTo_get] at h
    obtain ⟨y, hy, rfl⟩ := Option.map_eq_some_iff.1 h
    refine ⟨y, hy, ?_⟩
    split <;> exact ⟨rfl, rfl⟩
  · exact ⟨x, h, rfl, rfl⟩
theorem shape_edge {G : List Nd} {ss : List Int} (h : Shape G ss) (a b : Int) : Shape (edgeL G a b) ss := by
  refine ⟨by rw [edgeL_len]; exact h.1, fun i x hx => ?_⟩
  obtain ⟨y, hy, e1, e2⟩ := edgeL_get hx
  rw [e1, e2]
  exact h.2 i y hy
theorem shape_madeF {ss : List Int} (es : List (Int × Int)) : ∀ G : List Nd, Shape G ss → Shape (madeF G es) ss := by
  induction es with
  | nil => exact fun G h => h
  | cons e r ih => exact fun G h => ih _ (shape_edge h e.1 e.2)
theorem shape_made {ss : List Int} (hs : ∀ x, x ∈ ss → 0 ≤ x ∧ x ≤ 255) (h40 : ss.length ≤ 40) (es : List (Int × Int)) : Shape (madeG ss es) ss := by
  obtain ⟨h1, h2⟩ := nodes_len ss hs h40 ss.length (Nat.le_refl _)
  exact shape_madeF es _ ⟨h1, fun i x hx => ⟨(h2 i x hx).1, (h2 i x hx).2.2⟩⟩
theorem shape_idx {G : List Nd} {ss : List Int} (h : Shape G ss) {a : Nat} (ha : a < ss.length) : idxOf G a = a := by
  obtain ⟨x, hx⟩ := some_of_lt (show a < G.length by rw [h.1]; exact ha)
  rcases idx_cases G a with ⟨_, hno⟩ | ⟨i, y, hi, hy, hya⟩
  · exact absurd (h.2 a x hx).1 (hno x (mem_of_some hx))
  · have := (h.2 i y hy).1
    omega
theorem eg_mono {G : List Nd} {a b : Int} {i j : Nat} (h : Eg G i j) : Eg (edgeL G a b) i j := by
  unfold edgeL
  split
  · obtain ⟨x, hx, hb⟩ := h
    unfold setTo
    by_cases e : (idxOf G a).toNat = i
    · refine ⟨⟨x.id, x.st, toAt G (idxOf G a).toNat ||| 2 ^ (idxOf G b).toNat⟩, ?_, ?_⟩
      · rw [List.getElem?_modify, hx]
        simp [e]
      · show (toAt G (idxOf G a).toNat ||| 2 ^ (idxOf G b).toNat).testBit j = true
        rw [Nat.testBit_or, e, toAt_of hx, hb]; rfl
    · refine ⟨x, ?_, hb⟩
      rw [List.getElem?_modify, hx]
      simp [e]
  · exact h
theorem eg_new {G : List Nd} {ss : List Int} (h : Shape G ss) {a b : Nat} (ha : a < ss.length) (hb : b < ss.length) (hne : a ≠ b) : Eg (edgeL G a b) a b := by
  obtain ⟨x, hx⟩ := some_of_lt (show a < G.length by rw [h.1]; exact ha)
  have hE : edgeE G a b = 0 := by
    unfold edgeE
    rw [shape_idx h ha, shape_idx h hb, if_neg (show ¬ ((a : Int) = (b : Int)) by omega), if_neg (by omega)]
  unfold edgeL
  rw [hE, if_pos rfl, shape_idx h ha, shape_idx h hb, Int.toNat_natCast, Int.toNat_natCast]
  refine ⟨⟨x.id, x.st, toAt G a ||| 2 ^ b⟩, ?_, ?_⟩
  · unfold setTo
    rw [List.getElem?_modify, hx]
    simp
  · show (toAt G a ||| 2 ^ b).testBit b = true
    rw [Nat.testBit_or, bit_pow]
    simp
/-- The ring's youngest node is a victim. -/
theorem ring_vict {G : List Nd} (hG : Ok G) {n : Nat} {r : Nat → Nat} (hr : ∀ j, j < n → r j < G.length) (hE : ∀ j, j < n → Eg G (r j) (r ((j + 1) % n))) {p : Nat} (hp : p < n)
    (hy : ∀ j, j < n → j = p ∨ bef (ndAt G (r j)) (ndAt G (r p)) = true) : vict G (r p) = true := by
  have hu := at_ndAt (hr p hp)
  refine (vict_way hG hu).2 ?_
  have key : ∀ d, d + 1 ≤ n → Way G (eldK G (ndAt G (r p)) G.length) (r p) (r ((p + d + 1) % n)) := by
    intro d
    induction d with
    | zero => exact fun _ => .one (hE p hp)
    | succ d ih =>
      intro hd
      have h1 := ih (by omega)
      have hj : (p + d + 1) % n < n := Nat.mod_lt _ (by omega)
      have hjp : (p + d + 1) % n ≠ p := by
        intro e
        rcases Nat.lt_or_ge (p + d + 1) n with hlt | hge
        · rw [Nat.mod_eq_of_lt hlt] at e; omega
        · have : (p + d + 1) % n = p + d + 1 - n := by
            rw [Nat.mod_eq_sub_mod hge, Nat.mod_eq_of_lt (by omega)]
          omega
      have hb := (hy _ hj).resolve_left hjp
      have he := hE _ hj
      have hm : ((p + d + 1) % n + 1) % n = (p + (d + 1) + 1) % n := by
        rw [Nat.mod_add_mod]
        rfl
      rw [hm] at he
      exact .more h1 (eld_bit.2 ⟨_, at_ndAt (hr _ hj), hb⟩) he
  have := key (n - 1) (by omega)
  have e : (p + (n - 1) + 1) % n = p := by
    rw [show p + (n - 1) + 1 = p + n by omega, Nat.add_mod_right, Nat.mod_eq_of_lt hp]
  rwa [e] at this
/-- The oldest one is none. -/
theorem oldest_not {G : List Nd} (hG : Ok G) {i : Nat} {y : Nd} (hy : G[i]? = some y) (hold : ∀ x : Nd, x ∈ G → bef x y = false) : vict G i = false := by
  rcases hv : vict G i with _ | _
  · rfl
  · have hw := (vict_way hG hy).1 hv
    have hno : ∀ j, (eldK G y G.length).testBit j = false := fun j => by
      rcases hb : (eldK G y G.length).testBit j with _ | _
      · rfl
      · obtain ⟨x, hx, hbx⟩ := eld_bit.1 hb
        rw [hold x (mem_of_some hx)] at hbx
        cases hbx
    cases hw with
    | one he =>
      obtain ⟨x, hx, hb⟩ := he
      rw [hG.self i x hx] at hb
      cases hb
    | more _ hb _ =>
      rw [hno] at hb
      cases hb
/-- What is known of the ring. -/
structure Ring (rs : List Int) (n1 : Nat) : Prop where
  lt : ∀ (j : Nat) (x : Int), rs[j]? = some x → 0 ≤ x ∧ x < n1
  ne : ∀ (i j : Nat) (x : Int), rs[i]? = some x → rs[j]? = some x → i = j
def rAt (rs : List Int) (j : Nat) : Nat := (rs.getD j 0).toNat
theorem rAt_of {rs : List Int} {n1 j : Nat} {x : Int} (h : Ring rs n1) (hx : rs[j]? = some x) : (rAt rs j : Int) = x ∧ rAt rs j < n1 := by
  have := h.lt j x hx
  unfold rAt
  rw [List.getD_eq_getElem?_getD, hx]
  show ((x.toNat : Nat) : Int) = x ∧ x.toNat < n1
  omega
theorem rAt_inj {rs : List Int} {n1 i j : Nat} (h : Ring rs n1) (hi : i < rs.length) (hj : j < rs.length) (e : rAt rs i = rAt rs j) : i = j := by
  obtain ⟨x, hx⟩ := some_of_lt hi
  obtain ⟨y, hy⟩ := some_of_lt hj
  have h1 := (rAt_of h hx).1
  have h2 := (rAt_of h hy).1
  have : x = y := by omega
  subst this
  exact h.ne i j x hx hy
/-- Elder, by the stamps. -/
def lexB (ss rs : List Int) (i j : Nat) : Bool := decide (ss.getD (rAt rs i) 0 < ss.getD (rAt rs j) 0) || ((ss.getD (rAt rs i) 0 == ss.getD (rAt rs j) 0) && decide (rAt rs i < rAt rs j))
theorem lex_bef {G : List Nd} {ss rs : List Int} (h : Shape G ss) {i j : Nat} (hi : rAt rs i < ss.length) (hj : rAt rs j < ss.length) : bef (ndAt G (rAt rs i)) (ndAt G (rAt rs j)) = lexB ss rs i j := by
  have h1 := h.2 _ _ (at_ndAt (l := G) (by rw [h.1]; exact hi))
  have h2 := h.2 _ _ (at_ndAt (l := G) (by rw [h.1]; exact hj))
  unfold bef lexB
  rw [h1.1, h1.2, h2.1, h2.2]
  simp
theorem lex_trans {ss rs : List Int} {i j k : Nat} (h : lexB ss rs i j = true) (h' : lexB ss rs j k = true) : lexB ss rs i k = true := by
  unfold lexB at *
  simp only [Bool.or_eq_true, Bool.and_eq_true, decide_eq_true_eq, beq_iff_eq] at *
  omega
theorem lex_total {ss rs : List Int} {n1 i j : Nat} (h : Ring rs n1) (hi : i < rs.length) (hj : j < rs.length) (hn : lexB ss rs i j = false) : i = j ∨ lexB ss rs j i = true := by
  by_cases e : i = j
  · exact .inl e
  · have hne : rAt rs i ≠ rAt rs j := fun e' => e (rAt_inj h hi hj e')
    refine .inr ?_
    unfold lexB at *
    simp only [Bool.or_eq_true, Bool.and_eq_true, decide_eq_true_eq, beq_iff_eq, Bool.or_eq_false_iff, Bool.and_eq_false_iff, decide_eq_false_iff_not, beq_eq_false_iff_ne] at *
    omega
/-- The youngest so far. -/
def Yg (ss rs : List Int) (k p : Nat) : Prop := p < rs.length ∧ ∀ j, j < k → j = p ∨ lexB ss rs j p = true
theorem yg_keep {ss rs : List Int} {n1 k p : Nat} (hr : Ring rs n1) (h : Yg ss rs k p) (hk : k < rs.length) (hn : lexB ss rs p k = false) : Yg ss rs (k + 1) p := by
  refine ⟨h.1, fun j hj => ?_⟩
  by_cases e : j = k
  · subst e
    rcases lex_total hr h.1 hk hn with h' | h'
    · exact .inl h'.symm
    · exact .inr h'
  · exact h.2 j (by omega)
theorem yg_new {ss rs : List Int} {k p : Nat} (h : Yg ss rs k p) (hk : k < rs.length) (hn : lexB ss rs p k = true) : Yg ss rs (k + 1) k := by
  refine ⟨hk, fun j hj => ?_⟩
  by_cases e : j = k
  · exact .inl e
  · rcases h.2 j (by omega) with rfl | h'
    · exact .inr hn
    · exact .inr (lex_trans h' hn)
end Go.Proofs.YtfcdplfnhjbdnabDoor
