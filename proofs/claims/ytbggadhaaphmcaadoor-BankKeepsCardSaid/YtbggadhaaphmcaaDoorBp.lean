/- bank: what plans of accounts do to the accounts, in plain words. No program is spoken of. -/
import Derived.Test.YtbggadhaaphmcaaDoorBs
import Derived.Test.YtbggadhaaphmcaaDoorBt
namespace Go.Proofs.YtbggadhaaphmcaaDoor
open Go.Lib Go.RowKit
set_option linter.unusedVariables false

theorem u8_ofNat_inj {a b : Nat} (ha : a < 10) (hb : b < 10) (h : (48 : UInt8) + UInt8.ofNat a = 48 + UInt8.ofNat b) : a = b := by
  have h' := congrArg UInt8.toNat h
  simp only [UInt8.toNat_add, UInt8.toNat_ofNat', UInt8.reduceToNat] at h'
  omega
theorem keyT_inj {i j : Int} (h0 : 0 ≤ i) (h1 : i < 16) (h2 : 0 ≤ j) (h3 : j < 16) (h : (keyT i).data.toList = (keyT j).data.toList) : i = j := by
  unfold keyT at h
  simp only [List.cons.injEq, true_and, and_true] at h
  have a := u8_ofNat_inj (a := (i / 10).toNat) (b := (j / 10).toNat) (by omega) (by omega) h.1
  have b := u8_ofNat_inj (a := (i % 10).toNat) (b := (j % 10).toNat) (by omega) (by omega) h.2
  omega
theorem keyT_size (i : Int) : (keyT i).size = 6 := rfl

/-- Each account has what the row tells. -/
def BankF (f : Has) (row : List Int) : Prop := ∀ (i : Nat) (x : Int), row[i]? = some x → f (keyT (i : Int)).data.toList = some (txt x)
def Bnd (M : Int) (row : List Int) : Prop := ∀ x ∈ row, -M ≤ x ∧ x ≤ M
abbrev Gift := Nat × Int
def addsL (l : List Gift) : List OpD := l.map fun p => addO (p.1 : Int) p.2
def addR (row : List Int) (p : Gift) : List Int := row.modify p.1 (· + p.2)
def addsR (row : List Int) (l : List Gift) : List Int := l.foldl addR row
theorem addR_len (row : List Int) (p : Gift) : (addR row p).length = row.length := by simp [addR]
theorem addsR_len (l : List Gift) : ∀ row : List Int, (addsR row l).length = row.length := by
  induction l with
  | nil => intro row; rfl
  | cons p l ih => intro row; show (addsR (addR row p) l).length = _; rw [ih, addR_len]
theorem addR_get (row : List Int) (p : Gift) (i : Nat) : (addR row p)[i]? = if p.1 = i then row[i]?.map (· + p.2) else row[i]? := by
  unfold addR
  rw [List.getElem?_modify]
  rcases row[i]? with _ | a
  · split <;> rfl
  · by_cases e : p.1 = i
    · simp [e]
    · simp [e]
theorem Bnd.mono {M N : Int} {row : List Int} (h : Bnd M row) (hmn : M ≤ N) : Bnd N row := fun x hx => by have := h x hx; omega
theorem bnd_addR {M K : Int} {row : List Int} {p : Gift} (h : Bnd M row) (hp : -K ≤ p.2 ∧ p.2 ≤ K) : Bnd (M + K) (addR row p) := by
  intro x hx
  obtain ⟨i, hi⟩ := List.mem_iff_getElem?.1 hx
  rw [addR_get] at hi
  split at hi
  · rcases hr : row[i]? with _ | y
    · rw [hr] at hi; cases hi
    · rw [hr] at hi
      simp only [Option.map_some, Option.some.injEq] at hi
      have := h y (mem_of_some hr)
      omega
  · have := h x (mem_of_some hi)
    omega
theorem bnd_addsR {K : Int} (hK : 0 ≤ K) (l : List Gift) : ∀ {M : Int} {row : List Int}, Bnd M row → (∀ p ∈ l, -K ≤ p.2 ∧ p.2 ≤ K) → Bnd (M + K * (l.length : Int)) (addsR row l) := by
  induction l with
  | nil => intro M row h _; simpa [addsR] using h
  | cons p l ih =>
    intro M row h hl
    have h1 := bnd_addR (K := K) h (hl p (by simp))
    have h2 := ih h1 (fun q hq => hl q (List.mem_cons_of_mem _ hq))
    show Bnd _ (addsR (addR row p) l)
    refine h2.mono ?_
    rw [List.length_cons]
    push_cast
    rw [Int.mul_add]
    omega
theorem sum_addO {f : Has} {i : Nat} {x y : Int} (hf : f (keyT (i : Int)).data.toList = some (txt y)) (hy : -1125899906842624 ≤ y ∧ y ≤ 1125899906842624) (hx : -1125899906842624 ≤ x ∧ x ≤ 1125899906842624)
    (hs : -1125899906842624 ≤ y + x ∧ y + x ≤ 1125899906842624) : sumOf (addO i x) (f (keyT (i : Int)).data.toList) = y + x := by
  unfold sumOf
  rw [hf, vOf_some]
  unfold numR
  rw [txt_data, numOf_itoa hy.1 hy.2]
  have : clampI (addO (i : Int) x).n = x := by
    show clampI x = x
    unfold clampI; omega
  rw [this]
  unfold clampI; omega
theorem bank_add {s : Rs} {row : List Int} {p : Gift} (hlen : row.length ≤ 16) (hB : BankF s.f row) (hb : Bnd 1000000000000 row) (hp : p.1 < row.length) (hx : -100000000000 ≤ p.2 ∧ p.2 ≤ 100000000000) :
    BankF (stepS s (addO (p.1 : Int) p.2)).f (addR row p) := by
  obtain ⟨i, x⟩ := p
  dsimp only at hp hx ⊢
  obtain ⟨y, hy⟩ := some_of_lt hp
  have hyb := hb y (mem_of_some hy)
  have hs := sum_addO (f := s.f) (x := x) (hB i y hy) (by omega) (by omega) (by omega)
  intro j z hz
  have hj : j < row.length := by have := lt_of_some hz; rwa [addR_len] at this
  unfold stepS
  rw [show wrB (addO (i : Int) x) = true from rfl, if_pos rfl]
  show putF s.f (keyT (i : Int)).data.toList (stepW (addO (i : Int) x) (s.f (keyT (i : Int)).data.toList) s.last) (keyT (j : Int)).data.toList = _
  have hw : stepW (addO (i : Int) x) (s.f (keyT (i : Int)).data.toList) s.last = some (txt (y + x)) := by
    show (if (5 : Int) = 2 then _ else if (5 : Int) = 4 then _ else if (5 : Int) = 5 then _ else _) = _
    rw [if_neg (by decide), if_neg (by decide), if_pos rfl, hs]
  rw [hw]
  rw [addR_get] at hz
  dsimp only at hz
  unfold putF
  by_cases e : i = j
  · subst e
    rw [if_pos rfl]
    rw [if_pos rfl, hy] at hz
    simp only [Option.map_some, Option.some.injEq] at hz
    rw [hz]
  · rw [if_neg e] at hz
    rw [if_neg (fun h => e (by have := keyT_inj (by omega) (by omega) (by omega) (by omega) h; omega))]
    exact hB j z hz
theorem bank_adds (l : List Gift) : ∀ {s : Rs} {row : List Int} {M : Int}, row.length ≤ 16 → BankF s.f row → Bnd M row → M + 10000000 * (l.length : Int) ≤ 1000000000000 → (∀ p ∈ l, p.1 < row.length ∧ -10000000 ≤ p.2 ∧ p.2 ≤ 10000000) →
    BankF ((addsL l).foldl stepS s).f (addsR row l) := by
  induction l with
  | nil => intro s row M _ h _ _ _; exact h
  | cons p l ih =>
    intro s row M h1 h2 h3 h4 h5
    rw [List.length_cons] at h4
    push_cast at h4
    have hp := h5 p (by simp)
    show BankF ((addsL l).foldl stepS (stepS s (addO (p.1 : Int) p.2))).f (addsR (addR row p) l)
    refine ih (M := M + 10000000) (by rw [addR_len]; exact h1) (bank_add h1 h2 (h3.mono (by omega)) hp.1 (by omega)) (bnd_addR h3 hp.2) (by omega) (fun q hq => ?_)
    rw [addR_len]
    exact h5 q (List.mem_cons_of_mem _ hq)

/-! ### The plans may be -/
theorem ok_add {i : Nat} {x : Int} (hx : -10000000 ≤ x ∧ x ≤ 10000000) : okB (addO (i : Int) x) = true := by
  have h1 : decide (-1125899906842624 ≤ x) = true := by simp; omega
  have h2 : decide (x ≤ 1125899906842624) = true := by simp; omega
  unfold okB addO
  simp only [keyT_size, h1, h2]
  rfl
theorem good_of {l : List OpD} (h16 : l.length ≤ 16) (h : ∀ o ∈ l, okB o = true ∧ o.k ≠ 6) : goodB l = true := by
  refine good_all ?_ (fun o ho => (h o ho).2)
  unfold rightE
  rw [if_neg (by omega), if_pos (by rw [List.all_eq_true]; exact fun o ho => (h o ho).1)]
theorem good_adds {l : List Gift} (h16 : l.length ≤ 16) (h : ∀ p ∈ l, -10000000 ≤ p.2 ∧ p.2 ≤ 10000000) : goodB (addsL l) = true := by
  refine good_of (by simpa [addsL] using h16) fun o ho => ?_
  obtain ⟨p, hp, rfl⟩ := List.mem_map.1 ho
  exact ⟨ok_add (h p hp), by show (5 : Int) ≠ 6; decide⟩
theorem good_open {k : Nat} (hk : k ≤ 16) {v : ByteArray} (hv : v.size ≤ 32) : goodB (openL k v) = true := by
  refine good_of (by rw [openL_len]; exact hk) fun o ho => ?_
  obtain ⟨i, hi, rfl⟩ := List.mem_map.1 ho
  have h1 : decide (v.size ≤ 32) = true := by simpa using hv
  refine ⟨?_, by show (2 : Int) ≠ 6; decide⟩
  unfold okB
  simp only [keyT_size, h1]
  rfl
theorem good_audit {k : Nat} (hk : k ≤ 16) : goodB (auditL k) = true := by
  refine good_of (by rw [auditL_len]; exact hk) fun o ho => ?_
  obtain ⟨i, hi, rfl⟩ := List.mem_map.1 ho
  refine ⟨?_, by show (1 : Int) ≠ 6; decide⟩
  unfold okB
  simp only [keyT_size]
  rfl
/-! ### Opening; looking -/
theorem bank_open {v : ByteArray} {n : Int} (hv : v = txt n) (k : Nat) (hk : k ≤ 16) (s : Rs) : BankF ((openL k v).foldl stepS s).f (List.replicate k n) := by
  induction k with
  | zero => intro i x h; simp at h
  | succ k ih =>
    rw [openL_snoc, List.foldl_append]
    have ih := ih (by omega)
    generalize (openL k v).foldl stepS s = t at ih ⊢
    intro i x h
    have hi := lt_of_some h
    rw [List.length_replicate] at hi
    rw [List.getElem?_replicate, if_pos hi] at h
    simp only [Option.some.injEq] at h
    subst h
    show putF t.f (keyT (k : Int)).data.toList (some v) (keyT (i : Int)).data.toList = _
    unfold putF
    by_cases e : i = k
    · subst e
      rw [if_pos rfl, hv]
    · rw [if_neg (fun h => e (by have := keyT_inj (by omega) (by omega) (by omega) (by omega) h; omega))]
      exact ih i n (by rw [List.getElem?_replicate, if_pos (by omega)])
theorem audit_run {f : Has} {row : List Int} (hB : BankF f row) : ∀ k, k ≤ row.length → (runS f (auditL k)).f = f ∧ (runS f (auditL k)).out = (row.take k).map (fun x => some (txt x)) := by
  intro k
  induction k with
  | zero => intro _; exact ⟨rfl, rfl⟩
  | succ k ih =>
    intro hk
    have ih := ih (by omega)
    obtain ⟨x, hx⟩ := some_of_lt (show k < row.length by omega)
    have hx2 := hx
    rw [List.getElem?_eq_getElem (by omega)] at hx2
    injection hx2 with hx2
    rw [auditL_snoc, runS_snoc]
    unfold stepS
    rw [show wrB ⟨1, keyT (k : Int), emp, 0⟩ = false from rfl]
    refine ⟨ih.1, ?_⟩
    dsimp only
    rw [ih.1, ih.2, hB k x hx]
    rw [List.take_succ_eq_append_getElem (by omega), List.map_append, hx2]
    rfl
theorem bals_row {row : List Int} (h : Bnd 1000000000000 row) : bals ((row.map (fun x => (some (txt x) : Res))).map prR) = row := by
  unfold bals
  rw [List.map_map, List.map_map]
  conv => rhs; rw [← List.map_id row]
  refine List.map_congr_left fun x hx => ?_
  have := h x hx
  show (if (prR (some (txt x))).2 = true then numR (prR (some (txt x))).1 else 0) = x
  show (if true = true then numR (txt x) else 0) = x
  rw [if_pos rfl]
  unfold numR
  rw [txt_data, numOf_itoa (by omega) (by omega)]
/-! ### Sums -/
theorem sum_addR {row : List Int} {p : Gift} (h : p.1 < row.length) : sumI (addR row p) = sumI row + p.2 := by
  obtain ⟨i, x⟩ := p
  dsimp only at h ⊢
  unfold sumI addR
  dsimp only
  induction row generalizing i with
  | nil => simp at h
  | cons a r ih =>
    cases i with
    | zero => simp; omega
    | succ i =>
      rw [List.modify_succ_cons, List.sum_cons, List.sum_cons, ih i (by simpa using h)]
      omega
theorem sum_addsR (l : List Gift) : ∀ {row : List Int}, (∀ p ∈ l, p.1 < row.length) → sumI (addsR row l) = sumI row + sumI (l.map (·.2)) := by
  induction l with
  | nil => intro row _; simp [addsR, sumI]
  | cons p l ih =>
    intro row h
    show sumI (addsR (addR row p) l) = _
    rw [ih (fun q hq => by rw [addR_len]; exact h q (List.mem_cons_of_mem _ hq)), sum_addR (h p (by simp))]
    simp [sumI]
    omega
theorem sum_replicate (k : Nat) (n : Int) : sumI (List.replicate k n) = k * n := by
  unfold sumI
  induction k with
  | zero => simp
  | succ k ih =>
    rw [List.replicate_succ, List.sum_cons, ih]
    push_cast
    rw [Int.add_mul]
    omega
end Go.Proofs.YtbggadhaaphmcaaDoor
