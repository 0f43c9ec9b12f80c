/- SerialMade: plans that were done, in memory; the history's rows; the law's argument opened. -/
import Derived.Test.YtbggadhaaphmcaaDoorZwp
import Derived.Test.YtbggadhaaphmcaaDoorOp
namespace Go.Proofs.YtbggadhaaphmcaaDoor
open Go Go.Lib Go.ChangeShapes Go.WideShapes Go.Deep Go.RowKit Go.ChangeAt
set_option linter.unusedVariables false

structure WasAt (w : World) (b i : Nat) (d : WasD) : Prop where
  c0 : ∃ A c, w.cell? ⟨b, i, none⟩ = some (.slice A d.plan.length c) ∧ Ops w A d.plan.length d.plan
  c1 : w.cell? ⟨b, i + 1, none⟩ = some (.int .u8 d.ah)
  c2 : w.cell? ⟨b, i + 2, none⟩ = some (.int .u8 d.be)
  c3 : w.cell? ⟨b, i + 3, none⟩ = some (.bool d.op)
  lp : d.plan.length ≤ maxLen
def Wass (w : World) (A : Option Addr) (n : Nat) (l : List WasD) : Prop :=
  l.length = n ∧ n ≤ maxLen ∧ (0 < n → ∃ b off, A = some ⟨b, off, none⟩ ∧ b < w.heap.size ∧ ∀ i d, l[i]? = some d → WasAt w b (off + i * 4) d)
section
variable {w w' w0 : World} {A : Option Addr} {n : Nat} {l : List WasD}
theorem WasAt.below {b i : Nat} {d : WasD} (h : WasAt w0 b i d) (hb : Below w0.heap.size w0 w) (hlt : b < w0.heap.size) : WasAt w b i d := by
  obtain ⟨A, c, h1, h2⟩ := h.c0
  exact ⟨⟨A, c, (hb.cell (p := ⟨b, i, none⟩) hlt).trans h1, h2.below hb⟩, (hb.cell (p := ⟨b, i + 1, none⟩) hlt).trans h.c1, (hb.cell (p := ⟨b, i + 2, none⟩) hlt).trans h.c2, (hb.cell (p := ⟨b, i + 3, none⟩) hlt).trans h.c3, h.lp⟩
theorem Wass.below (h : Wass w0 A n l) (hb : Below w0.heap.size w0 w) : Wass w A n l := by
  refine ⟨h.1, h.2.1, fun hn => ?_⟩
  obtain ⟨b, off, hA, hlt, hp⟩ := h.2.2 hn
  exact ⟨b, off, hA, Nat.lt_of_lt_of_le hlt hb.size, fun i p hi => (hp i p hi).below hb hlt⟩
theorem Wass.new_ (h : Wass w A n l) (hc : NewW w w') : Wass w' A n l := h.below (hc.to_below (fun _ h => h.elim) (Nat.le_refl _))
theorem Wass.at_ (h : Wass w A n l) {i : Nat} {d : WasD} (hi : l[i]? = some d) : ∃ b off, A = some ⟨b, off, none⟩ ∧ WasAt w b (off + i * 4) d := by
  obtain ⟨b, off, hA, _, hp⟩ := h.2.2 (by have := lt_of_some hi; have := h.1; omega)
  exact ⟨b, off, hA, hp i d hi⟩
end
/-! ### The plans' row -/
structure PlR (w : World) (l : List WasD) (k : Nat) (vals : List Value) : Prop where
  len : vals.length = k
  at_ : ∀ j d, j < k → l[j]? = some d → ∃ (A : Option Addr) (c : Nat), vals[j]? = some (.slice A d.plan.length c) ∧ Ops w A d.plan.length d.plan ∧ d.plan.length ≤ maxLen
theorem PlR.nil_ (w : World) (l : List WasD) : PlR w l 0 [] := ⟨rfl, fun j d hj => absurd hj (by omega)⟩
theorem PlR.snoc {w : World} {l : List WasD} {k : Nat} {vals : List Value} (h : PlR w l k vals) {d : WasD} (hd : l[k]? = some d) {A : Option Addr} {c m : Nat} (hm : d.plan.length = m) (hO : Ops w A m d.plan) (hl : m ≤ maxLen) :
    PlR w l (k + 1) (vals ++ [.slice A m c]) := by
  subst hm
  refine ⟨by simp [h.len], fun j d' hj hd' => ?_⟩
  by_cases e : j = k
  · subst e
    rw [hd] at hd'
    injection hd' with hd'
    subst hd'
    exact ⟨A, c, by rw [List.getElem?_append_right (by rw [h.len]; omega), h.len]; simp, hO, hl⟩
  · obtain ⟨A', c', h1, h2⟩ := h.at_ j d' (by omega) hd'
    exact ⟨A', c', by rw [List.getElem?_append_left (by rw [h.len]; omega)]; exact h1, h2⟩
theorem PlR.new_ {w w' : World} {l : List WasD} {k : Nat} {vals : List Value} (h : PlR w l k vals) (hc : NewW w w') : PlR w' l k vals :=
  ⟨h.len, fun j d hj hd => by
    obtain ⟨A, c, h1, h2, h3⟩ := h.at_ j d hj hd
    exact ⟨A, c, h1, h2.new_ hc, h3⟩⟩
theorem plans_own {w : World} {B n c : Nat} {A : Option Addr} {l : List WasD} {vals : List Value} (ho : w.ownsRow B 31 1 (.slice A n c) n vals) (h : PlR w l n vals) (hl : l.length = n) (hn : n ≤ maxLen) : Plans w A n (plansL l) := by
  refine ⟨by unfold plansL; rw [List.length_map]; exact hl, hn, fun h0 => ?_⟩
  have hr : Rd w A vals := Rd.own ho
  have hne : vals ≠ [] := by
    intro e
    have := h.len
    rw [e] at this
    simp at this
    omega
  obtain ⟨b, off, hA, hb, hc⟩ := hr hne
  refine ⟨b, off, hA, hb, fun i p hi => ?_⟩
  unfold plansL at hi
  rw [List.getElem?_map] at hi
  cases hd : l[i]? with
  | none => rw [hd] at hi; cases hi
  | some d =>
    rw [hd] at hi
    simp only [Option.map_some, Option.some.injEq] at hi
    subst hi
    obtain ⟨A', c', h1, h2, h3⟩ := h.at_ i d (by have := lt_of_some hd; omega) hd
    exact ⟨⟨A', c', hc i _ h1, h2⟩, h3⟩
/-! ### The history's rows -/
structure DRow where
  d : DeedD
  A : Option Addr
  c : Nat
  A3 : Option Addr
  c3 : Nat
def cellsD (r : DRow) : List Value := [.int .i64 r.d.fr, .int .i64 r.d.to, .slice r.A r.d.plan.length r.c, .slice r.A3 r.d.res.length r.c3, .bool r.d.op]
def flatDD (l : List DRow) : List Value := l.flatMap cellsD
theorem flatDD_cons (r : DRow) (l : List DRow) : cellsD r ++ flatDD l = flatDD (r :: l) := by simp [flatDD]
theorem flatDD_one (l : List DRow) : ∀ u ∈ flatDD l, u.oneCell' = true := by
  intro u hu
  unfold flatDD at hu
  obtain ⟨r, _, hr⟩ := List.mem_flatMap.1 hu
  simp only [cellsD, List.mem_cons, List.not_mem_nil, or_false] at hr
  rcases hr with rfl | rfl | rfl | rfl | rfl <;> rfl
structure RowOK (w : World) (r : DRow) : Prop where
  ops : Ops w r.A r.d.plan.length r.d.plan
  prs : Prs w r.A3 r.d.res.length r.d.res
  lp : r.d.plan.length ≤ maxLen
  lr : r.d.res.length ≤ maxLen
def MadeR (w : World) (l : List WasD) (k : Nat) (rs : List DRow) : Prop := rs.map (fun r => r.d) = madeK l k ∧ ∀ r ∈ rs, RowOK w r
theorem MadeR.nil_ (w : World) (l : List WasD) : MadeR w l 0 [] := ⟨rfl, fun r h => by simp at h⟩
theorem MadeR.cons {w : World} {l : List WasD} {k : Nat} {rs : List DRow} (h : MadeR w l k rs) {r : DRow} (hd : r.d = deedK l k) (hr : RowOK w r) : MadeR w l (k + 1) (r :: rs) :=
  ⟨by rw [List.map_cons, madeK, h.1, hd], fun x hx => by
    rcases List.mem_cons.1 hx with e | hx
    · rw [e]; exact hr
    · exact h.2 x hx⟩
theorem MadeR.new_ {w w' : World} {l : List WasD} {k : Nat} {rs : List DRow} (h : MadeR w l k rs) (hc : NewW w w') : MadeR w' l k rs :=
  ⟨h.1, fun r hr => ⟨(h.2 r hr).ops.new_ hc, (h.2 r hr).prs.new_ hc, (h.2 r hr).lp, (h.2 r hr).lr⟩⟩
theorem deeds_own {w : World} {B n c : Nat} {A : Option Addr} {l : List WasD} {rs : List DRow} (ho : w.ownsRow B 89 5 (.slice A n c) n (flatDD rs)) (h : MadeR w l n rs) (hn : n ≤ maxLen) : Deeds w A n (madeK l n) := by
  refine ⟨madeK_len l n, hn, fun h0 => ?_⟩
  have hlen : rs.length = n := by rw [← List.length_map (f := fun r : DRow => r.d), h.1, madeK_len]
  have hr : Rd w A (flatDD rs) := Rd.own ho
  have hg : ∀ {i : Nat} {r : DRow}, rs[i]? = some r → ∀ j, j < 5 → (flatDD rs)[i * 5 + j]? = (cellsD r)[j]? := fun h j hj => flat_get (f := cellsD) (m := 5) (fun _ _ => rfl) h hj
  obtain ⟨r0, hr0⟩ := some_of_lt (show 0 < rs.length by omega)
  obtain ⟨b, off, hA, hb, hc⟩ := hr (ne_of_get (by rw [hg hr0 0 (by omega)]; rfl))
  refine ⟨b, off, hA, hb, fun i d hi => ?_⟩
  rw [← h.1, List.getElem?_map] at hi
  cases hx : rs[i]? with
  | none => rw [hx] at hi; cases hi
  | some r =>
    rw [hx] at hi
    simp only [Option.map_some, Option.some.injEq] at hi
    subst hi
    have hk := h.2 r (mem_of_some hx)
    have g := fun j (hj : j < 5) v (hv : (cellsD r)[j]? = some v) => hc (i * 5 + j) v (by rw [hg hx j hj]; exact hv)
    exact ⟨g 0 (by omega) _ rfl, by rw [Nat.add_assoc]; exact g 1 (by omega) _ rfl, ⟨r.A, r.c, by rw [Nat.add_assoc]; exact g 2 (by omega) _ rfl, hk.ops⟩, ⟨r.A3, r.c3, by rw [Nat.add_assoc]; exact g 3 (by omega) _ rfl, hk.prs⟩,
      by rw [Nat.add_assoc]; exact g 4 (by omega) _ rfl, hk.lp, hk.lr⟩
theorem nums_own {w : World} {B n c : Nat} {A : Option Addr} {l : List Int} (ho : w.ownsRow B 3 1 (.slice A n c) n (l.map (Value.int .i64))) (hl : l.length = n) : Nums w A n l := ⟨hl, Rd.own ho⟩
theorem runO_max (f : Has) (p : List OpD) : (runO f p).length ≤ maxLen := by
  rw [runO_len]
  split
  · rename_i h
    have := good_len h
    unfold maxLen
    omega
  · exact Nat.zero_le _
/-! ### The argument -/
theorem wass_of {H : Type} {enc : TypeId × Value → H} {w : World} {base : Nat} {spare : Nat → Bool} {held : Bool} {fuel : Nat} {a0 : Option Addr} {n c : Nat} {x : DataW H × List MemPlace}
    (h : DataW.trod enc Tryd.prog w base spare held fuel 82 [.slice a0 n c] = some x) : ∃ l : List WasD, Wass w a0 n l ∧ SmallW l := by
  rcases open_slice_fields Tryd.underlying82 Tryd.underlying84 (by kernel_rfl) (by kernel_rfl) h with ⟨hcs, _⟩ | ⟨a, len, cap, m, D, Pl, hcs, _, hl, hm, hmm, _, hi⟩
  · simp at hcs
    obtain ⟨rfl, rfl, rfl⟩ := hcs
    exact ⟨[], ⟨rfl, by simp [maxLen], fun h => by omega⟩, fun d hd => by simp at hd⟩
  · simp at hcs
    obtain ⟨rfl, rfl, rfl⟩ := hcs
    have hle : n ≤ m := by rw [hmm]; split <;> omega
    have hcell : ∀ i, i < n → ∃ d : WasD, (∃ A c, w.cell? (a.add (i * 4)) = some (.slice A d.plan.length c) ∧ Ops w A d.plan.length d.plan) ∧ w.cell? (a.add (i * 4 + 1)) = some (.int .u8 d.ah) ∧ w.cell? (a.add (i * 4 + 2)) = some (.int .u8 d.be) ∧
        w.cell? (a.add (i * 4 + 3)) = some (.bool d.op) ∧ d.plan.length ≤ maxLen ∧ (0 ≤ d.ah ∧ d.ah ≤ 255 ∧ 0 ≤ d.be ∧ d.be ≤ 255) := by
      intro i hin
      obtain ⟨ys, k, _, _, _, hf⟩ := hi i (by omega)
      obtain ⟨v0, y0, h0, _, t0⟩ := hf 0 _ rfl
      obtain ⟨v1, y1, h1, _, t1⟩ := hf 1 _ rfl
      obtain ⟨v2, y2, h2, _, t2⟩ := hf 2 _ rfl
      obtain ⟨v3, y3, h3, _, t3⟩ := hf 3 _ rfl
      obtain ⟨A2, q2, c2, e2⟩ := sliceForm31 t0
      obtain ⟨X, e0, _, wX⟩ := DataW.trod_int Tryd.underlying5 t1
      obtain ⟨Y, e1, _, wY⟩ := DataW.trod_int Tryd.underlying5 t2
      obtain ⟨B, e4, _⟩ := DataW.trod_bool Tryd.underlying4 t3
      subst e2
      simp at e0 e1 e4
      subst e0 e1 e4
      obtain ⟨p, hp, hpm⟩ := ops_of t0
      obtain rfl := hp.1
      exact ⟨⟨p, X, Y, B⟩, ⟨A2, c2, h0, hp⟩, h1, h2, h3, hpm, (bounds_u8 wX).1, (bounds_u8 wX).2, (bounds_u8 wY).1, (bounds_u8 wY).2⟩
    obtain ⟨l, hll, hp⟩ := pick hcell
    refine ⟨l, ⟨hll, by omega, fun hn => ?_⟩, fun d hd => ?_⟩
    · obtain ⟨_, ⟨_, _, h0, _⟩, _⟩ := hcell 0 hn
      rw [Nat.zero_mul] at h0
      obtain ⟨b, off, rfl⟩ := spot_of_cell h0
      refine ⟨b, off, rfl, by rw [add_mk] at h0; exact block_lt_of_cell h0, fun i d hi => ?_⟩
      obtain ⟨⟨A2, c2, g0, k2⟩, g1, g2, g3, l2, _⟩ := hp i d hi
      rw [add_mk] at g0 g1 g2 g3
      exact ⟨⟨A2, c2, g0, k2⟩, by rw [Nat.add_assoc]; exact g1, by rw [Nat.add_assoc]; exact g2, by rw [Nat.add_assoc]; exact g3, l2⟩
    · obtain ⟨i, hi⟩ := List.mem_iff_getElem?.1 hd
      exact (hp i d hi).2.2.2.2.2
end Go.Proofs.YtbggadhaaphmcaaDoor
