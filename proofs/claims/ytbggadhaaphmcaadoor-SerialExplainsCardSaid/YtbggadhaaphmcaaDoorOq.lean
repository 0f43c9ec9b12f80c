/- bank: a list of results that comes in, and how large its texts are; a list of deals. -/
import Derived.Test.YtbggadhaaphmcaaDoorOp
import Derived.Test.YtbggadhaaphmcaaDoorSa
import Derived.SizedLaws
namespace Go.Proofs.YtbggadhaaphmcaaDoor
open Go Go.ChangeShapes Go.WideShapes Go.Deep Go.RowKit
set_option linter.unusedVariables false

theorem wAll_mem {H : Type} {P : Program} {e : TypeId} : ∀ {l : List (DataW H)} {d : DataW H}, d ∈ l → ∀ n ∈ d.weights P e, n ∈ DataW.weightsAll P e l
  | d' :: r, d, hd, n, hn => by
    simp only [DataW.weightsAll, List.mem_append]
    rcases List.mem_cons.1 hd with rfl | h
    · exact Or.inl hn
    · exact Or.inr (wAll_mem h n hn)
theorem prs_of {H : Type} {enc : TypeId × Value → H} {w : World} {base : Nat} {spare : Nat → Bool} {held : Bool} {fuel : Nat} {a0 : Option Addr} {n c : Nat} {x : DataW H × List MemPlace}
    (h : DataW.trod enc Tryd.prog w base spare held fuel 34 [.slice a0 n c] = some x) : ∃ l : List Pr, Prs w a0 n l ∧ n ≤ maxLen ∧ ((∀ m ∈ x.1.weights Tryd.prog 34, m ≤ reachBytes) → ∀ p ∈ l, p.1.size ≤ reachBytes) := by
  rcases open_slice_fields Tryd.underlying34 Tryd.underlying45 (by kernel_rfl) (by kernel_rfl) h with ⟨hcs, _⟩ | ⟨a, len, cap, m, D, Pl, hcs, _, hl, hm, hmm, hx, hi⟩
  · simp at hcs
    obtain ⟨rfl, rfl, rfl⟩ := hcs
    exact ⟨[], ⟨rfl, fun h => absurd rfl h⟩, by simp [maxLen], fun _ p hp => by simp at hp⟩
  · simp at hcs
    obtain ⟨rfl, rfl, rfl⟩ := hcs
    have hle : n ≤ m := by rw [hmm]; split <;> omega
    have hcell : ∀ i, i < n → ∃ o : Pr, (∀ (r : Nat) (v : Value), [Value.string o.1, .bool o.2][r]? = some v → w.cell? (a.add (i * 2 + r)) = some v) ∧ ((∀ m ∈ x.1.weights Tryd.prog 34, m ≤ reachBytes) → o.1.size ≤ reachBytes) := by
      intro i hin
      obtain ⟨ys, k, hD, _, hyl, hf⟩ := hi i (by omega)
      obtain ⟨v0, y0, h0, hy0, t0⟩ := hf 0 _ rfl
      obtain ⟨v1, y1, h1, hy1, t1⟩ := hf 1 _ rfl
      obtain ⟨S, e0, e0', _⟩ := DataW.trod_string Tryd.underlying9 t0
      obtain ⟨M, e1, _⟩ := DataW.trod_bool Tryd.underlying4 t1
      simp at e0 e1
      subst e0 e1
      refine ⟨(S, M), fun r v hv => ?_, fun hw => ?_⟩
      · match r, hv with
        | 0, hv => simp at hv; subst hv; exact h0
        | 1, hv => simp at hv; subst hv; exact h1
        | r + 2, hv => simp at hv
      · subst hx
        have hb : Tryd.prog.underlying 34 = some (.slice 45) := Tryd.underlying34
        have hmem : D i ∈ (List.range n).map D := List.mem_map.2 ⟨i, List.mem_range.2 hin, rfl⟩
        have h3 : S.data.toList.length ∈ (D i).weights Tryd.prog 45 := by
          rw [hD]
          simp only [DataW.weights, Tryd.underlying45]
          refine DataW.weights_mem_each (j := 0) (t := 9) (d := .lit (.string S.data.toList)) rfl ?_ _ (by simp [DataW.weights])
          rw [List.getElem?_map, hy0, e0']
          rfl
        have h4 := hw S.data.toList.length (by
          simp only [DataW.weights, hb, List.mem_cons, List.mem_append]
          exact .inr (.inl (wAll_mem hmem _ h3)))
        rwa [show S.data.toList.length = S.size by cases S; rfl] at h4
    obtain ⟨l, hll, hp⟩ := pick hcell
    refine ⟨l, ⟨hll, fun hne => ?_⟩, by omega, fun hw p hpm => ?_⟩
    · have hn : 0 < n := by
        rcases Nat.eq_zero_or_pos n with h0 | h0
        · rw [h0] at hll
          rw [List.eq_nil_of_length_eq_zero hll] at hne
          exact absurd rfl hne
        · exact h0
      obtain ⟨o, ho⟩ := hcell 0 hn
      have h0 := ho.1 0 _ rfl
      rw [Nat.zero_mul, Nat.zero_add] at h0
      obtain ⟨b, off, rfl⟩ := spot_of_cell h0
      refine ⟨b, off, rfl, by rw [add_mk] at h0; exact block_lt_of_cell h0, fun i v hv => ?_⟩
      obtain ⟨o, h1, h2⟩ := flat_inv (m := 2) (by omega) (fun _ => rfl) hv
      have := (hp _ o h1).1 _ v h2
      rw [add_mk] at this
      rwa [show i / 2 * 2 + i % 2 = i by omega] at this
    · obtain ⟨i, hi⟩ := List.mem_iff_getElem?.1 hpm
      exact (hp i p hi).2 hw
/-! ### A list of deals -/
structure DealD where
  sh : Bool
  fr : Int
  to : Int
  am : Int
def flatDl (l : List DealD) : List Value := l.flatMap fun d => [.bool d.sh, .int .i64 d.fr, .int .i64 d.to, .int .i64 d.am]
def Deals (w : World) (A : Option Addr) (n : Nat) (l : List DealD) : Prop := l.length = n ∧ Rd w A (flatDl l)
section
variable {w w' w0 : World} {A : Option Addr} {n : Nat} {l : List DealD}
theorem flatDl_get {i : Nat} {d : DealD} (h : l[i]? = some d) : (flatDl l)[i * 4]? = some (.bool d.sh) ∧ (flatDl l)[i * 4 + 1]? = some (.int .i64 d.fr) ∧ (flatDl l)[i * 4 + 2]? = some (.int .i64 d.to) ∧ (flatDl l)[i * 4 + 3]? = some (.int .i64 d.am) := by
  have g := fun j hj => flat_get (f := fun d : DealD => [Value.bool d.sh, .int .i64 d.fr, .int .i64 d.to, .int .i64 d.am]) (m := 4) (fun _ _ => rfl) h (j := j) hj
  exact ⟨g 0 (by omega), g 1 (by omega), g 2 (by omega), g 3 (by omega)⟩
theorem Deals.new_ (h : Deals w A n l) (hc : NewW w w') : Deals w' A n l := ⟨h.1, h.2.new_ hc⟩
theorem Deals.below (h : Deals w0 A n l) (hb : Below w0.heap.size w0 w) : Deals w A n l := ⟨h.1, h.2.below hb⟩
theorem Deals.at_ (h : Deals w A n l) {i : Nat} {d : DealD} (ho : l[i]? = some d) : ∃ b off, A = some ⟨b, off, none⟩ ∧ w.cell? ⟨b, off + i * 4, none⟩ = some (.bool d.sh) ∧ w.cell? ⟨b, off + i * 4 + 1, none⟩ = some (.int .i64 d.fr) ∧
    w.cell? ⟨b, off + i * 4 + 2, none⟩ = some (.int .i64 d.to) ∧ w.cell? ⟨b, off + i * 4 + 3, none⟩ = some (.int .i64 d.am) := by
  obtain ⟨a0, a1, a2, a3⟩ := flatDl_get ho
  obtain ⟨b, off, hA, _, hc⟩ := h.2 (ne_of_get a0)
  exact ⟨b, off, hA, hc _ _ a0, by rw [Nat.add_assoc]; exact hc _ _ a1, by rw [Nat.add_assoc]; exact hc _ _ a2, by rw [Nat.add_assoc]; exact hc _ _ a3⟩
end
theorem deals_of {H : Type} {enc : TypeId × Value → H} {w : World} {base : Nat} {spare : Nat → Bool} {held : Bool} {fuel : Nat} {a0 : Option Addr} {n c : Nat} {x : DataW H × List MemPlace}
    (h : DataW.trod enc Tryd.prog w base spare held fuel 61 [.slice a0 n c] = some x) : ∃ l : List DealD, Deals w a0 n l ∧ n ≤ maxLen := by
  rcases open_slice_fields Tryd.underlying61 Tryd.underlying63 (by kernel_rfl) (by kernel_rfl) h with ⟨hcs, _⟩ | ⟨a, len, cap, m, D, Pl, hcs, _, hl, hm, hmm, _, hi⟩
  · simp at hcs
    obtain ⟨rfl, rfl, rfl⟩ := hcs
    exact ⟨[], ⟨rfl, fun h => absurd rfl h⟩, by simp [maxLen]⟩
  · simp at hcs
    obtain ⟨rfl, rfl, rfl⟩ := hcs
    have hle : n ≤ m := by rw [hmm]; split <;> omega
    have hcell : ∀ i, i < n → ∃ o : DealD, ∀ (r : Nat) (v : Value), [Value.bool o.sh, .int .i64 o.fr, .int .i64 o.to, .int .i64 o.am][r]? = some v → w.cell? (a.add (i * 4 + r)) = some v := by
      intro i hin
      obtain ⟨ys, k, _, _, _, hf⟩ := hi i (by omega)
      obtain ⟨v0, y0, h0, _, t0⟩ := hf 0 _ rfl
      obtain ⟨v1, y1, h1, _, t1⟩ := hf 1 _ rfl
      obtain ⟨v2, y2, h2, _, t2⟩ := hf 2 _ rfl
      obtain ⟨v3, y3, h3, _, t3⟩ := hf 3 _ rfl
      obtain ⟨K, e0, _⟩ := DataW.trod_bool Tryd.underlying4 t0
      obtain ⟨S, e1, _, _⟩ := DataW.trod_int Tryd.underlying3 t1
      obtain ⟨T, e2, _, _⟩ := DataW.trod_int Tryd.underlying3 t2
      obtain ⟨M, e3, _, _⟩ := DataW.trod_int Tryd.underlying3 t3
      simp at e0 e1 e2 e3
      subst e0 e1 e2 e3
      refine ⟨⟨K, S, T, M⟩, fun r v hv => ?_⟩
      match r, hv with
      | 0, hv => simp at hv; subst hv; exact h0
      | 1, hv => simp at hv; subst hv; exact h1
      | 2, hv => simp at hv; subst hv; exact h2
      | 3, hv => simp at hv; subst hv; exact h3
      | r + 4, hv => simp at hv
    obtain ⟨l, hll, hp⟩ := pick hcell
    refine ⟨l, ⟨hll, fun hne => ?_⟩, by omega⟩
    have hn : 0 < n := by
      rcases Nat.eq_zero_or_pos n with h0 | h0
      · rw [h0] at hll
        rw [List.eq_nil_of_length_eq_zero hll] at hne
        exact absurd rfl hne
      · exact h0
    obtain ⟨o, ho⟩ := hcell 0 hn
    have h0 := ho 0 _ rfl
    rw [Nat.zero_mul, Nat.zero_add] at h0
    obtain ⟨b, off, rfl⟩ := spot_of_cell h0
    refine ⟨b, off, rfl, by rw [add_mk] at h0; exact block_lt_of_cell h0, fun i v hv => ?_⟩
    obtain ⟨o, h1, h2⟩ := flat_inv (m := 4) (by omega) (fun _ => rfl) hv
    have := hp _ o h1 _ v h2
    rw [add_mk] at this
    rwa [show i / 4 * 4 + i % 4 = i by omega] at this
end Go.Proofs.YtbggadhaaphmcaaDoor
