/- The arguments of the laws opened: lists of operations, and lists of them. -/
import Derived.Test.YtbggadhaaphmcaaDoorFe
import Derived.Test.YtbggadhaaphmcaaDoorLibArgs
import Derived.Deep.Slices
import Derived.OpenShut
namespace Go.Proofs.YtbggadhaaphmcaaDoor
open Go Go.Lib Go.RowKit Go.ChangeShapes Go.WideShapes Go.ChangeAt
set_option linter.unusedVariables false

theorem flat_inv {α : Type} {f : α → List Value} {m : Nat} (hm : 0 < m) (hf : ∀ x, (f x).length = m) : ∀ {l : List α} {i : Nat} {v : Value}, (l.flatMap f)[i]? = some v → ∃ o, l[i / m]? = some o ∧ (f o)[i % m]? = some v
  | [], i, v, h => by simp at h
  | a :: l, i, v, h => by
    rw [List.flatMap_cons] at h
    by_cases hi : i < m
    · rw [List.getElem?_append_left (by rw [hf]; exact hi)] at h
      exact ⟨a, by rw [Nat.div_eq_of_lt hi]; rfl, by rw [Nat.mod_eq_of_lt hi]; exact h⟩
    · rw [List.getElem?_append_right (by rw [hf]; omega), hf] at h
      obtain ⟨o, h1, h2⟩ := flat_inv hm hf h
      obtain ⟨q, rfl⟩ : ∃ q, i = q + m := ⟨i - m, by omega⟩
      rw [Nat.add_sub_cancel] at h1 h2
      exact ⟨o, by rw [Nat.add_div_right _ hm]; exact h1, by rw [Nat.add_mod_right]; exact h2⟩
theorem pick {α : Type} {P : Nat → α → Prop} : ∀ {n : Nat}, (∀ i, i < n → ∃ x, P i x) → ∃ l : List α, l.length = n ∧ ∀ i x, l[i]? = some x → P i x
  | 0, _ => ⟨[], rfl, by simp⟩
  | n + 1, h => by
    obtain ⟨l, hl, hp⟩ := pick (n := n) (fun i hi => h i (by omega))
    obtain ⟨x, hx⟩ := h n (by omega)
    refine ⟨l ++ [x], by simp [hl], fun i y hy => ?_⟩
    by_cases hi : i < l.length
    · rw [List.getElem?_append_left hi] at hy
      exact hp i y hy
    · rw [List.getElem?_append_right (by omega)] at hy
      have h0 := lt_of_some hy
      simp at h0
      rw [show i - l.length = 0 by omega] at hy
      simp at hy
      subst hy
      rw [show i = n by omega]
      exact hx
theorem sliceForm31 {H : Type} {enc : TypeId × Value → H} {w : World} {base : Nat} {spare : Nat → Bool} {held : Bool} {fuel : Nat} {v : Value} {x : DataW H × List MemPlace}
    (h : DataW.trod enc Tryd.prog w base spare held fuel 31 [v] = some x) : ∃ A n c, v = .slice A n c := by
  rcases Go.Deep.open_slice Tryd.underlying31 h with ⟨e, _⟩ | ⟨a, len, cap, _, _, _, _, e, _⟩
  · injection e with e
    exact ⟨_, _, _, e⟩
  · injection e with e
    exact ⟨_, _, _, e⟩
theorem ops_of {H : Type} {enc : TypeId × Value → H} {w : World} {base : Nat} {spare : Nat → Bool} {held : Bool} {fuel : Nat} {a0 : Option Addr} {n c : Nat} {x : DataW H × List MemPlace}
    (h : DataW.trod enc Tryd.prog w base spare held fuel 31 [.slice a0 n c] = some x) : ∃ l : List OpD, Ops w a0 n l ∧ n ≤ maxLen := by
  rcases open_slice_fields Tryd.underlying31 Tryd.underlying41 (by kernel_rfl) (by kernel_rfl) h with ⟨hcs, _⟩ | ⟨a, len, cap, m, D, Pl, hcs, _, hl, hm, hmm, _, hi⟩
  · simp at hcs
    obtain ⟨rfl, rfl, rfl⟩ := hcs
    exact ⟨[], ⟨rfl, fun h => absurd rfl h⟩, by simp [maxLen]⟩
  · simp at hcs
    obtain ⟨rfl, rfl, rfl⟩ := hcs
    have hle : n ≤ m := by rw [hmm]; split <;> omega
    have hcell : ∀ i, i < n → ∃ o : OpD, ∀ (r : Nat) (v : Value), [Value.int .i64 o.k, .string o.key, .string o.val, .int .i64 o.n][r]? = some v → w.cell? (a.add (i * 4 + r)) = some v := by
      intro i hin
      obtain ⟨ys, k, _, _, _, hf⟩ := hi i (by omega)
      obtain ⟨v0, y0, h0, _, t0⟩ := hf 0 _ rfl
      obtain ⟨v1, y1, h1, _, t1⟩ := hf 1 _ rfl
      obtain ⟨v2, y2, h2, _, t2⟩ := hf 2 _ rfl
      obtain ⟨v3, y3, h3, _, t3⟩ := hf 3 _ rfl
      obtain ⟨K, e0, _, _⟩ := DataW.trod_int Tryd.underlying3 t0
      obtain ⟨S, e1, _, _⟩ := DataW.trod_string Tryd.underlying9 t1
      obtain ⟨T, e2, _, _⟩ := DataW.trod_string Tryd.underlying9 t2
      obtain ⟨M, e3, _, _⟩ := DataW.trod_int Tryd.underlying3 t3
      simp at e0 e1 e2 e3
      subst e0 e1 e2 e3
      refine ⟨⟨K, S, T, M⟩, fun r v hv => ?_⟩
      match r, hv with
      | 0, hv => simp at hv; subst hv; exact h0
      | 1, hv => simp at hv; subst hv; exact h1
      | 2, hv => simp at hv; subst hv; exact h2
      | 3, hv => simp at hv; subst hv; exact h3
      | r + 4, hv => simp at hv
    obtain ⟨l, hll, hp⟩ := pick hcell
    refine ⟨l, ⟨hll, fun hne => ?_⟩, by omega⟩
    have hn : 0 < n := by
      rcases Nat.eq_zero_or_pos n with h0 | h0
      · rw [h0] at hll
        rw [List.eq_nil_of_length_eq_zero hll] at hne
        exact absurd rfl hne
      · exact h0
    obtain ⟨o, ho⟩ := hcell 0 hn
    have h0 := ho 0 _ rfl
    rw [Nat.zero_mul, Nat.zero_add] at h0
    obtain ⟨b, off, rfl⟩ := spot_of_cell h0
    refine ⟨b, off, rfl, by rw [add_mk] at h0; exact block_lt_of_cell h0, fun i v hv => ?_⟩
    obtain ⟨o, h1, h2⟩ := flat_inv (m := 4) (by omega) (fun _ => rfl) hv
    have := hp _ o h1 _ v h2
    rw [add_mk] at this
    rwa [show i / 4 * 4 + i % 4 = i by omega] at this
theorem plans_of {H : Type} {enc : TypeId × Value → H} {w : World} {base : Nat} {spare : Nat → Bool} {held : Bool} {fuel : Nat} {a0 : Option Addr} {n c : Nat} {x : DataW H × List MemPlace}
    (h : DataW.trod enc Tryd.prog w base spare held fuel 22 [.slice a0 n c] = some x) : ∃ ps : List (List OpD), Plans w a0 n ps := by
  rcases Go.Deep.open_slice1 Tryd.underlying22 (by kernel_rfl) h with ⟨hcs, _⟩ | ⟨a, len, cap, m, k, V, D, Pl, hcs, _, hl, hm, hmm, _, hi⟩
  · simp at hcs
    obtain ⟨rfl, rfl, rfl⟩ := hcs
    exact ⟨[], rfl, by simp [maxLen], fun h => by omega⟩
  · simp at hcs
    obtain ⟨rfl, rfl, rfl⟩ := hcs
    have hle : n ≤ m := by rw [hmm]; split <;> omega
    have hcell : ∀ i, i < n → ∃ p : List OpD, p.length ≤ maxLen ∧ ∃ A c, w.cell? (a.add i) = some (.slice A p.length c) ∧ Ops w A p.length p := by
      intro i hin
      obtain ⟨hv, ht⟩ := hi i (by omega)
      obtain ⟨A, q, c', hV⟩ := sliceForm31 ht
      rw [hV] at hv ht
      obtain ⟨l, hO, hq⟩ := ops_of ht
      obtain rfl := hO.1
      exact ⟨l, hq, A, c', hv, hO⟩
    obtain ⟨l, hll, hp⟩ := pick hcell
    refine ⟨l, hll, by omega, fun hn => ?_⟩
    obtain ⟨_, _, _, _, h0, _⟩ := hcell 0 hn
    obtain ⟨b, off, rfl⟩ := spot_of_cell h0
    refine ⟨b, off, rfl, by rw [add_mk] at h0; exact block_lt_of_cell h0, fun i p hi => ?_⟩
    obtain ⟨hq, A, c', hc, hO⟩ := hp i p hi
    rw [add_mk] at hc
    exact ⟨⟨A, c', hc, hO⟩, hq⟩
end Go.Proofs.YtbggadhaaphmcaaDoor
