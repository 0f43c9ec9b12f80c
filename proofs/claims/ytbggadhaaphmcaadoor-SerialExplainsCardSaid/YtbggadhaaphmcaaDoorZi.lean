/- serial: the laws' arguments opened: histories, lists of numbers. -/
import Derived.Test.YtbggadhaaphmcaaDoorZk
import Derived.Test.YtbggadhaaphmcaaDoorZj
import Derived.Test.YtbggadhaaphmcaaDoorOq
namespace Go.Proofs.YtbggadhaaphmcaaDoor
open Go Go.Lib Go.ChangeShapes Go.WideShapes Go.Deep Go.RowKit Go.ChangeAt
set_option linter.unusedVariables false

section
variable {H : Type} {enc : TypeId × Value → H} {w : World} {base : Nat} {spare : Nat → Bool} {held : Bool} {fuel : Nat}
theorem sliceForm34 {v : Value} {x : DataW H × List MemPlace} (h : DataW.trod enc Tryd.prog w base spare held fuel 34 [v] = some x) : ∃ A n c, v = .slice A n c := by
  rcases Go.Deep.open_slice Tryd.underlying34 h with ⟨e, _⟩ | ⟨a, len, cap, _, _, _, _, e, _⟩
  · injection e with e
    exact ⟨_, _, _, e⟩
  · injection e with e
    exact ⟨_, _, _, e⟩
theorem deeds_of {a0 : Option Addr} {n c : Nat} {x : DataW H × List MemPlace} (h : DataW.trod enc Tryd.prog w base spare held fuel 70 [.slice a0 n c] = some x) : ∃ l : Hist, Deeds w a0 n l := by
  rcases open_slice_fields Tryd.underlying70 Tryd.underlying89 (by kernel_rfl) (by kernel_rfl) h with ⟨hcs, _⟩ | ⟨a, len, cap, m, D, Pl, hcs, _, hl, hm, hmm, _, hi⟩
  · simp at hcs
    obtain ⟨rfl, rfl, rfl⟩ := hcs
    exact ⟨[], rfl, by simp [maxLen], fun h => by omega⟩
  · simp at hcs
    obtain ⟨rfl, rfl, rfl⟩ := hcs
    have hle : n ≤ m := by rw [hmm]; split <;> omega
    have hcell : ∀ i, i < n → ∃ d : DeedD, w.cell? (a.add (i * 5)) = some (.int .i64 d.fr) ∧ w.cell? (a.add (i * 5 + 1)) = some (.int .i64 d.to) ∧ (∃ A c, w.cell? (a.add (i * 5 + 2)) = some (.slice A d.plan.length c) ∧ Ops w A d.plan.length d.plan) ∧
        (∃ A c, w.cell? (a.add (i * 5 + 3)) = some (.slice A d.res.length c) ∧ Prs w A d.res.length d.res) ∧ w.cell? (a.add (i * 5 + 4)) = some (.bool d.op) ∧ d.plan.length ≤ maxLen ∧ d.res.length ≤ maxLen := by
      intro i hin
      obtain ⟨ys, k, _, _, _, hf⟩ := hi i (by omega)
      obtain ⟨v0, y0, h0, _, t0⟩ := hf 0 _ rfl
      obtain ⟨v1, y1, h1, _, t1⟩ := hf 1 _ rfl
      obtain ⟨v2, y2, h2, _, t2⟩ := hf 2 _ rfl
      obtain ⟨v3, y3, h3, _, t3⟩ := hf 3 _ rfl
      obtain ⟨v4, y4, h4, _, t4⟩ := hf 4 _ rfl
      obtain ⟨F, e0, _, _⟩ := DataW.trod_int Tryd.underlying3 t0
      obtain ⟨T, e1, _, _⟩ := DataW.trod_int Tryd.underlying3 t1
      obtain ⟨A2, q2, c2, e2⟩ := sliceForm31 t2
      obtain ⟨A3, q3, c3, e3⟩ := sliceForm34 t3
      obtain ⟨B, e4, _⟩ := DataW.trod_bool Tryd.underlying4 t4
      subst e2 e3
      simp at e0 e1 e4
      subst e0 e1 e4
      obtain ⟨p, hp, hpm⟩ := ops_of t2
      obtain ⟨r, hr, hrm, _⟩ := prs_of t3
      obtain rfl := hp.1
      obtain rfl := hr.1
      exact ⟨⟨F, T, p, r, B⟩, h0, h1, ⟨A2, c2, h2, hp⟩, ⟨A3, c3, h3, hr⟩, h4, hpm, hrm⟩
    obtain ⟨l, hll, hp⟩ := pick hcell
    refine ⟨l, hll, by omega, fun hn => ?_⟩
    obtain ⟨_, h0, _⟩ := hcell 0 hn
    rw [Nat.zero_mul] at h0
    obtain ⟨b, off, rfl⟩ := spot_of_cell h0
    refine ⟨b, off, rfl, by rw [add_mk] at h0; exact block_lt_of_cell h0, fun i d hi => ?_⟩
    obtain ⟨g0, g1, ⟨A2, c2, g2, k2⟩, ⟨A3, c3, g3, k3⟩, g4, l2, l3⟩ := hp i d hi
    rw [add_mk] at g0 g1 g2 g3 g4
    exact ⟨g0, by rw [Nat.add_assoc]; exact g1, ⟨A2, c2, by rw [Nat.add_assoc]; exact g2, k2⟩, ⟨A3, c3, by rw [Nat.add_assoc]; exact g3, k3⟩, by rw [Nat.add_assoc]; exact g4, l2, l3⟩
theorem ints58_of {a0 : Option Addr} {n c : Nat} {x : DataW H × List MemPlace} (h : DataW.trod enc Tryd.prog w base spare held fuel 58 [.slice a0 n c] = some x) : ∃ l : List Int, Nums w a0 n l ∧ n ≤ c ∧ c ≤ maxLen := by
  rcases Go.Deep.open_slice1 Tryd.underlying58 (by kernel_rfl) h with ⟨hcs, _⟩ | ⟨a, len, cap, m, k, V, D, Pl, hcs, _, hl, hm, hmm, _, hi⟩
  · simp at hcs
    obtain ⟨rfl, rfl, rfl⟩ := hcs
    exact ⟨[], ⟨rfl, fun h => absurd rfl h⟩, by omega, by simp [maxLen]⟩
  · simp at hcs
    obtain ⟨rfl, rfl, rfl⟩ := hcs
    have hle : n ≤ m := by rw [hmm]; split <;> omega
    have hcell : ∀ i, i < n → ∃ N : Int, w.cell? (a.add i) = some (.int .i64 N) := by
      intro i hin
      obtain ⟨hv, ht⟩ := hi i (by omega)
      obtain ⟨N, e0, _, _⟩ := DataW.trod_int Tryd.underlying3 ht
      simp at e0
      rw [e0] at hv
      exact ⟨N, hv⟩
    obtain ⟨l, hll, hp⟩ := pick hcell
    refine ⟨l, ⟨hll, fun hne => ?_⟩, hl, hm⟩
    have hn : 0 < n := by
      rcases Nat.eq_zero_or_pos n with h0 | h0
      · rw [h0] at hll
        rw [List.eq_nil_of_length_eq_zero hll] at hne
        exact absurd rfl hne
      · exact h0
    obtain ⟨_, h0⟩ := hcell 0 hn
    obtain ⟨b, off, rfl⟩ := spot_of_cell h0
    refine ⟨b, off, rfl, by rw [add_mk] at h0; exact block_lt_of_cell h0, fun i v hv => ?_⟩
    rw [List.getElem?_map] at hv
    cases hx : l[i]? with
    | none => rw [hx] at hv; cases hv
    | some N =>
      rw [hx] at hv
      simp at hv
      subst hv
      have := hp i N hx
      rwa [add_mk] at this
end
theorem checks_walk (A A2 : Option Addr) (n n2 c c2 : Nat) (l : Hist) (o : List Int) (w : World) (hE : Env w) (hD : Deeds w A n l) (hO : Nums w A2 n2 o) (hc2 : n2 ≤ c2) (hcm : c2 ≤ maxLen) :
    Calls Tryd.prog 10 #[.slice A n c, .slice A2 n2 c2] w fun e w' => e = .returned (.bool true) ∧ Below w.heap.size w w' :=
  checks_walk0 A A2 n n2 c c2 l o w hE hD hO hc2 hcm (fixedS_any hE)
end Go.Proofs.YtbggadhaaphmcaaDoor
