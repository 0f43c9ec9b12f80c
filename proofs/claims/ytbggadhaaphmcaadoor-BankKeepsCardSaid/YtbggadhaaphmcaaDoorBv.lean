/- bank: what BankPlans asks, in plain words; Share whole. -/
import Derived.Test.YtbggadhaaphmcaaDoorBi
namespace Go.Proofs.YtbggadhaaphmcaaDoor
open Go.Lib Go.RowKit
set_option linter.unusedVariables false

def shareL (n : Nat) (f s : Int) : List OpD := if mayE n f s = 0 then addsL (giftsOf (shareI n f s)) else []
theorem Share_all (n : Nat) (f s : Int) (w : World) : Calls Tryd.prog 32 #[.int .i64 n, .int .i64 f, .int .i64 s] w fun e w' => ∃ (A : Option Addr) (c : Nat), e = .returned (.tuple #[.slice A (shareL n f s).length c, .int .i64 (mayE n f s)]) ∧ Ops w' A (shareL n f s).length (shareL n f s) ∧ NewW w w' := by
  by_cases h : mayE n f s = 0
  · obtain ⟨a, b, c, d, e⟩ := may_zero h
    obtain ⟨F, rfl⟩ : ∃ F : Nat, f = F := ⟨f.toNat, by omega⟩
    have hL : shareL n F s = addsL (giftsOf (shareI n F s)) := if_pos h
    have hl : (addsL (giftsOf (shareI n F s))).length = n := by rw [addsL_len, gifts_len, shareI_len _ _ (by omega)]
    rw [hL, hl, h]
    exact (Share_any n F s (by omega) (by omega) ⟨d, e⟩ w).mono fun e w' hS => hS
  · have hL : shareL n f s = [] := if_neg h
    rw [hL]
    exact (Share_bad n f s h w).mono fun e w' ⟨he, hw⟩ => ⟨none, 0, he, ops_nil, by subst hw; exact Ch.refl _ _⟩
theorem move_len_bad {n f t s : Int} (h : moveE n f t s ≠ 0) : moveL n f t s = [] := if_neg h
theorem may_arg {n f s : Int} (h : (isB n && amB s) = false) : mayE n f s = 1 := by
  unfold mayE
  rw [h, if_neg (by simp)]
theorem move_arg {n f t s : Int} (h : (isB n && amB s) = false) : moveE n f t s = 1 ∧ moveL n f t s = [] := by
  have h1 : moveE n f t s = 1 := by unfold moveE; rw [may_arg h, if_neg (by decide)]
  exact ⟨h1, move_len_bad (by rw [h1]; decide)⟩
theorem share_arg {n : Nat} {f s : Int} (h : (isB n && amB s) = false) : shareL n f s = [] := by
  unfold shareL
  rw [may_arg h, if_neg (by decide)]
theorem gifts_take {l : List Int} {j : Nat} {x : Int} (h : l[j]? = some x) : addsL (giftsOf (l.take (j + 1))) = addsL (giftsOf (l.take j)) ++ [addO j x] := by
  have hj := lt_of_some h
  rw [List.take_succ_eq_append_getElem hj]
  rw [List.getElem?_eq_getElem hj] at h
  injection h with h
  rw [h, gifts_snoc, addsL_snoc, List.length_take, show min j l.length = j by omega]
theorem m_one {w : World} {A : Option Addr} {n : Nat} {i x : Int} (h : Ops w A n [addO i x]) : ∃ b off, A = some ⟨b, off, none⟩ ∧ w.cell? ⟨b, off, none⟩ = some (.int .i64 5) ∧ w.cell? ⟨b, off + 1, none⟩ = some (.string (keyT i)) ∧ w.cell? ⟨b, off + 2, none⟩ = some (.string ⟨#[]⟩) ∧ w.cell? ⟨b, off + 3, none⟩ = some (.int .i64 x) := by
  obtain ⟨b, off, rfl, h0, h1, h2, h3⟩ := h.at_ (i := 0) rfl
  simp only [Nat.zero_mul, Nat.add_zero] at h0 h1 h2 h3
  exact ⟨b, off, rfl, h0, h1, h2, h3⟩
theorem m_one' {w : World} {b off : Nat} {i x : Int} (h : ∃ b' off', (some ⟨b, off, none⟩ : Option Addr) = some ⟨b', off', none⟩ ∧ w.cell? ⟨b', off', none⟩ = some (.int .i64 5) ∧ w.cell? ⟨b', off' + 1, none⟩ = some (.string (keyT i)) ∧ w.cell? ⟨b', off' + 2, none⟩ = some (.string ⟨#[]⟩) ∧ w.cell? ⟨b', off' + 3, none⟩ = some (.int .i64 x)) :
    w.cell? ⟨b, off, none⟩ = some (.int .i64 5) ∧ w.cell? ⟨b, off + 1, none⟩ = some (.string (keyT i)) ∧ w.cell? ⟨b, off + 2, none⟩ = some (.string ⟨#[]⟩) ∧ w.cell? ⟨b, off + 3, none⟩ = some (.int .i64 x) := by
  obtain ⟨b', off', e, h⟩ := h
  injection e with e
  injection e with e1 e2 _
  subst e1 e2
  exact h
theorem m_two {w : World} {A : Option Addr} {n : Nat} {i x j y : Int} (h : Ops w A n [addO i x, addO j y]) : ∃ b off, A = some ⟨b, off, none⟩ ∧ w.cell? ⟨b, off, none⟩ = some (.int .i64 5) ∧ w.cell? ⟨b, off + 1, none⟩ = some (.string (keyT i)) ∧ w.cell? ⟨b, off + 2, none⟩ = some (.string ⟨#[]⟩) ∧ w.cell? ⟨b, off + 3, none⟩ = some (.int .i64 x) ∧
    w.cell? ⟨b, off + 4, none⟩ = some (.int .i64 5) ∧ w.cell? ⟨b, off + 4 + 1, none⟩ = some (.string (keyT j)) ∧ w.cell? ⟨b, off + 4 + 2, none⟩ = some (.string ⟨#[]⟩) ∧ w.cell? ⟨b, off + 4 + 3, none⟩ = some (.int .i64 y) := by
  obtain ⟨b, off, rfl, h0, h1, h2, h3⟩ := h.at_ (i := 0) rfl
  obtain ⟨b', off', e, g0, g1, g2, g3⟩ := h.at_ (i := 1) rfl
  injection e with e
  injection e with e1 e2 _
  subst e1 e2
  simp only [Nat.zero_mul, Nat.add_zero, Nat.one_mul] at h0 h1 h2 h3 g0 g1 g2 g3
  exact ⟨b, off, rfl, h0, h1, h2, h3, g0, g1, g2, g3⟩
theorem m_two' {w : World} {b off : Nat} {i x j y : Int} (h : ∃ b' off', (some ⟨b, off, none⟩ : Option Addr) = some ⟨b', off', none⟩ ∧ w.cell? ⟨b', off', none⟩ = some (.int .i64 5) ∧ w.cell? ⟨b', off' + 1, none⟩ = some (.string (keyT i)) ∧ w.cell? ⟨b', off' + 2, none⟩ = some (.string ⟨#[]⟩) ∧ w.cell? ⟨b', off' + 3, none⟩ = some (.int .i64 x) ∧
    w.cell? ⟨b', off' + 4, none⟩ = some (.int .i64 5) ∧ w.cell? ⟨b', off' + 4 + 1, none⟩ = some (.string (keyT j)) ∧ w.cell? ⟨b', off' + 4 + 2, none⟩ = some (.string ⟨#[]⟩) ∧ w.cell? ⟨b', off' + 4 + 3, none⟩ = some (.int .i64 y)) :
    w.cell? ⟨b, off, none⟩ = some (.int .i64 5) ∧ w.cell? ⟨b, off + 1, none⟩ = some (.string (keyT i)) ∧ w.cell? ⟨b, off + 2, none⟩ = some (.string ⟨#[]⟩) ∧ w.cell? ⟨b, off + 3, none⟩ = some (.int .i64 x) ∧
    w.cell? ⟨b, off + 4, none⟩ = some (.int .i64 5) ∧ w.cell? ⟨b, off + 4 + 1, none⟩ = some (.string (keyT j)) ∧ w.cell? ⟨b, off + 4 + 2, none⟩ = some (.string ⟨#[]⟩) ∧ w.cell? ⟨b, off + 4 + 3, none⟩ = some (.int .i64 y) := by
  obtain ⟨b', off', e, h⟩ := h
  injection e with e
  injection e with e1 e2 _
  subst e1 e2
  exact h
def Apart (v u : Value) : Prop := ∀ g, v.ownBlock = some g → u.ownBlock ≠ some g
theorem apart_nil (u : Value) : Apart (.slice none 0 0) u := fun g h => by simp [Value.ownBlock] at h
theorem Apart.symm {v u : Value} (h : Apart v u) : Apart u v := fun g hg hv => h g hv hg
/-- Behind an appending to v: v' and u still stand apart. -/
theorem apart_app {w : World} {B size n : Nat} {e : TypeId} {v v' u : Value} {xs : List Value} (h : Apart v u) (hu : w.ownsRow B e size u n xs) (hat : v'.ownBlock = v.ownBlock ∨ v'.ownBlock = some w.heap.size) : Apart v' u := by
  intro g hg hug
  rcases hat with e | e
  · rw [e] at hg
    exact h g hg hug
  · rw [e] at hg
    have := (own_lt hu hug).2
    simp only [Option.some.injEq] at hg
    omega
theorem own_apart {w w' : World} {B size n : Nat} {e : TypeId} {v u : Value} {xs : List Value} (hu : w.ownsRow B e size u n xs) (h : Apart v u) (hg : w.grownBy w' v.ownBlock) : w'.ownsRow B e size u n xs :=
  own_ch hu (Ch.of_grown hg) (fun k hk hs => h k hs hk)
theorem sames_true {w : World} {A B : Option Addr} {n c d : Nat} {P : List OpD} (h1 : Ops w A n P) (h2 : Ops w B n P) (hn : n ≤ 100) :
    Calls Tryd.prog 36 #[.slice A n c, .slice B n d] w fun e w' => e = .returned (.bool true) ∧ NewW w w' :=
  (SameOps_any h1 h2 (by omega) (by omega)).mono fun e w' ⟨he, hn⟩ => ⟨by rw [he, decide_eq_true rfl], hn⟩
end Go.Proofs.YtbggadhaaphmcaaDoor
