/- What a trimming does to a store's map, step by step. -/
import Derived.Test.YtfcdplfnhjbdnaaSo
import Derived.Maps.OwnSet
import Derived.Shelf.SlicesE.Clone
import Derived.Ground.SlgnProg
namespace Go.Proofs
open Go.Shelf
def Try.laysC28_ren : Go.Shelf.Ren := ⟨fun | 41 => 28 | n => n, fun | 22 => 56 | 23 => 66 | 4 => 4 | n => n, fun | n => n⟩
theorem Try.laysC28 : Go.Proofs.SlLaysE0.n41 Try.prog Try.laysC28_ren := {
  mixed := by kernel_rfl
  f41 := ⟨Try.f28.name, by decide, Try.func28.trans (congrArg some (by kernel_rfl))⟩
  t4 := Try.underlying4
  a4 := Try.isAgg4
  z4 := Try.sizeOf4
  v4 := Try.zeroValue4
  t22 := Try.underlying56
  a22 := Try.isAgg56
  z22 := Try.sizeOf56
  v22 := Try.zeroValue56 }
end Go.Proofs
namespace Go.Proofs.Ytfcdplfnhjbdnaa
open Go.RowKit Go.Maps Go.Shelf
set_option linter.unusedVariables false

theorem own_mono {w : World} {B B' : Nat} {e : TypeId} {size n : Nat} {v : Value} {xs : List Value} (h : w.ownsRow B e size v n xs) (hB : B' ≤ B) : w.ownsRow B' e size v n xs := by
  refine ⟨h.1, ?_⟩
  rcases h.2 with h2 | ⟨g, cap, cur, rfl, hg, r⟩
  · exact .inl h2
  · exact .inr ⟨g, cap, cur, rfl, by omega, r⟩
theorem clone_some (b off c : Nat) (l : List Ver) (w : World) (hn : l.length ≤ 1000000) (hc : ∀ i v, l[i]? = some v →
    w.cell? ⟨b, off + i * 3, none⟩ = some (.int .i64 v.t) ∧ w.cell? ⟨b, off + i * 3 + 1, none⟩ = some (.string v.val) ∧ w.cell? ⟨b, off + i * 3 + 2, none⟩ = some (.bool v.has)) :
    Calls Try.prog 28 #[.slice (some ⟨b, off, none⟩) l.length c] w fun e w' => ∃ v', e = .returned v' ∧ w'.ownsRow w.heap.size 66 3 v' l.length (flatV l) ∧ Below w.heap.size w w' := by
  obtain ⟨i0, hi0, hz0, hz1, hz2⟩ := info_parts ver_info
  refine (AnyE.slices_Clone Try.laysC28 i0 _ 3 32 hi0 hz0 hz1 hz2 rfl (by omega) (fun w => by kernel_rfl) b off l.length c (flatV l) w (flatV_len l) (by unfold maxLen; omega) (by omega) (fun j u hu => ?_) (flatV_one l)).mono fun e w' ⟨v', h1, h2, h3, h4⟩ => ⟨v', h1, h2, h4⟩
  have hj : j < l.length * 3 := by rw [← flatV_len]; exact lt_of_some hu
  obtain ⟨v, hv⟩ := some_of_lt (L := l) (i := j / 3) (by omega)
  obtain ⟨h0, h1, h2⟩ := flatV_get l hv
  obtain ⟨c0, c1, c2⟩ := hc _ v hv
  have hr : j % 3 = 0 ∨ j % 3 = 1 ∨ j % 3 = 2 := by omega
  rcases hr with hr | hr | hr
  · have e : j = j / 3 * 3 := by omega
    rw [e, h0] at hu
    rw [e, c0]; exact hu
  · have e : j = j / 3 * 3 + 1 := by omega
    rw [e, h1] at hu
    rw [e, ← Nat.add_assoc, c1]; exact hu
  · have e : j = j / 3 * 3 + 2 := by omega
    rw [e, h2] at hu
    rw [e, ← Nat.add_assoc, c2]; exact hu
theorem clone_none (n c : Nat) (w : World) : Calls Try.prog 28 #[.slice none n c] w fun e w' => e = .returned (.slice none 0 0) ∧ w' = w := AnyE.slices_Clone_nil Try.laysC28 n c w
section
variable {w w' : World} {B cb mb n : Nat} {D : DataW Value} {V : List UInt8 → Value} {s : CS}
theorem CM.tight (h : CM w B cb mb n D V s) {m : Nat} (hm : Maps.size D ≤ m) : CM w B cb mb m D V s := by
  refine ⟨h.blk, ?_, h.at_, h.row, h.has, h.apart, h.cB, h.mB⟩
  obtain ⟨es, clock, hb, F, hs, hD⟩ := h.map
  refine ⟨es, clock, hb, F, ?_, hD⟩
  rw [hD, Maps.size_eq, length_sorted] at hm
  simpa using hm
theorem CM.tidy (h : CM w B cb mb n D V s) : Maps.Tidy D := by
  obtain ⟨es, he, hp, _⟩ := h.map.canon keyed9
  exact ⟨es, he, Maps.apart_of_rising hp⟩
/-- A key goes. -/
theorem trim_del (h : CM w B cb mb n D V s) (k : List UInt8) (hm : w'.ownsMap Try.prog 9 RH mb n (D.del (.string k))) (hg : w.grownBy w' (some mb)) :
    CM w' B cb mb n (D.del (.string k)) (fun j => if j = k then nilS else V j) { s with f := updF s.f k [] } ∧ Ch (fun g => g = mb) w w' := by
  have hc : Ch (fun g => g = mb) w w' := (Ch.of_grown hg).mono fun g hg => by injection hg with hg; exact hg.symm
  refine ⟨⟨h.blk.ch hc (fun e => h.ne e.symm), hm, fun j => ?_, fun j => ?_, fun j => ?_, fun j j' g hj => ?_, h.cB, h.mB⟩, hc⟩
  · by_cases e : j = k
    · subst e; rw [atKey_del_same, if_pos rfl]
    · rw [atKey_del_other (by intro e'; injection e' with e'; exact e e'), h.at_ j, if_neg e]
  · by_cases e : j = k
    · subst e
      simp only [updF, if_pos]
      exact ⟨rfl, .inl ⟨rfl, rfl⟩⟩
    · simp only [updF, if_neg e]
      exact own_ch (h.row j) hc (fun g hg e => (h.row_ne j).2 (e ▸ hg))
  · by_cases e : j = k
    · subst e; rw [has_del_same]; simp [updF]
    · rw [has_del_other (by intro e'; injection e' with e'; exact e e'), h.has j]; simp [updF, e]
  · by_cases e : j = k
    · rw [if_pos e]; intro hv; simp [nilS, Value.ownBlock] at hv
    · rw [if_neg e]
      by_cases e' : j' = k
      · rw [if_pos e']; intro _ hv; simp [nilS, Value.ownBlock] at hv
      · rw [if_neg e']; exact h.apart j j' g hj
/-- A key has a row of its own, a new one. -/
theorem trim_put {w6 w8 : World} (h : CM w B cb mb n D V s) (k : List UInt8) (hN : NewW w w6) {v6 : Value} {l6 : List Ver} (ho : w6.ownsRow w.heap.size 66 3 v6 l6.length (flatV l6)) (hne : l6 ≠ [])
    (hm : w8.ownsMap Try.prog 9 RH mb (n + 1) (D.put (.string k) (.held v6))) (hg : w6.grownBy w8 (some mb)) (hB : B ≤ w.heap.size) (hk : s.f k ≠ []) (hsz : Maps.size D ≤ n) :
    CM w8 B cb mb n (D.put (.string k) (.held v6)) (fun j => if j = k then v6 else V j) { s with f := updF s.f k l6 } ∧ Ch (fun g => g = mb) w w8 ∧ ∀ g, v6.ownBlock = some g → w.heap.size ≤ g := by
  have h6 := h.new_ hN
  have hc : Ch (fun g => g = mb) w6 w8 := (Ch.of_grown hg).mono fun g hg => by injection hg with hg; exact hg.symm
  have hmb6 : v6.ownBlock ≠ some mb := map_row h6.map ho
  have hlow : ∀ g, v6.ownBlock = some g → w.heap.size ≤ g := fun g hg => (own_lt ho hg).1
  refine ⟨CM.tight (n := n + 1) (V := fun j => if j = k then v6 else V j) (s := { s with f := updF s.f k l6 }) ⟨h6.blk.ch hc (fun e => h6.ne e.symm), hm, fun j => ?_, fun j => ?_, fun j => ?_, fun j j' g hj => ?_, h.cB, h.mB⟩ ?_, (hN.mono fun _ h => h.elim).trans' hc, hlow⟩
  · by_cases e : j = k
    · subst e; rw [atKey_put_same h.isMap (by trivial), if_pos rfl]
    · rw [atKey_put_other (by intro e'; injection e' with e'; exact e e'), h.at_ j, if_neg e]
  · by_cases e : j = k
    · subst e
      simp only [updF, if_pos]
      exact own_mono (own_ch ho hc (fun g hg e => hmb6 (e ▸ hg))) hB
    · simp only [updF, if_neg e]
      exact own_ch (h6.row j) hc (fun g hg e => (h6.row_ne j).2 (e ▸ hg))
  · by_cases e : j = k
    · subst e; rw [has_put_same h.isMap (by trivial)]; simp [updF, hne]
    · rw [has_put_other (by intro e'; injection e' with e'; exact e e'), h.has j]; simp [updF, e]
  · have hold : ∀ j g, (V j).ownBlock = some g → v6.ownBlock ≠ some g := fun j g hv h6 => by
      have := (own_lt (h.row j) hv).2
      have := hlow g h6
      omega
    by_cases e : j = k
    · rw [if_pos e, if_neg (fun e' => hj (e.trans e'.symm))]
      exact fun hv hv' => hold j' g hv' hv
    · rw [if_neg e]
      by_cases e' : j' = k
      · rw [if_pos e']; exact fun hv => hold j g hv
      · rw [if_neg e']; exact h.apart j j' g hj
  · rw [size_put h.tidy, if_pos ((h.has k).2 hk)]
    exact hsz
end
end Go.Proofs.Ytfcdplfnhjbdnaa
