/- serial: what keys and values a map may have; how many keys a plan adds. No program is spoken of. -/
import Derived.Test.YtbggadhaaphmcaaDoorZo
namespace Go.Proofs.YtbggadhaaphmcaaDoor
open Go.Lib Go.RowKit
set_option linter.unusedVariables false

def KeyF (f : Has) : Prop := ∀ k v, f k = some v → 0 < k.length ∧ k.length ≤ 16
structure FitF (f : Has) : Prop where
  key : KeyF f
  sm : Sm f
theorem fit_zero : FitF none0 := ⟨fun k v h => by simp [none0] at h, sm_zero⟩
theorem key_step {s : Rs} {o : OpD} (h : KeyF s.f) (ho : okB o = true) (h6 : o.k ≠ 6) : KeyF (stepS s o).f := by
  obtain ⟨_, _, k0, k1, _⟩ := ok_kind ho h6
  intro k v hk
  unfold stepS at hk
  dsimp only at hk
  split at hk
  · unfold putF at hk
    split at hk
    · rename_i e
      rw [e, data_len]
      exact ⟨k0, k1⟩
    · exact h k v hk
  · exact h k v hk
theorem key_run : ∀ (l : List OpD) (s : Rs), KeyF s.f → (∀ o ∈ l, okB o = true ∧ o.k ≠ 6) → KeyF (l.foldl stepS s).f
  | [], s, h, _ => h
  | o :: l, s, h, ho => key_run l (stepS s o) (key_step h (ho o (by simp)).1 (ho o (by simp)).2) (fun x hx => ho x (List.mem_cons_of_mem _ hx))
theorem FitF.run {f : Has} (h : FitF f) (l : List OpD) : FitF (runF f l) := by
  refine ⟨?_, sm_run h.sm l⟩
  rcases Bool.eq_false_or_eq_true (goodB l) with hg | hg
  · rw [(run_good hg).2]
    exact key_run l ⟨f, none, []⟩ h.key (good_ops hg)
  · rw [(run_bad hg).2]
    exact h.key
theorem FitF.row {L : Wl} {f : Has} (h : FitF f) (hs : SortedW L f) : FitW L := by
  intro w hw
  obtain ⟨k, v⟩ := w
  have h1 := (hs.2 k v).1 hw
  have h2 := h.key _ _ h1
  have h3 := h.sm k.data.toList
  rw [h1, vOf_some] at h3
  rw [data_len] at h2
  exact ⟨h2.1, h2.2, h3⟩
theorem sorted_run : ∀ (l : List OpD) (s : Rs) (L : Wl), SortedW L s.f → ∃ M, SortedW M (l.foldl stepS s).f ∧ M.length ≤ L.length + l.length
  | [], s, L, h => ⟨L, h, by simp⟩
  | o :: l, s, L, h => by
    have key : ∃ M1, SortedW M1 (stepS s o).f ∧ M1.length ≤ L.length + 1 := by
      unfold stepS
      dsimp only
      split
      · exact ⟨_, putL_sorted h o.key _, putL_len _ _ _⟩
      · exact ⟨L, h, by omega⟩
    obtain ⟨M1, h1, h2⟩ := key
    obtain ⟨M, h3, h4⟩ := sorted_run l (stepS s o) M1 h1
    exact ⟨M, h3, by rw [List.length_cons]; omega⟩
theorem run_list {L : Wl} {f : Has} (h : SortedW L f) (l : List OpD) : ∃ M, SortedW M (runF f l) ∧ M.length ≤ L.length + 16 := by
  rcases Bool.eq_false_or_eq_true (goodB l) with hg | hg
  · obtain ⟨M, h1, h2⟩ := sorted_run l ⟨f, none, []⟩ L h
    exact ⟨M, by rw [(run_good hg).2]; exact h1, by have := good_len hg; omega⟩
  · exact ⟨L, by rw [(run_bad hg).2]; exact h, by omega⟩
theorem KM.mblk' {w0 w : World} {pb n : Nat} {f : Has} (h : KM w0 pb n f w) : ∃ mb, Blk w pb 94 #[.map mb] := by
  obtain ⟨mb, D, hm⟩ := h.pm
  exact ⟨_, hm.blk⟩
/-- A list of results does not lie where the map's pointer lies. -/
theorem prs_pb {w w' : World} {A : Option Addr} {n : Nat} {l : List Pr} {pb : Nat} {mb : Option Nat} (h : Prs w A n l) (hb : Blk w pb 94 #[.map mb]) (hc : Ch (fun g => g = pb) w w') : Prs w' A n l :=
  ⟨h.1, fun hne => by
    obtain ⟨b, off, hA, hlt, hcell⟩ := h.2 hne
    have hbp : b ≠ pb := by
      rintro rfl
      rcases l with _ | ⟨o, r⟩
      · exact absurd rfl hne
      · have h1 := hcell 0 (.string o.1) (by simp [flatP])
        rw [hb.cell] at h1
        rcases off with _ | off
        · simp at h1
        · simp at h1
    exact ⟨b, off, hA, Nat.lt_of_lt_of_le hlt hc.size, fun i v hv => (World.cell?_of_block (a := ⟨b, off + i, none⟩) (hc.block b hlt hbp)).trans (hcell i v hv)⟩⟩
end Go.Proofs.YtbggadhaaphmcaaDoor
