/- A trimming, in plain words: what it leaves tells the same from the floor on; once more nothing goes. -/
import Derived.Test.YtfcdplfnhjbdnaaFe
namespace Go.Proofs.Ytfcdplfnhjbdnaa
open Go.RowKit Go.Maps
set_option linter.unusedVariables false

/-- What has no value holds none. -/
def Void (s : CS) : Prop := ∀ k, ∀ v ∈ s.f k, v.has = false → v.val = ⟨#[]⟩
theorem void_empty : Void emptyS := fun k v hv => by simp [emptyS] at hv
theorem void_put {s : CS} (h : Void s) (K V : ByteArray) (H : Bool) (M : Int) : Void (putS s K V H M) := by
  intro k v hv hh
  by_cases he : putE s K V M = 0
  · rw [put_is he] at hv
    split at hv
    · rcases List.mem_append.1 hv with hv | hv
      · exact h k v (cutAt_sub _ _ v hv) hh
      · simp at hv
        subst hv
        have : H = false := hh
        subst this
        rfl
    · exact h k v hv hh
  · rw [put_no he] at hv
    exact h k v hv hh
theorem take_upN {l : List Ver} (h : l.Pairwise fun a b => a.t < b.t) (m : Int) : ∀ v ∈ l.take (upN l m), v.t ≤ m := by
  intro v hv
  obtain ⟨i, hi⟩ := List.getElem?_of_mem hv
  have hil := lt_of_some hi
  rw [List.length_take] at hil
  rw [List.getElem?_take_of_lt (by omega)] at hi
  exact (rise_up h m hi).1 (by omega)
theorem upN_drop {l : List Ver} {g : Nat} {m : Int} (hg : g ≤ l.length) (h : ∀ v ∈ l.take g, v.t ≤ m) : upN (l.drop g) m = upN l m - g := by
  have h1 : upN l m = (l.take g).countP (fun v => decide (v.t ≤ m)) + (l.drop g).countP (fun v => decide (v.t ≤ m)) := by
    unfold upN
    rw [← List.countP_append, List.take_append_drop]
  have h2 : (l.take g).countP (fun v => decide (v.t ≤ m)) = g := by
    rw [List.countP_eq_length.2 (fun v hv => by simpa using h v hv), List.length_take]
    omega
  unfold upN at h1 ⊢
  omega
/-- The ways a floor may take a row's first ones. -/
theorem gone_ways {l : List Ver} (h : l.Pairwise fun a b => a.t < b.t) (m : Int) :
    (upN l m = 0 ∧ goneN l m = 0) ∨ ∃ u v, upN l m = u + 1 ∧ l[u]? = some v ∧ v.t ≤ m ∧ ((v.has = true ∧ goneN l m = u) ∨ (v.has = false ∧ goneN l m = u + 1)) := by
  rcases Nat.eq_zero_or_pos (upN l m) with h0 | h0
  · left
    refine ⟨h0, ?_⟩
    unfold goneN
    rw [h0]
    rcases hx : l[0 - 1]? with _ | v
    · rfl
    · have := (rise_up h m (i := 0) hx).2
      unfold goneK
      simp only
      rw [if_neg]
      rintro ⟨_, hv⟩
      have := this hv
      omega
  · right
    obtain ⟨u, hu⟩ : ∃ u, upN l m = u + 1 := ⟨upN l m - 1, by omega⟩
    have hle := upN_le l m
    obtain ⟨v, hv⟩ := some_of_lt (L := l) (i := u) (by omega)
    have hvt := (rise_up h m hv).1 (by omega)
    refine ⟨u, v, hu, hv, hvt, ?_⟩
    unfold goneN goneK
    rw [hu, Nat.add_sub_cancel, hv]
    simp only
    rcases hh : v.has with _ | _
    · right; simp [hvt]
    · left; simp
theorem gone_again {l : List Ver} (h : l.Pairwise fun a b => a.t < b.t) (m : Int) : goneN (l.drop (goneN l m)) m = 0 := by
  have hs := h.sublist (List.drop_sublist (goneN l m) l)
  have htk := take_upN h m
  rcases gone_ways h m with ⟨h0, hg⟩ | ⟨u, v, hu, hv, hvt, hg | hg⟩
  · rw [hg, List.drop_zero, hg]
  · obtain ⟨hh, hg⟩ := hg
    have hul : u ≤ l.length := by have := lt_of_some hv; omega
    rw [hg]
    have hup : upN (l.drop u) m = 1 := by
      rw [upN_drop hul (fun x hx => htk x ((List.take_subset_take_left l (by omega)) hx)), hu]; omega
    unfold goneN goneK
    rw [hup, List.getElem?_drop, show u + (1 - 1) = u from rfl, hv]
    simp [hh]
  · obtain ⟨hh, hg⟩ := hg
    have hul : u + 1 ≤ l.length := lt_of_some hv
    rw [hg]
    have hup : upN (l.drop (u + 1)) m = 0 := by
      rw [upN_drop hul (fun x hx => htk x (by rw [hu]; exact hx)), hu]; omega
    rcases gone_ways (l := l.drop (u + 1)) (by rw [hg] at hs; exact hs) m with ⟨_, hg2⟩ | ⟨_, _, hu2, _⟩
    · exact hg2
    · omega
theorem val_drop {l : List Ver} (h : l.Pairwise fun a b => a.t < b.t) (hv : ∀ v ∈ l, v.has = false → v.val = ⟨#[]⟩) {m at' : Int} (hm : m ≤ at') : valOf (l.drop (goneN l m)) at' = valOf l at' := by
  have htk := take_upN h m
  have hmono : upN l m ≤ upN l at' := by
    unfold upN
    exact List.countP_mono_left fun v _ hv => by simp at hv ⊢; omega
  have hle := upN_le l at'
  rcases gone_ways h m with ⟨h0, hg⟩ | ⟨u, v, hu, hvu, hvt, hg | hg⟩
  · rw [hg, List.drop_zero]
  · obtain ⟨hh, hg⟩ := hg
    have hup : upN (l.drop u) at' = upN l at' - u := upN_drop (by omega) (fun x hx => by
      have := htk x ((List.take_subset_take_left l (by omega)) hx); omega)
    rw [hg]
    unfold valOf
    rw [hup, if_neg (by omega), if_neg (by omega), List.getElem?_drop, show u + (upN l at' - u - 1) = upN l at' - 1 by omega]
  · obtain ⟨hh, hg⟩ := hg
    have hup : upN (l.drop (u + 1)) at' = upN l at' - (u + 1) := upN_drop (by omega) (fun x hx => by
      have := htk x (by rw [hu]; exact hx); omega)
    rw [hg]
    unfold valOf
    rw [hup, if_neg (show ¬ upN l at' = 0 by omega)]
    by_cases e : upN l at' - (u + 1) = 0
    · rw [if_pos e, show upN l at' - 1 = u by omega, hvu]
      simp only
      rw [hh, hv v (mem_of_some hvu) hh]
      rfl
    · rw [if_neg e, List.getElem?_drop, show u + 1 + (upN l at' - (u + 1) - 1) = upN l at' - 1 by omega]
theorem rise_eq : ∀ {a b : List (List UInt8)}, a.Pairwise (· < ·) → b.Pairwise (· < ·) → (∀ k, k ∈ a ↔ k ∈ b) → a = b
  | [], [], _, _, _ => rfl
  | [], y :: b, _, _, h => absurd ((h y).2 (by simp)) (by simp)
  | x :: a, [], _, _, h => absurd ((h x).1 (by simp)) (by simp)
  | x :: a, y :: b, ha, hb, h => by
    have ha' := List.pairwise_cons.1 ha
    have hb' := List.pairwise_cons.1 hb
    have hxy : x = y := by
      rcases List.mem_cons.1 ((h x).1 (by simp)) with e | e
      · exact e
      · rcases List.mem_cons.1 ((h y).2 (by simp)) with e' | e'
        · exact e'.symm
        · exact absurd (List.lt_trans (ha'.1 y e') (hb'.1 x e)) (List.lt_irrefl _)
    subst hxy
    rw [rise_eq ha'.2 hb'.2 fun k => ?_]
    constructor
    · intro hk
      rcases List.mem_cons.1 ((h k).1 (List.mem_cons_of_mem _ hk)) with e | e
      · subst e; exact absurd (ha'.1 _ hk) (List.lt_irrefl _)
      · exact e
    · intro hk
      rcases List.mem_cons.1 ((h k).2 (List.mem_cons_of_mem _ hk)) with e | e
      · subst e; exact absurd (hb'.1 _ hk) (List.lt_irrefl _)
      · exact e
theorem val_nil (m : Int) : valOf [] m = (ByteArray.empty, false) := rfl
theorem keys_same {s : CS} (hg : Good s) (hv : Void s) {m at' : Int} (h1 : m ≤ at') (h2 : s.floor ≤ at') {ks ks' : List (List UInt8)} (hk : KeysIn s ks) (hk' : KeysIn (trimS s m) ks') : keysAt s at' ks = keysAt (trimS s m) at' ks' := by
  unfold keysAt
  rw [if_neg (by omega), if_neg (by show ¬ at' < m; omega)]
  have hval : ∀ k, valOf ((trimS s m).f k) at' = valOf (s.f k) at' := fun k => val_drop (hg.rise k) (hv k) h1
  refine rise_eq (hk.1.sublist List.filter_sublist) (hk'.1.sublist List.filter_sublist) fun k => ?_
  rw [List.mem_filter, List.mem_filter, hval k, hk.2 k, hk'.2 k]
  constructor
  · rintro ⟨_, h⟩
    refine ⟨fun e => ?_, h⟩
    rw [← hval k, e, val_nil] at h
    cases h
  · rintro ⟨_, h⟩
    refine ⟨fun e => ?_, h⟩
    rw [e, val_nil] at h
    cases h
theorem trimN_again {s : CS} (hg : Good s) (m : Int) (ks : List (List UInt8)) : trimN (trimS s m) m ks = 0 := by
  unfold trimN
  induction ks with
  | nil => rfl
  | cons k r ih => rw [List.map_cons, List.sum_cons, ih, show goneN ((trimS s m).f k) m = 0 from gone_again (hg.rise k) m]
end Go.Proofs.Ytfcdplfnhjbdnaa
