/- Cycles and victims, in plain words. -/
import Derived.Test.YtfcdplfnhjbdnabDoorMa
namespace Go.Proofs.YtfcdplfnhjbdnabDoor
open Go.RowKit Go.Sort
set_option linter.unusedVariables false

theorem cyc_way {l : List Nd} (h : Ok l) {i : Nat} : cycAt l i = true ↔ Way l (allN l) i i := fromG_spec h _ _ _
theorem way_lt {l : List Nd} (h : Ok l) {by_ i j : Nat} (hw : Way l by_ i j) : i < l.length ∧ j < l.length := by
  induction hw with
  | one he => exact eg_lt h he
  | more _ _ he ih => exact ⟨ih.1, (eg_lt h he).2⟩
theorem way_mono {l : List Nd} {a b i j : Nat} (hab : ∀ k, a.testBit k = true → b.testBit k = true) (hw : Way l a i j) : Way l b i j := by
  induction hw with
  | one he => exact .one he
  | more _ hb he ih => exact .more ih (hab _ hb) he
theorem way_trans {l : List Nd} {b i j k : Nat} (h1 : Way l b i j) (hj : b.testBit j = true) (h2 : Way l b j k) : Way l b i k := by
  induction h2 with
  | one he => exact .more h1 hj he
  | more _ hb he ih => exact .more ih hb he
theorem bef_total {l : List Nd} (h : Ok l) {i j : Nat} {x y : Nd} (hx : l[i]? = some x) (hy : l[j]? = some y) (hne : i ≠ j) : bef x y = true ∨ bef y x = true := by
  rw [bef_iff, bef_iff]
  have : x.id ≠ y.id := fun e => hne (ids_inj h hx hy e)
  omega
/-- Of any places the youngest one. -/
theorem young {l : List Nd} (h : Ok l) (P : Nat → Prop) : ∀ n, n ≤ l.length → (∃ i, i < n ∧ P i) → ∃ (y : Nat) (u : Nd), y < n ∧ P y ∧ l[y]? = some u ∧ ∀ (j : Nat) (x : Nd), j < n → P j → l[j]? = some x → j = y ∨ bef x u = true
  | 0, _, ⟨i, hi, _⟩ => absurd hi (by omega)
  | n + 1, hn, ⟨i, hi, hP⟩ => by
    obtain ⟨z, hz⟩ := some_of_lt (show n < l.length by omega)
    by_cases hex : ∃ i, i < n ∧ P i
    · obtain ⟨y, u, hy, hPy, hu, hall⟩ := young h P n (by omega) hex
      by_cases hPn : P n
      · rcases bef_total h hz hu (by omega) with hb | hb
        · refine ⟨y, u, by omega, hPy, hu, fun j x hj hPj hx => ?_⟩
          by_cases e : j = n
          · subst e
            rw [hz] at hx
            injection hx with hx
            exact .inr (hx ▸ hb)
          · exact hall j x (by omega) hPj hx
        · refine ⟨n, z, by omega, hPn, hz, fun j x hj hPj hx => ?_⟩
          by_cases e : j = n
          · exact .inl e
          · rcases hall j x (by omega) hPj hx with e' | e'
            · subst e'
              rw [hu] at hx
              injection hx with hx
              exact .inr (hx ▸ hb)
            · exact .inr (bef_trans e' hb)
      · refine ⟨y, u, by omega, hPy, hu, fun j x hj hPj hx => ?_⟩
        by_cases e : j = n
        · subst e; exact absurd hPj hPn
        · exact hall j x (by omega) hPj hx
    · have hin : i = n := Classical.byContradiction fun e => hex ⟨i, by omega, hP⟩
      subst hin
      refine ⟨i, z, by omega, hP, hz, fun j x hj hPj hx => ?_⟩
      by_cases e : j = i
      · exact .inl e
      · exact absurd ⟨j, by omega, hPj⟩ hex
theorem eld_bit {l : List Nd} {y : Nd} {j : Nat} : (eldK l y l.length).testBit j = true ↔ ∃ x : Nd, l[j]? = some x ∧ bef x y = true := by
  rw [eldK_bit]
  exact ⟨fun h => h.2, fun h => ⟨by obtain ⟨x, hx, _⟩ := h; exact lt_of_some hx, h⟩⟩
theorem vict_way {l : List Nd} (h : Ok l) {i : Nat} {y : Nd} (hy : l[i]? = some y) : vict l i = true ↔ Way l (eldK l y l.length) i i := by
  unfold vict
  rw [hy]
  exact fromG_spec h _ _ _
theorem eld_all {l : List Nd} {y : Nd} {k : Nat} (hk : (eldK l y l.length).testBit k = true) : (allN l).testBit k = true := by
  obtain ⟨x, hx, _⟩ := eld_bit.1 hk
  rw [allN_bit]
  simpa using lt_of_some hx
theorem vict_cyc {l : List Nd} (h : Ok l) {i : Nat} (hv : vict l i = true) : i < l.length ∧ cycAt l i = true := by
  rcases hy : l[i]? with _ | y
  · unfold vict at hv
    rw [hy] at hv
    cases hv
  · exact ⟨lt_of_some hy, (cyc_way h).2 (way_mono (fun k hk => eld_all hk) ((vict_way h hy).1 hv))⟩
theorem all_bit {l : List Nd} {j : Nat} (h : j < l.length) : (allN l).testBit j = true := by
  rw [allN_bit]; simpa using h
/-- A cycle has a victim. -/
theorem cyc_vict {l : List Nd} (h : Ok l) {i : Nat} (hc : cycAt l i = true) : ∃ y, vict l y = true := by
  have hw := (cyc_way h).1 hc
  have hil := (way_lt h hw).1
  obtain ⟨y, u, hyl, ⟨hy1, hy2⟩, hu, hall⟩ := young h (fun j => Way l (allN l) i j ∧ Way l (allN l) j i) l.length (Nat.le_refl _) ⟨i, hil, hw, hw⟩
  have key : ∀ k, Way l (allN l) y k → (k = y ∨ Way l (allN l) k y) → Way l (eldK l u l.length) y k := by
    intro k hk
    induction hk with
    | one he => exact fun _ => .one he
    | @more j k hj hb he ih =>
      intro hky
      have hjl := (eg_lt h he).1
      have hkl := (eg_lt h he).2
      have hjy : Way l (allN l) j y := by
        rcases hky with rfl | hky
        · exact .one he
        · exact way_cons he (all_bit hkl) hky
      have h3 := ih (.inr hjy)
      by_cases e : j = y
      · subst e; exact .one he
      · have hij : Way l (allN l) i j := way_trans hy1 (all_bit hyl) hj
        have hji : Way l (allN l) j i := way_trans hjy (all_bit hyl) hy2
        obtain ⟨x, hx⟩ := some_of_lt hjl
        rcases hall j x hjl ⟨hij, hji⟩ hx with e' | e'
        · exact absurd e' e
        · exact .more h3 (eld_bit.2 ⟨x, hx, e'⟩) he
  exact ⟨y, (vict_way h hu).2 (key y (way_trans hy2 (all_bit hil) hy1) (.inl rfl))⟩
/-! ### The list of victims -/
theorem vic_mem {l : List Nd} {v : Int} : v ∈ vicK l l.length ↔ ∃ (i : Nat) (x : Nd), l[i]? = some x ∧ x.id = v ∧ vict l i = true := by
  unfold vicK
  rw [List.mem_map]
  constructor
  · rintro ⟨i, hi, rfl⟩
    rw [List.mem_filter, List.mem_range] at hi
    obtain ⟨x, hx⟩ := some_of_lt hi.1
    exact ⟨i, x, hx, (idAt_of hx).symm, hi.2⟩
  · rintro ⟨i, x, hx, rfl, hv⟩
    exact ⟨i, by rw [List.mem_filter, List.mem_range]; exact ⟨lt_of_some hx, hv⟩, idAt_of hx⟩
theorem vic_nodup {l : List Nd} (h : Ok l) : (vicK l l.length).Nodup := by
  unfold vicK
  refine nodup_of_inj fun i j a hi hj => ?_
  obtain ⟨p, hp, rfl⟩ := List.getElem?_eq_some_iff.1 hi |> fun ⟨hl, he⟩ => (⟨((List.range l.length).filter (vict l))[i]'(by simpa using hl), by rw [List.getElem?_eq_getElem], by rw [← he, List.getElem_map]⟩ : ∃ p, ((List.range l.length).filter (vict l))[i]? = some p ∧ a = idAt l p)
  obtain ⟨q, hq, hqe⟩ := List.getElem?_eq_some_iff.1 hj |> fun ⟨hl, he⟩ => (⟨((List.range l.length).filter (vict l))[j]'(by simpa using hl), by rw [List.getElem?_eq_getElem], by rw [← he, List.getElem_map]⟩ : ∃ q, ((List.range l.length).filter (vict l))[j]? = some q ∧ idAt l p = idAt l q)
  have hpl := List.mem_range.1 ((List.mem_filter.1 (mem_of_some hp)).1)
  have hql := List.mem_range.1 ((List.mem_filter.1 (mem_of_some hq)).1)
  obtain ⟨x, hx⟩ := some_of_lt hpl
  obtain ⟨y, hy⟩ := some_of_lt hql
  rw [idAt_of hx, idAt_of hy] at hqe
  have := ids_inj h hx hy hqe
  subst this
  have hnd : ((List.range l.length).filter (vict l)).Nodup := List.nodup_range.filter _
  have hil := lt_of_some hp
  have hjl := lt_of_some hq
  rw [List.getElem?_eq_getElem hil] at hp
  rw [List.getElem?_eq_getElem hjl] at hq
  injection hp with hp
  injection hq with hq
  exact nodup_inj hnd hil hjl (hp.trans hq.symm)
/-! ### Without some of the nodes -/
structure Sub (G H : List Nd) (gone : List Int) : Prop where
  ok : Ok H
  map : ∃ f : Nat → Nat, (∀ (i : Nat) (x : Nd), H[i]? = some x → ∃ y : Nd, G[f i]? = some y ∧ y.id = x.id ∧ y.st = x.st) ∧ ∀ i j, Eg H i j → Eg G (f i) (f j)
  out : ∀ x : Nd, x ∈ H → x.id ∉ gone
  stay : ∀ y : Nd, y ∈ G → y.id ∉ gone → ∃ x : Nd, x ∈ H ∧ x.id = y.id
  len : H.length + gone.length = G.length
theorem sub_refl {G : List Nd} (h : Ok G) : Sub G G [] := ⟨h, ⟨fun i => i, fun i x hx => ⟨x, hx, rfl, rfl⟩, fun i j he => he⟩, by simp, fun y hy _ => ⟨y, hy, rfl⟩, by simp⟩
theorem sub_drop {G H : List Nd} {gone : List Int} (h : Sub G H gone) {v : Int} {y : Nd} (hy : y ∈ G) (hv : y.id = v) (hn : v ∉ gone) : dropE H v = 0 ∧ Sub G (dropI H v) (gone ++ [v]) := by
  obtain ⟨x, hx, hxe⟩ := h.stay y hy (hv ▸ hn)
  have hok := h.ok
  rcases idx_cases H v with ⟨_, hno⟩ | ⟨a, p, ha, hpa, hpv⟩
  · exact absurd (hxe.trans hv) (hno x hx)
  · have hal := lt_of_some hpa
    have h64 := hok.len
    unfold dropE dropI
    rw [ha, if_neg (by omega), if_neg (by omega), Int.toNat_natCast]
    obtain ⟨f, hf1, hf2⟩ := h.map
    refine ⟨rfl, ok_drop hok hal, ⟨fun i => f (old H a i), fun i z hz => ?_, fun i j he => ?_⟩, fun z hz => ?_, fun z hz hzn => ?_, ?_⟩
    · have li := lt_of_some hz
      rw [drop_len] at li
      rw [drop_get li hal] at hz
      obtain ⟨u, hu, rfl⟩ := Option.map_eq_some_iff.1 hz
      exact hf1 _ u hu
    · obtain ⟨z, hz, hb⟩ := he
      have hjl := (eg_lt (ok_drop hok hal) ⟨z, hz, hb⟩).2
      have li := lt_of_some hz
      rw [drop_len] at li hjl
      rw [drop_get li hal] at hz
      obtain ⟨u, hu, rfl⟩ := Option.map_eq_some_iff.1 hz
      refine hf2 _ _ ⟨u, hu, ?_⟩
      rw [← fix_old (bit64 hok (mem_of_some hu)) h64 hjl hal]
      exact hb
    · obtain ⟨i, u, li, hu, _, rfl⟩ := drop_mem hal hz
      rw [List.mem_append, not_or]
      refine ⟨h.out u (mem_of_some hu), ?_⟩
      simp only [List.mem_singleton]
      intro e
      exact (old_lt li).2 (ids_inj hok hu hpa (e.trans hpv.symm))
    · rw [List.mem_append, not_or] at hzn
      obtain ⟨u, hu, hue⟩ := h.stay z hz hzn.1
      obtain ⟨k, hk⟩ := List.mem_iff_getElem?.1 hu
      have hka : k ≠ a := fun e => by
        subst e
        rw [hk] at hpa
        injection hpa with hpa
        exact hzn.2 (by rw [← hue, hpa, hpv]; simp)
      obtain ⟨i, hi, hoi⟩ := old_onto (lt_of_some hk) hka hal
      have := drop_get hi hal
      rw [hoi, hk] at this
      exact ⟨fixN a (H.length - 1) u, mem_of_some this, hue⟩
    · have := h.len
      rw [drop_len, List.length_append, List.length_singleton]
      omega
theorem way_map {G H : List Nd} {f : Nat → Nat} (hf : ∀ i j, Eg H i j → Eg G (f i) (f j)) {a b : Nat} (hb : ∀ j, a.testBit j = true → b.testBit (f j) = true) {i j : Nat} (h : Way H a i j) : Way G b (f i) (f j) := by
  induction h with
  | one he => exact .one (hf _ _ he)
  | more _ hb' he ih => exact .more ih (hb _ hb') (hf _ _ he)
/-- Without the victims there is no cycle. -/
theorem sub_cyc {G H : List Nd} {gone : List Int} (hG : Ok G) (h : Sub G H gone) (hg : ∀ v, v ∈ vicK G G.length → v ∈ gone) (i : Nat) : cycAt H i = false := by
  rcases hc : cycAt H i with _ | _
  · rfl
  · obtain ⟨y, hy⟩ := cyc_vict h.ok hc
    have hyl := (vict_cyc h.ok hy).1
    obtain ⟨u, hu⟩ := some_of_lt hyl
    obtain ⟨f, hf1, hf2⟩ := h.map
    obtain ⟨z, hz, hzi, hzs⟩ := hf1 y u hu
    have hw := (vict_way h.ok hu).1 hy
    have hw2 : Way G (eldK G z G.length) (f y) (f y) := way_map hf2 (fun j hj => by
      obtain ⟨x, hx, hbx⟩ := eld_bit.1 hj
      obtain ⟨x', hx', hxi, hxs⟩ := hf1 j x hx
      refine eld_bit.2 ⟨x', hx', ?_⟩
      rw [bef_iff] at hbx ⊢
      rw [hxi, hxs, hzi, hzs]
      exact hbx) hw
    have := hg z.id (vic_mem.2 ⟨f y, z, hz, rfl, (vict_way hG hz).2 hw2⟩)
    rw [hzi] at this
    exact absurd this (h.out u (mem_of_some hu))
end Go.Proofs.YtfcdplfnhjbdnabDoor
