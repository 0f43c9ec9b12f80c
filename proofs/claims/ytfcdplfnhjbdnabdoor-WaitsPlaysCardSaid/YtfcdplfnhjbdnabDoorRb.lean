/- Each act keeps the program's graph and the reference's rows alike, and answers alike: in plain words. -/
import Derived.Test.YtfcdplfnhjbdnabDoorRp
namespace Go.Proofs.YtfcdplfnhjbdnabDoor
open Go.RowKit Go.Sort
set_option linter.unusedVariables false

section
variable {G : List Nd} {N E : List (Int × Int)}
theorem rel_nodeE (hG : Ok G) (h : Rel G N E) (id st : Int) : nodeE G id st = nodeRE N id st := by
  unfold nodeE nodeRE
  by_cases hb : id < 0 ∨ st < 0 ∨ 1099511627776 < st
  · rw [if_pos hb, if_pos hb]
  rw [if_neg hb, if_neg hb]
  rcases idx_cases G id with ⟨_, hno⟩ | ⟨i, x, _, hx, rfl⟩
  · have hf : G.find? (fun x => x.id == id) = none := List.find?_eq_none.2 (fun y hy => by simpa using hno y hy)
    rw [hf, (h.none_ hno).1, h.len]
    simp
  · rw [find_of hG.ids hx, (h.at_ hx).1, (h.at_ hx).2, if_pos rfl]
theorem eg_app {n : Nd} (hn : n.to = 0) {i j : Nat} : Eg (G ++ [n]) i j ↔ Eg G i j := by
  constructor
  · rintro ⟨x, hx, hb⟩
    by_cases hi : i < G.length
    · rw [List.getElem?_append_left hi] at hx
      exact ⟨x, hx, hb⟩
    · rw [List.getElem?_append_right (by omega)] at hx
      have h1 := lt_of_some hx
      simp at h1
      rw [show i - G.length = 0 by omega] at hx
      simp at hx
      subst hx
      rw [hn] at hb
      simp at hb
  · rintro ⟨x, hx, hb⟩
    exact ⟨x, by rw [List.getElem?_append_left (lt_of_some hx)]; exact hx, hb⟩
theorem app_at {n x : Nd} {i : Nat} (hi : i < G.length) : (G ++ [n])[i]? = some x ↔ G[i]? = some x := by rw [List.getElem?_append_left hi]
theorem rel_node (hG : Ok G) (h : Rel G N E) (id st : Int) : Rel (nodeL G id st) (nodeRL N id st) E := by
  unfold nodeL nodeRL
  rw [← rel_nodeE hG h]
  rcases idx_cases G id with ⟨_, hno⟩ | ⟨i, x, _, hx, rfl⟩
  · by_cases h0 : nodeE G id st = 0
    · rw [if_pos ⟨h0, hno⟩, if_pos ⟨h0, (h.none_ hno).1⟩]
      refine ⟨?_, by simp [h.len], fun a s => ?_, fun a b => ?_⟩
      · rw [List.map_append]
        refine List.nodup_append.2 ⟨h.ids, by simp, ?_⟩
        intro a ha b hb e
        subst e
        simp at hb
        subst hb
        obtain ⟨⟨p, s⟩, hp, e2⟩ := List.mem_map.1 ha
        obtain ⟨x, hx, hxa, _⟩ := (h.nodes p s).1 hp
        exact hno x hx (hxa.trans e2)
      · simp only [List.mem_append, List.mem_singleton, h.nodes]
        constructor
        · rintro (⟨x, hx, h1, h2⟩ | h1)
          · exact ⟨x, .inl hx, h1, h2⟩
          · injection h1 with h1 h2
            subst h1 h2
            exact ⟨_, .inr rfl, rfl, rfl⟩
        · rintro ⟨x, hx | hx, h1, h2⟩
          · exact .inl ⟨x, hx, h1, h2⟩
          · subst hx
            subst h1 h2
            exact .inr rfl
      · rw [h.edges]
        constructor
        · rintro ⟨i, j, x, y, hx, hy, h1, h2, hE⟩
          exact ⟨i, j, x, y, (app_at (lt_of_some hx)).2 hx, (app_at (lt_of_some hy)).2 hy, h1, h2, (eg_app rfl).2 hE⟩
        · rintro ⟨i, j, x, y, hx, hy, h1, h2, hE⟩
          have hE' := (eg_app rfl).1 hE
          obtain ⟨hi, hj⟩ := eg_lt hG hE'
          exact ⟨i, j, x, y, (app_at hi).1 hx, (app_at hj).1 hy, h1, h2, hE'⟩
    · rw [if_neg (fun hh => h0 hh.1), if_neg (fun hh => h0 hh.1)]
      exact h
  · rw [if_neg (fun hh => hh.2 x (mem_of_some hx) rfl), if_neg (fun hh => by rw [(h.at_ hx).1] at hh; cases hh.2)]
    exact h
theorem rel_edgeE (h : Rel G N E) (a b : Int) : edgeE G a b = edgeRE N a b := by
  unfold edgeE edgeRE
  by_cases hab : a = b
  · rw [if_pos hab, if_pos hab]
  rw [if_neg hab, if_neg hab]
  rcases idx_cases G a with ⟨hx, hno⟩ | ⟨i, x, hx, hxi, rfl⟩
  · rw [if_pos (.inl (by omega)), if_neg (fun hh => by rw [(h.none_ hno).1] at hh; cases hh.1)]
  · rcases idx_cases G b with ⟨hy, hno⟩ | ⟨j, y, hy, hyj, rfl⟩
    · rw [if_pos (.inr (by omega)), if_neg (fun hh => by rw [(h.none_ hno).1] at hh; cases hh.2)]
    · rw [if_neg (by omega), if_pos ⟨(h.at_ hxi).1, (h.at_ hyj).1⟩]
theorem eg_set (hG : Ok G) {i j p q : Nat} (hi : i < G.length) (hj : j < 64) : Eg (setTo G i (toAt G i ||| 2 ^ j)) p q ↔ Eg G p q ∨ (p = i ∧ q = j) := by
  obtain ⟨x, hx⟩ := some_of_lt hi
  have hb : (toAt G i ||| 2 ^ j).testBit q = ((toAt G i).testBit q || decide (j = q)) := by rw [Nat.testBit_or, bit_pow]
  unfold Eg
  rw [setTo_get]
  constructor
  · rintro ⟨z, hz, hzb⟩
    rcases hy : G[p]? with _ | y
    · rw [hy] at hz; cases hz
    · rw [hy] at hz
      by_cases e : i = p
      · subst e
        simp at hz
        subst hz
        simp only [hb, Bool.or_eq_true, decide_eq_true_eq] at hzb
        rcases hzb with hzb | hzb
        · rw [hx] at hy
          injection hy with hy
          subst hy
          rw [toAt_of hx] at hzb
          exact .inl ⟨x, rfl, hzb⟩
        · exact .inr ⟨rfl, hzb.symm⟩
      · simp [e] at hz
        subst hz
        exact .inl ⟨y, rfl, hzb⟩
  · rintro (⟨y, hy, hyb⟩ | ⟨rfl, rfl⟩)
    · rw [hy]
      by_cases e : i = p
      · subst e
        refine ⟨_, rfl, ?_⟩
        dsimp only
        rw [if_pos rfl]
        show (toAt G i ||| 2 ^ j).testBit q = true
        rw [hb, toAt_of hy, hyb]
        rfl
      · exact ⟨_, rfl, by dsimp only; rw [if_neg e]; exact hyb⟩
    · rw [hx]
      refine ⟨_, rfl, ?_⟩
      dsimp only
      rw [if_pos rfl]
      show (toAt G p ||| 2 ^ q).testBit q = true
      rw [hb]
      simp
theorem set_at {i t p : Nat} {y : Nd} : (setTo G i t)[p]? = some y → ∃ z : Nd, G[p]? = some z ∧ y.id = z.id ∧ y.st = z.st := by
  rw [setTo_get]
  intro hy
  rcases hz : G[p]? with _ | z
  · rw [hz] at hy; cases hy
  · rw [hz] at hy
    injection hy with hy
    subst hy
    refine ⟨z, rfl, ?_⟩
    split <;> exact ⟨rfl, rfl⟩
theorem at_set {i t p : Nat} {z : Nd} (hz : G[p]? = some z) : ∃ y : Nd, (setTo G i t)[p]? = some y ∧ y.id = z.id ∧ y.st = z.st := by
  rw [setTo_get, hz]
  refine ⟨_, rfl, ?_⟩
  split <;> exact ⟨rfl, rfl⟩
theorem rel_edge (hG : Ok G) (h : Rel G N E) (a b : Int) : Rel (edgeL G a b) N (edgeRL N E a b) := by
  unfold edgeL edgeRL
  rw [← rel_edgeE h]
  by_cases h0 : edgeE G a b = 0
  · rw [if_pos h0]
    have h1 := h0
    unfold edgeE at h1
    split at h1
    · cases h1
    rename_i hab
    rcases idx_cases G a with ⟨hx, hno⟩ | ⟨i, x, hx, hxi, rfl⟩
    · rw [if_pos (.inl (by omega))] at h1; cases h1
    rcases idx_cases G b with ⟨hy, hno⟩ | ⟨j, y, hy, hyj, rfl⟩
    · rw [if_pos (.inr (by omega))] at h1; cases h1
    have hj64 : j < 64 := by have := hG.len; have := lt_of_some hyj; omega
    rw [hx, hy, Int.toNat_natCast, Int.toNat_natCast]
    have mem : ∀ p q, (p, q) ∈ (if edgeE G x.id y.id = 0 ∧ (x.id, y.id) ∉ E then E ++ [(x.id, y.id)] else E) ↔ (p, q) ∈ E ∨ (p = x.id ∧ q = y.id) := fun p q => by
      by_cases hm : (x.id, y.id) ∈ E
      · rw [if_neg (fun hh => hh.2 hm)]
        constructor
        · exact .inl
        · rintro (hh | ⟨rfl, rfl⟩)
          · exact hh
          · exact hm
      · rw [if_pos ⟨h0, hm⟩]
        simp
    refine ⟨h.ids, by rw [setTo_len]; exact h.len, fun a s => ?_, fun p q => ?_⟩
    · rw [h.nodes]
      constructor
      · rintro ⟨z, hz, e1, e2⟩
        obtain ⟨k, hk⟩ := List.mem_iff_getElem?.1 hz
        obtain ⟨u, hu, e3, e4⟩ := at_set (i := i) (t := toAt G i ||| 2 ^ j) hk
        exact ⟨u, mem_of_some hu, e3.trans e1, e4.trans e2⟩
      · rintro ⟨z, hz, e1, e2⟩
        obtain ⟨k, hk⟩ := List.mem_iff_getElem?.1 hz
        obtain ⟨u, hu, e3, e4⟩ := set_at hk
        exact ⟨u, mem_of_some hu, e3.symm.trans e1, e4.symm.trans e2⟩
    · rw [mem, h.edges]
      constructor
      · rintro (⟨m, n, u, v, hu, hv, e1, e2, hE⟩ | ⟨rfl, rfl⟩)
        · obtain ⟨u', hu', e3, _⟩ := at_set (i := i) (t := toAt G i ||| 2 ^ j) hu
          obtain ⟨v', hv', e4, _⟩ := at_set (i := i) (t := toAt G i ||| 2 ^ j) hv
          exact ⟨m, n, u', v', hu', hv', e3.trans e1, e4.trans e2, (eg_set hG (lt_of_some hxi) hj64).2 (.inl hE)⟩
        · obtain ⟨u', hu', e3, _⟩ := at_set (i := i) (t := toAt G i ||| 2 ^ j) hxi
          obtain ⟨v', hv', e4, _⟩ := at_set (i := i) (t := toAt G i ||| 2 ^ j) hyj
          exact ⟨i, j, u', v', hu', hv', e3, e4, (eg_set hG (lt_of_some hxi) hj64).2 (.inr ⟨rfl, rfl⟩)⟩
      · rintro ⟨m, n, u, v, hu, hv, e1, e2, hE⟩
        obtain ⟨u', hu', e3, _⟩ := set_at hu
        obtain ⟨v', hv', e4, _⟩ := set_at hv
        rcases (eg_set hG (lt_of_some hxi) hj64).1 hE with hE | ⟨rfl, rfl⟩
        · exact .inl ⟨m, n, u', v', hu', hv', e3.symm.trans e1, e4.symm.trans e2, hE⟩
        · rw [hxi] at hu'
          rw [hyj] at hv'
          injection hu' with hu'
          injection hv' with hv'
          subst hu' hv'
          exact .inr ⟨e1.symm.trans e3, e2.symm.trans e4⟩
  · rw [if_neg h0, if_neg (fun hh => h0 hh.1)]
    exact h
theorem rel_dropE (h : Rel G N E) (id : Int) : dropE G id = if stB N id = true then 0 else 6 := by
  unfold dropE
  rcases idx_cases G id with ⟨hx, hno⟩ | ⟨i, x, hx, hxi, rfl⟩
  · rw [if_pos (by omega), (h.none_ hno).1]; rfl
  · rw [if_neg (by omega), (h.at_ hxi).1, if_pos rfl]
theorem eg_drop (hG : Ok G) {at_ i j : Nat} (ha : at_ < G.length) (hi : i < G.length - 1) (hj : j < G.length - 1) : Eg (dropL G at_) i j ↔ Eg G (old G at_ i) (old G at_ j) := by
  unfold Eg
  rw [drop_get hi ha]
  have h64 := hG.len
  constructor
  · rintro ⟨x, hx, hb⟩
    rcases hy : G[old G at_ i]? with _ | y
    · rw [hy] at hx; cases hx
    · rw [hy] at hx
      injection hx with hx
      subst hx
      refine ⟨y, rfl, ?_⟩
      rw [← fix_old (bit64 hG (mem_of_some hy)) h64 hj ha]
      exact hb
  · rintro ⟨y, hy, hb⟩
    rw [hy]
    refine ⟨_, rfl, ?_⟩
    show (fixTo at_ (G.length - 1) y.to).testBit j = true
    rw [fix_old (bit64 hG (mem_of_some hy)) h64 hj ha]
    exact hb
theorem drop_at {at_ i : Nat} {z : Nd} (ha : at_ < G.length) (hi : i < G.length - 1) (hz : G[old G at_ i]? = some z) : ∃ y : Nd, (dropL G at_)[i]? = some y ∧ y.id = z.id ∧ y.st = z.st := by
  rw [drop_get hi ha, hz]
  exact ⟨_, rfl, rfl, rfl⟩
theorem at_drop {at_ i : Nat} {y : Nd} (ha : at_ < G.length) (hy : (dropL G at_)[i]? = some y) : i < G.length - 1 ∧ ∃ z : Nd, G[old G at_ i]? = some z ∧ y.id = z.id ∧ y.st = z.st := by
  have hi := lt_of_some hy
  rw [drop_len] at hi
  refine ⟨hi, ?_⟩
  rw [drop_get hi ha] at hy
  rcases hz : G[old G at_ i]? with _ | z
  · rw [hz] at hy; cases hy
  · rw [hz] at hy
    injection hy with hy
    subst hy
    exact ⟨z, rfl, rfl, rfl⟩
theorem rel_drop (hG : Ok G) (h : Rel G N E) (id : Int) : Rel (dropI G id) (dropRN N id) (dropRE N E id) := by
  unfold dropI dropRN dropRE
  rcases idx_cases G id with ⟨hx, hno⟩ | ⟨i, x, hx, hxi, rfl⟩
  · rw [if_pos (by omega), (h.none_ hno).1]; exact h
  rw [if_neg (by omega), (h.at_ hxi).1, if_pos rfl, if_pos rfl, hx, Int.toNat_natCast]
  have ha := lt_of_some hxi
  have nodes : ∀ a s, (a, s) ∈ N.filter (fun p => p.1 != x.id) ↔ ∃ z : Nd, z ∈ dropL G i ∧ z.id = a ∧ z.st = s := fun a s => by
    rw [List.mem_filter, h.nodes]
    constructor
    · rintro ⟨⟨z, hz, rfl, rfl⟩, hne⟩
      obtain ⟨k, hk⟩ := List.mem_iff_getElem?.1 hz
      have hki : k ≠ i := fun e => by
        subst e
        rw [hxi] at hk
        injection hk with hk
        subst hk
        simp at hne
      obtain ⟨m, hm, hmk⟩ := old_onto (lt_of_some hk) hki ha
      obtain ⟨y, hy, e1, e2⟩ := drop_at ha hm (by rw [hmk]; exact hk)
      exact ⟨y, mem_of_some hy, e1, e2⟩
    · rintro ⟨z, hz, rfl, rfl⟩
      obtain ⟨m, hm⟩ := List.mem_iff_getElem?.1 hz
      obtain ⟨hml, y, hy, e1, e2⟩ := at_drop ha hm
      refine ⟨⟨y, mem_of_some hy, e1.symm, e2.symm⟩, ?_⟩
      have hne : z.id ≠ x.id := fun e => (old_lt hml).2 (ids_inj hG hy hxi (e1.symm.trans e))
      simpa using hne
  have hids : ((N.filter (fun p => p.1 != x.id)).map Prod.fst).Nodup := h.ids.sublist (List.Sublist.map _ List.filter_sublist)
  refine ⟨hids, ?_, nodes, fun p q => ?_⟩
  · have hp : ((N.filter (fun p => p.1 != x.id)).map Prod.fst).Perm ((dropL G i).map Nd.id) := by
      refine (List.perm_ext_iff_of_nodup hids (ok_drop hG ha).ids).2 fun a => ?_
      rw [List.mem_map, List.mem_map]
      constructor
      · rintro ⟨⟨a, s⟩, hm, rfl⟩
        obtain ⟨z, hz, e, _⟩ := (nodes a s).1 hm
        exact ⟨z, hz, e⟩
      · rintro ⟨z, hz, rfl⟩
        exact ⟨(z.id, z.st), (nodes _ _).2 ⟨z, hz, rfl, rfl⟩, rfl⟩
    have := hp.length_eq
    simpa using this
  · rw [List.mem_filter, h.edges]
    constructor
    · rintro ⟨⟨m, n, u, v, hu, hv, rfl, rfl, hE⟩, hne⟩
      simp only [Bool.and_eq_true, bne_iff_ne, ne_eq] at hne
      have hm : m ≠ i := fun e => by subst e; rw [hxi] at hu; injection hu with hu; subst hu; exact hne.1 rfl
      have hn : n ≠ i := fun e => by subst e; rw [hxi] at hv; injection hv with hv; subst hv; exact hne.2 rfl
      obtain ⟨m', hm', rfl⟩ := old_onto (lt_of_some hu) hm ha
      obtain ⟨n', hn', rfl⟩ := old_onto (lt_of_some hv) hn ha
      obtain ⟨u', hu', e1, _⟩ := drop_at ha hm' hu
      obtain ⟨v', hv', e2, _⟩ := drop_at ha hn' hv
      exact ⟨m', n', u', v', hu', hv', e1, e2, (eg_drop hG ha hm' hn').2 hE⟩
    · rintro ⟨m, n, u, v, hu, hv, rfl, rfl, hE⟩
      obtain ⟨hml, u', hu', e1, _⟩ := at_drop ha hu
      obtain ⟨hnl, v', hv', e2, _⟩ := at_drop ha hv
      refine ⟨⟨_, _, u', v', hu', hv', e1.symm, e2.symm, (eg_drop hG ha hml hnl).1 hE⟩, ?_⟩
      have h1 : u.id ≠ x.id := fun e => (old_lt hml).2 (ids_inj hG hu' hxi (e1.symm.trans e))
      have h2 : v.id ≠ x.id := fun e => (old_lt hnl).2 (ids_inj hG hv' hxi (e2.symm.trans e))
      simp [h1, h2]
theorem edgeRL_len (N E : List (Int × Int)) (a b : Int) : (edgeRL N E a b).length ≤ E.length + 1 := by
  unfold edgeRL
  split
  · simp
  · omega
theorem dropRE_len (N E : List (Int × Int)) (id : Int) : (dropRE N E id).length ≤ E.length := by
  unfold dropRE
  split
  · exact List.length_filter_le _ _
  · omega
end
end Go.Proofs.YtfcdplfnhjbdnabDoor
