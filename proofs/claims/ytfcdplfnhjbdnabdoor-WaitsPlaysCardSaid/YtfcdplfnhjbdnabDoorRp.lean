/- The program's graph and the reference's rows: alike, in plain words. -/
import Derived.Test.YtfcdplfnhjbdnabDoorRu
namespace Go.Proofs.YtfcdplfnhjbdnabDoor
open Go.RowKit Go.Sort
set_option linter.unusedVariables false

structure Rel (G : List Nd) (N E : List (Int × Int)) : Prop where
  ids : (N.map Prod.fst).Nodup
  len : N.length = G.length
  nodes : ∀ a s, (a, s) ∈ N ↔ ∃ x : Nd, x ∈ G ∧ x.id = a ∧ x.st = s
  edges : ∀ a b, (a, b) ∈ E ↔ ∃ (i j : Nat) (x y : Nd), G[i]? = some x ∧ G[j]? = some y ∧ x.id = a ∧ y.id = b ∧ Eg G i j
theorem rel_nil : Rel [] [] [] := ⟨by simp, rfl, by simp, by simp⟩
theorem st_mem {N : List (Int × Int)} (h : (N.map Prod.fst).Nodup) {a s : Int} (hm : (a, s) ∈ N) : stB N a = true ∧ stS N a = s := by
  obtain ⟨k, hk⟩ := List.mem_iff_getElem?.1 hm
  refine st_at hk fun j p hj hp e => ?_
  have h1 : (N.map Prod.fst)[j]? = some a := by rw [List.getElem?_map, hp]; simp [e]
  have h2 : (N.map Prod.fst)[k]? = some a := by rw [List.getElem?_map, hk]; rfl
  have e1 := lt_of_some h1
  have e2 := lt_of_some h2
  rw [List.getElem?_eq_getElem e1] at h1
  rw [List.getElem?_eq_getElem e2] at h2
  injection h1 with h1
  injection h2 with h2
  have := nodup_inj h e1 e2 (h1.trans h2.symm)
  omega
section
variable {G : List Nd} {N E : List (Int × Int)}
theorem Rel.at_ (h : Rel G N E) {i : Nat} {x : Nd} (hx : G[i]? = some x) : stB N x.id = true ∧ stS N x.id = x.st := st_mem h.ids ((h.nodes _ _).2 ⟨x, mem_of_some hx, rfl, rfl⟩)
theorem Rel.none_ (h : Rel G N E) {a : Int} (hn : ∀ x : Nd, x ∈ G → x.id ≠ a) : stB N a = false ∧ stS N a = 0 := by
  refine st_none fun j p hj hp e => ?_
  obtain ⟨x, hx, hxa, _⟩ := (h.nodes p.1 p.2).1 (mem_of_some hp)
  exact hn x hx (hxa.trans e)
theorem Rel.stamp (h : Rel G N E) (a : Int) : stampOf G a = (stS N a, stB N a) := by
  unfold stampOf
  rcases idx_cases G a with ⟨hx, hno⟩ | ⟨i, x, hx, hxi, rfl⟩
  · obtain ⟨h1, h2⟩ := h.none_ hno
    rw [hx, if_pos (by omega), h1, h2]
  · obtain ⟨h1, h2⟩ := h.at_ hxi
    rw [hx, if_neg (by omega), Int.toNat_natCast, ndAt_of hxi, h1, h2]
theorem Rel.elder (h : Rel G N E) (a b : Int) : elderN N a b = elderB G a b := by
  unfold elderN elderB
  rcases idx_cases G a with ⟨hx, hno⟩ | ⟨i, x, hx, hxi, rfl⟩
  · rw [hx, (h.none_ hno).1, show decide ((0 : Int) ≤ -1) = false from rfl]; simp
  · rcases idx_cases G b with ⟨hy, hno⟩ | ⟨j, y, hy, hyj, rfl⟩
    · rw [hy, (h.none_ hno).1, show decide ((0 : Int) ≤ -1) = false from rfl]; simp
    · rw [hx, hy, (h.at_ hxi).1, (h.at_ hyj).1, (h.at_ hxi).2, (h.at_ hyj).2, Int.toNat_natCast, Int.toNat_natCast, ndAt_of hxi, ndAt_of hyj]
      simp [bef]
theorem Rel.bef_ (h : Rel G N E) {i j : Nat} (hG : Ok G) {x y : Nd} (hx : G[i]? = some x) (hy : G[j]? = some y) : elderN N x.id y.id = bef x y := by
  unfold elderN
  rw [(h.at_ hx).1, (h.at_ hy).1, (h.at_ hx).2, (h.at_ hy).2]
  simp [bef]
theorem Rel.sorted (h : Rel G N E) (hG : Ok G) : sortI (N.map Prod.fst) = sortI (G.map Nd.id) := by
  refine sortI_eq ?_ (sortI_sorted _)
  refine (List.mergeSort_perm _ _).trans ?_
  refine (List.perm_ext_iff_of_nodup h.ids hG.ids).2 fun a => ?_
  rw [List.mem_map, List.mem_map]
  constructor
  · rintro ⟨⟨p, s⟩, hp, rfl⟩
    obtain ⟨x, hx, hxa, _⟩ := (h.nodes p s).1 hp
    exact ⟨x, hx, hxa⟩
  · rintro ⟨x, hx, rfl⟩
    exact ⟨(x.id, x.st), (h.nodes _ _).2 ⟨x, hx, rfl, rfl⟩, rfl⟩
/-! ### Ways -/
theorem way_wr (h : Rel G N E) {P : Int → Bool} {by_ : Nat} (hb : ∀ (k : Nat) (z : Nd), G[k]? = some z → (by_.testBit k = true ↔ P z.id = true)) {i j : Nat} {x : Nd} (hx : G[i]? = some x) (hw : Way G by_ i j) : ∀ y : Nd, G[j]? = some y → Wr E P x.id y.id := by
  induction hw with
  | one he => exact fun y hy => .one ((h.edges _ _).2 ⟨_, _, _, _, hx, hy, rfl, rfl, he⟩)
  | more hw hbit he ih =>
    rename_i m t
    intro y hy
    obtain ⟨z, hz, hzb⟩ := he
    exact .more (ih z hz) ((hb _ z hz).1 hbit) ((h.edges _ _).2 ⟨_, _, _, _, hz, hy, rfl, rfl, ⟨z, hz, hzb⟩⟩)
theorem wr_way (hG : Ok G) (h : Rel G N E) {P : Int → Bool} {by_ : Nat} (hb : ∀ (k : Nat) (z : Nd), G[k]? = some z → (by_.testBit k = true ↔ P z.id = true)) {i : Nat} {x : Nd} (hx : G[i]? = some x) {t : Int} (hw : Wr E P x.id t) : ∃ (j : Nat) (y : Nd), G[j]? = some y ∧ y.id = t ∧ Way G by_ i j := by
  induction hw with
  | one he =>
    obtain ⟨i', j, x', y, hx', hy, e1, e2, hE⟩ := (h.edges _ _).1 he
    obtain rfl := ids_inj hG hx' hx e1
    exact ⟨j, y, hy, e2, .one hE⟩
  | more hw hp he ih =>
    obtain ⟨m, z, hz, hzi, hwm⟩ := ih
    obtain ⟨i', j, x', y, hx', hy, e1, e2, hE⟩ := (h.edges _ _).1 he
    obtain rfl := ids_inj hG hx' hz (e1.trans hzi.symm)
    exact ⟨j, y, hy, e2, .more hwm ((hb _ z hz).2 (by rw [hzi]; exact hp)) hE⟩
theorem wr_from (h : Rel G N E) {P : Int → Bool} {f t : Int} (hw : Wr E P f t) : ∃ (i : Nat) (x : Nd), G[i]? = some x ∧ x.id = f := by
  induction hw with
  | one he =>
    obtain ⟨i', j, x', y, hx', hy, e1, e2, hE⟩ := (h.edges _ _).1 he
    exact ⟨i', x', hx', e1⟩
  | more hw hp he ih => exact ih
theorem way_iff (hG : Ok G) (h : Rel G N E) {P : Int → Bool} {by_ : Nat} (hb : ∀ (k : Nat) (z : Nd), G[k]? = some z → (by_.testBit k = true ↔ P z.id = true)) {i j : Nat} {x y : Nd} (hx : G[i]? = some x) (hy : G[j]? = some y) : Way G by_ i j ↔ Wr E P x.id y.id := by
  refine ⟨fun hw => way_wr h hb hx hw y hy, fun hw => ?_⟩
  obtain ⟨j', y', hy', e, hw'⟩ := wr_way hG h hb hx hw
  obtain rfl := ids_inj hG hy' hy e
  exact hw'
theorem all_ok (k : Nat) (z : Nd) (hz : G[k]? = some z) : ((allN G).testBit k = true ↔ okP N (-1) z.id = true) := by
  rw [allN_bit]
  have := lt_of_some hz
  simp [okP, this]
theorem Rel.reach (hG : Ok G) (h : Rel G N E) (a b : Int) : reachB G a b = true ↔ Wr E (okP N (-1)) a b := by
  unfold reachB
  constructor
  · intro hr
    simp only [Bool.and_eq_true, decide_eq_true_eq] at hr
    rcases idx_cases G a with ⟨hx, hno⟩ | ⟨i, x, hx, hxi, rfl⟩
    · omega
    · rcases idx_cases G b with ⟨hy, hno⟩ | ⟨j, y, hy, hyj, rfl⟩
      · omega
      · rw [hx, hy, Int.toNat_natCast, Int.toNat_natCast] at hr
        exact (way_iff hG h all_ok hxi hyj).1 ((fromG_spec hG _ _ _).1 hr.2)
  · intro hw
    obtain ⟨i, x, hxi, rfl⟩ := wr_from h hw
    obtain ⟨j, y, hyj, rfl, hwy⟩ := wr_way hG h all_ok hxi hw
    rcases idx_cases G x.id with ⟨hx, hno⟩ | ⟨i', x', hx, hxi', e⟩
    · exact absurd rfl (hno x (mem_of_some hxi))
    · obtain rfl := ids_inj hG hxi' hxi e
      rcases idx_cases G y.id with ⟨hy, hno⟩ | ⟨j', y', hy, hyj', e'⟩
      · exact absurd rfl (hno y (mem_of_some hyj))
      · obtain rfl := ids_inj hG hyj' hyj e'
        rw [hx, hy, Int.toNat_natCast, Int.toNat_natCast, (fromG_spec hG _ _ _).2 hwy]
        simp
theorem Rel.cyc (hG : Ok G) (h : Rel G N E) {r b : Bool} (h1 : Cyc G r) (h2 : CycR N E b) : r = b := by
  unfold CycR at h2
  have key : b = true ↔ ∃ i, i < G.length ∧ cycAt G i = true := by
    rw [h2]
    constructor
    · rintro ⟨⟨a, s⟩, hp, hw⟩
      obtain ⟨x, hx, hxa, _⟩ := (h.nodes a s).1 hp
      dsimp only at hw
      subst hxa
      obtain ⟨i, hi⟩ := List.mem_iff_getElem?.1 hx
      exact ⟨i, lt_of_some hi, (cyc_way hG).2 ((way_iff hG h all_ok hi hi).2 hw)⟩
    · rintro ⟨i, hi, hc⟩
      have hx := at_ndAt hi
      exact ⟨((ndAt G i).id, (ndAt G i).st), (h.nodes _ _).2 ⟨_, mem_of_some hx, rfl, rfl⟩, (way_iff hG h all_ok hx hx).1 ((cyc_way hG).1 hc)⟩
  rcases h1 with ⟨rfl, hex⟩ | ⟨rfl, hall⟩
  · exact (key.2 hex).symm
  · cases b
    · rfl
    · obtain ⟨i, hi, hc⟩ := key.1 rfl
      rw [hall i hi] at hc
      cases hc
theorem Rel.vict_ (hG : Ok G) (h : Rel G N E) {i : Nat} {y : Nd} (hy : G[i]? = some y) : victR N E y.id = vict G i := by
  have hb : ∀ (k : Nat) (z : Nd), G[k]? = some z → ((eldK G y G.length).testBit k = true ↔ okP N y.id z.id = true) := fun k z hz => by
    rw [eld_bit]
    have h0 := (hG.id0 y (mem_of_some hy)).1
    have hd : decide (y.id < 0) = false := by simp; omega
    unfold okP
    rw [hd, h.bef_ hG hz hy, Bool.false_or]
    constructor
    · rintro ⟨x, hx, hbx⟩
      rw [hz] at hx
      injection hx with hx
      rw [hx]; exact hbx
    · exact fun hbz => ⟨z, hz, hbz⟩
  refine (victR_of ?_).symm
  rw [vict_way hG hy]
  exact way_iff hG h hb hy hy
theorem Rel.victims (hG : Ok G) (h : Rel G N E) : sortI (vicK G G.length) = (sortI (N.map Prod.fst)).filter (victR N E) := by
  rw [h.sorted hG]
  have hn : (sortI (G.map Nd.id)).Nodup := (List.mergeSort_perm _ _).nodup_iff.2 hG.ids
  refine (sortI_eq ?_ ((sortI_sorted _).filter _)).symm
  refine (List.perm_ext_iff_of_nodup (hn.filter _) (vic_nodup hG)).2 fun v => ?_
  rw [List.mem_filter, vic_mem, List.mem_mergeSort, List.mem_map]
  constructor
  · rintro ⟨⟨x, hx, rfl⟩, hv⟩
    obtain ⟨i, hi⟩ := List.mem_iff_getElem?.1 hx
    exact ⟨i, x, hi, rfl, by rw [← h.vict_ hG hi]; exact hv⟩
  · rintro ⟨i, x, hx, rfl, hv⟩
    exact ⟨⟨x, mem_of_some hx, rfl⟩, by rw [h.vict_ hG hx]; exact hv⟩
theorem flatMap_cong {α β : Type} {L : List α} {f g : α → List β} (h : ∀ a, a ∈ L → f a = g a) : L.flatMap f = L.flatMap g := by
  induction L with
  | nil => rfl
  | cons a r ih => rw [List.flatMap_cons, List.flatMap_cons, h a (by simp), ih (fun b hb => h b (by simp [hb]))]
theorem tosK_mem {l : List Nd} {t k : Nat} {b : Int} : b ∈ tosK l t k ↔ ∃ j, j < k ∧ t.testBit j = true ∧ idAt l j = b := by
  unfold tosK
  rw [List.mem_map]
  constructor
  · rintro ⟨j, hj, rfl⟩
    rw [List.mem_filter, List.mem_range] at hj
    exact ⟨j, hj.1, hj.2, rfl⟩
  · rintro ⟨j, h1, h2, rfl⟩
    exact ⟨j, by rw [List.mem_filter, List.mem_range]; exact ⟨h1, h2⟩, rfl⟩
theorem tosK_nodup {l : List Nd} (h : Ok l) (t : Nat) : (tosK l t l.length).Nodup := by
  unfold tosK
  refine nodup_of_inj fun p q v hp hq => ?_
  rw [List.getElem?_map] at hp hq
  obtain ⟨i, hi, e1⟩ := Option.map_eq_some_iff.1 hp
  obtain ⟨j, hj, e2⟩ := Option.map_eq_some_iff.1 hq
  have hil := (List.mem_filter.1 (mem_of_some hi)).1
  have hjl := (List.mem_filter.1 (mem_of_some hj)).1
  rw [List.mem_range] at hil hjl
  obtain ⟨x, hx⟩ := some_of_lt hil
  obtain ⟨y, hy⟩ := some_of_lt hjl
  rw [idAt_of hx] at e1
  rw [idAt_of hy] at e2
  have := ids_inj h hx hy (e1.trans e2.symm)
  subst this
  have hnd : ((List.range l.length).filter (fun j => t.testBit j)).Nodup := List.nodup_range.filter _
  exact nodup_at hnd hi hj
theorem Rel.edgesG_ (hG : Ok G) (h : Rel G N E) : edgesG G = edR (sortI (N.map Prod.fst)) (sortI (N.map Prod.fst)) E := by
  rw [h.sorted hG]
  unfold edgesG edgesK edR
  have hn : (sortI (G.map Nd.id)).Nodup := (List.mergeSort_perm _ _).nodup_iff.2 hG.ids
  refine flatMap_cong fun a ha => ?_
  unfold edRow
  congr 1
  obtain ⟨x, hx, rfl⟩ := List.mem_map.1 (List.mem_mergeSort.1 ha)
  obtain ⟨i, hi⟩ := List.mem_iff_getElem?.1 hx
  unfold tosOf
  rcases idx_cases G x.id with ⟨_, hno⟩ | ⟨i', x', hii, hx', hxe⟩
  · exact absurd rfl (hno x hx)
  obtain rfl := ids_inj hG hx' hi hxe
  rw [hii, Int.toNat_natCast]
  refine (sortI_eq ?_ ((sortI_sorted _).filter _)).symm
  refine (List.perm_ext_iff_of_nodup (hn.filter _) (tosK_nodup hG _)).2 fun b => ?_
  rw [List.mem_filter, tosK_mem, List.mem_mergeSort, List.mem_map, decide_eq_true_eq, h.edges]
  constructor
  · rintro ⟨_, i2, j, x2, y, hx2, hy, e1, rfl, hE⟩
    obtain rfl := ids_inj hG hx2 hi e1
    exact ⟨j, lt_of_some hy, eg_iff.1 hE, idAt_of hy⟩
  · rintro ⟨j, hj, hb, rfl⟩
    obtain ⟨y, hy⟩ := some_of_lt hj
    rw [idAt_of hy]
    exact ⟨⟨y, mem_of_some hy, rfl⟩, i', j, x, y, hi, hy, rfl, rfl, eg_iff.2 hb⟩
theorem Rel.oldest (hG : Ok G) (h : Rel G N E) {e e' : Ending} (h1 : (G = [] ∧ e = .returned (.tuple #[.int .i64 0, .bool false])) ∨ (∃ y : Nd, y ∈ G ∧ e = .returned (.tuple #[.int .i64 y.id, .bool true]) ∧ ∀ x : Nd, x ∈ G → bef x y = false)) (h2 : OldR N e') : e = e' := by
  unfold OldR at h2
  rcases h1 with ⟨hn, rfl⟩ | ⟨y, hy, rfl, hmin⟩
  · have hN : N = [] := List.eq_nil_of_length_eq_zero (by rw [h.len, hn]; rfl)
    rcases h2 with ⟨_, rfl⟩ | ⟨p, hp, _⟩
    · rfl
    · rw [hN] at hp; cases hp
  · obtain ⟨j, hj⟩ := List.mem_iff_getElem?.1 hy
    rcases h2 with ⟨hall, rfl⟩ | ⟨⟨a, s⟩, hp, hmin2, rfl⟩
    · obtain ⟨⟨a, s⟩, hq, hel⟩ := hall (y.id, y.st) ((h.nodes _ _).2 ⟨y, hy, rfl, rfl⟩)
      obtain ⟨x, hx, rfl, _⟩ := (h.nodes a s).1 hq
      obtain ⟨i, hi⟩ := List.mem_iff_getElem?.1 hx
      dsimp only at hel
      rw [h.bef_ hG hi hj, hmin x hx] at hel
      cases hel
    · obtain ⟨x, hx, rfl, _⟩ := (h.nodes a s).1 hp
      obtain ⟨i, hi⟩ := List.mem_iff_getElem?.1 hx
      have hm := hmin2 (y.id, y.st) ((h.nodes _ _).2 ⟨y, hy, rfl, rfl⟩)
      dsimp only at hm
      rw [h.bef_ hG hj hi] at hm
      by_cases e : i = j
      · subst e
        rw [hi] at hj
        injection hj with hj
        rw [hj]
      · rcases bef_total hG hi hj e with hb | hb
        · rw [hmin x hx] at hb; cases hb
        · rw [hm] at hb; cases hb
end
end Go.Proofs.YtfcdplfnhjbdnabDoor
