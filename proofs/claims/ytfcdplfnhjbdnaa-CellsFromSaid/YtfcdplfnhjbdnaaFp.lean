/- A store made of cells, in plain words. -/
import Derived.Test.YtfcdplfnhjbdnaaCw
import Derived.Test.YtfcdplfnhjbdnaaTs
namespace Go.Proofs.Ytfcdplfnhjbdnaa
open Go.RowKit Go.Maps
set_option linter.unusedVariables false

abbrev Cell := List UInt8 × List Ver
def verOK (a : Int) (v : Ver) : Bool := decide (a < v.t) && (decide (0 ≤ v.t) && decide (v.t ≤ 1099511627776)) && decide (v.val.size ≤ 32) && (v.has || decide (v.val = ⟨#[]⟩))
def versOK : Int → List Ver → Bool
  | _, [] => true
  | a, v :: r => verOK a v && versOK v.t r
def rightB (c : Cell) (m : Int) : Bool := versOK (-1) c.2 && decide (c.1.length ≤ 16) && decide (0 < c.2.length) && decide (goneN c.2 m = 0)
def befB (p : Option (List UInt8)) (k : List UInt8) : Bool := match p with
  | none => true
  | some k0 => decide (k0 < k)
def okC : Option (List UInt8) → List Cell → Int → Bool
  | _, [], _ => true
  | p, c :: r, m => rightB c m && befB p c.1 && okC (some c.1) r m
theorem versOK_facts : ∀ (l : List Ver) (a : Int), versOK a l = true → (∀ v ∈ l, a < v.t) ∧ (l.Pairwise fun a b => a.t < b.t) ∧ (∀ v ∈ l, 0 ≤ v.t ∧ v.t ≤ 1099511627776 ∧ v.val.size ≤ 32 ∧ (v.has = false → v.val = ⟨#[]⟩))
  | [], a, _ => by simp
  | v :: r, a, h => by
    unfold versOK verOK at h
    simp only [Bool.and_eq_true, decide_eq_true_eq, Bool.or_eq_true] at h
    obtain ⟨⟨⟨⟨h1, h2, h3⟩, h4⟩, h5⟩, h6⟩ := h
    obtain ⟨q1, q2, q3⟩ := versOK_facts r v.t h6
    refine ⟨fun u hu => ?_, List.pairwise_cons.2 ⟨q1, q2⟩, fun u hu => ?_⟩
    · rcases List.mem_cons.1 hu with rfl | hu
      · exact h1
      · exact Int.lt_trans h1 (q1 u hu)
    · rcases List.mem_cons.1 hu with rfl | hu
      · exact ⟨h2, h3, h4, fun e => by rcases h5 with h5 | h5; rw [e] at h5; cases h5; exact h5⟩
      · exact q3 u hu
theorem versOK_of : ∀ (l : List Ver) (a : Int), (∀ v ∈ l, a < v.t) → (l.Pairwise fun a b => a.t < b.t) → (∀ v ∈ l, 0 ≤ v.t ∧ v.t ≤ 1099511627776 ∧ v.val.size ≤ 32 ∧ (v.has = false → v.val = ⟨#[]⟩)) → versOK a l = true
  | [], a, _, _, _ => rfl
  | v :: r, a, h1, h2, h3 => by
    obtain ⟨p1, p2⟩ := List.pairwise_cons.1 h2
    obtain ⟨q1, q2, q3, q4⟩ := h3 v (by simp)
    unfold versOK verOK
    simp only [Bool.and_eq_true, decide_eq_true_eq, Bool.or_eq_true]
    refine ⟨⟨⟨⟨h1 v (by simp), q1, q2⟩, q3⟩, ?_⟩, versOK_of r v.t p1 p2 (fun u hu => h3 u (by simp [hu]))⟩
    cases hh : v.has
    · exact .inr (q4 hh)
    · exact .inl rfl
theorem right_facts {c : Cell} {m : Int} (h : rightB c m = true) : (c.2.Pairwise fun a b => a.t < b.t) ∧ (∀ v ∈ c.2, 0 ≤ v.t ∧ v.t ≤ 1099511627776 ∧ v.val.size ≤ 32 ∧ (v.has = false → v.val = ⟨#[]⟩)) ∧ c.1.length ≤ 16 ∧ c.2 ≠ [] ∧ goneN c.2 m = 0 := by
  unfold rightB at h
  simp only [Bool.and_eq_true, decide_eq_true_eq] at h
  obtain ⟨⟨⟨h1, h2⟩, h3⟩, h4⟩ := h
  obtain ⟨_, q2, q3⟩ := versOK_facts _ _ h1
  exact ⟨q2, q3, h2, fun e => by rw [e] at h3; simp at h3, h4⟩
theorem okC_facts : ∀ (cs : List Cell) (p : Option (List UInt8)) (m : Int), okC p cs m = true → (∀ c ∈ cs, rightB c m = true) ∧ (∀ k0, p = some k0 → ∀ c ∈ cs, k0 < c.1) ∧ (cs.map Prod.fst).Pairwise (· < ·)
  | [], p, m, _ => by simp
  | c :: r, p, m, h => by
    unfold okC at h
    simp only [Bool.and_eq_true] at h
    obtain ⟨⟨h1, h2⟩, h3⟩ := h
    obtain ⟨q1, q2, q3⟩ := okC_facts r _ m h3
    refine ⟨fun x hx => ?_, fun k0 e x hx => ?_, ?_⟩
    · rcases List.mem_cons.1 hx with rfl | hx
      · exact h1
      · exact q1 x hx
    · subst e
      have h2 : k0 < c.1 := by simpa [befB] using h2
      rcases List.mem_cons.1 hx with rfl | hx
      · exact h2
      · exact List.lt_trans h2 (q2 _ rfl x hx)
    · rw [List.map_cons, List.pairwise_cons]
      refine ⟨fun k hk => ?_, q3⟩
      obtain ⟨x, hx, rfl⟩ := List.mem_map.1 hk
      exact q2 _ rfl x hx
theorem okC_of : ∀ (cs : List Cell) (p : Option (List UInt8)) (m : Int), (∀ c ∈ cs, rightB c m = true) → (∀ k0, p = some k0 → ∀ c ∈ cs, k0 < c.1) → (cs.map Prod.fst).Pairwise (· < ·) → okC p cs m = true
  | [], p, m, _, _, _ => rfl
  | c :: r, p, m, h1, h2, h3 => by
    rw [List.map_cons, List.pairwise_cons] at h3
    unfold okC
    simp only [Bool.and_eq_true]
    refine ⟨⟨h1 c (by simp), ?_⟩, okC_of r _ m (fun x hx => h1 x (by simp [hx])) (fun k0 e x hx => ?_) h3.2⟩
    · cases p with
      | none => rfl
      | some k0 => exact decide_eq_true (h2 k0 rfl c (by simp))
    · injection e with e
      subst e
      exact h3.1 _ (List.mem_map.2 ⟨x, hx, rfl⟩)
/-! ### The store -/
def lastT (l : List Ver) : Int := match l.getLast? with
  | some v => v.t
  | none => 0
def lookG (f : List UInt8 → List Ver) (cs : List Cell) : List UInt8 → List Ver := cs.foldl (fun f c => updF f c.1 c.2) f
def lastG (a : Int) (cs : List Cell) : Int := cs.foldl (fun a c => max a (lastT c.2)) a
def fromS (cs : List Cell) (m : Int) : CS := ⟨lookG (fun _ => []) cs, lastG 0 cs, m⟩
theorem fromS_snoc (cs : List Cell) (c : Cell) (m : Int) : fromS (cs ++ [c]) m = { fromS cs m with f := updF (fromS cs m).f c.1 c.2, last := max (fromS cs m).last (lastT c.2) } := by
  simp [fromS, lookG, lastG, List.foldl_append]
theorem lookG_not (f : List UInt8 → List Ver) : ∀ (cs : List Cell) (k : List UInt8), k ∉ cs.map Prod.fst → lookG f cs k = f k
  | [], k, _ => rfl
  | c :: r, k, h => by
    rw [List.map_cons, List.mem_cons, not_or] at h
    show lookG (updF f c.1 c.2) r k = f k
    rw [lookG_not _ r k h.2]
    unfold updF
    rw [if_neg h.1]
theorem lookG_mem : ∀ (cs : List Cell) (f : List UInt8 → List Ver), (cs.map Prod.fst).Pairwise (· < ·) → ∀ c ∈ cs, lookG f cs c.1 = c.2
  | [], f, _, c, hc => by simp at hc
  | x :: r, f, h, c, hc => by
    rw [List.map_cons, List.pairwise_cons] at h
    show lookG (updF f x.1 x.2) r c.1 = c.2
    rcases List.mem_cons.1 hc with rfl | hc
    · rw [lookG_not _ r c.1 (fun hm => List.lt_irrefl _ (h.1 _ hm))]
      unfold updF
      rw [if_pos rfl]
    · exact lookG_mem r _ h.2 c hc
theorem lookG_cases (cs : List Cell) (h : (cs.map Prod.fst).Pairwise (· < ·)) (k : List UInt8) : lookG (fun _ => []) cs k = [] ∧ k ∉ cs.map Prod.fst ∨ ∃ c ∈ cs, c.1 = k ∧ lookG (fun _ => []) cs k = c.2 := by
  by_cases hk : k ∈ cs.map Prod.fst
  · obtain ⟨c, hc, rfl⟩ := List.mem_map.1 hk
    exact .inr ⟨c, hc, rfl, lookG_mem cs _ h c hc⟩
  · exact .inl ⟨lookG_not _ cs k hk, hk⟩
theorem lastG_ge : ∀ (cs : List Cell) (a : Int), a ≤ lastG a cs ∧ ∀ c ∈ cs, lastT c.2 ≤ lastG a cs
  | [], a => by simp [lastG]
  | c :: r, a => by
    obtain ⟨h1, h2⟩ := lastG_ge r (max a (lastT c.2))
    refine ⟨Int.le_trans (Int.le_max_left _ _) h1, fun x hx => ?_⟩
    rcases List.mem_cons.1 hx with rfl | hx
    · exact Int.le_trans (Int.le_max_right _ _) h1
    · exact h2 x hx
theorem lastG_le (b : Int) : ∀ (cs : List Cell) (a : Int), a ≤ b → (∀ c ∈ cs, lastT c.2 ≤ b) → lastG a cs ≤ b
  | [], a, h, _ => h
  | c :: r, a, h, hc => lastG_le b r (max a (lastT c.2)) (Int.max_le.2 ⟨h, hc c (by simp)⟩) (fun x hx => hc x (by simp [hx]))
theorem lastT_mem {l : List Ver} (h : l ≠ []) : ∃ v ∈ l, lastT l = v.t := by
  unfold lastT
  rcases hl : l.getLast? with _ | v
  · rw [List.getLast?_eq_none_iff] at hl; exact absurd hl h
  · exact ⟨v, List.mem_of_getLast? hl, rfl⟩
theorem lastT_ge {l : List Ver} (h : l.Pairwise fun a b => a.t < b.t) : ∀ v ∈ l, v.t ≤ lastT l := by
  unfold lastT
  rcases hl : l.getLast? with _ | x
  · rw [List.getLast?_eq_none_iff] at hl; subst hl; simp
  · obtain ⟨r, rfl⟩ := List.getLast?_eq_some_iff.1 hl
    intro v hv
    rcases List.mem_append.1 hv with hv | hv
    · have := (List.pairwise_append.1 h).2.2 v hv x (by simp)
      simp only; omega
    · simp at hv; subst hv; exact Int.le_refl _
theorem fromS_good {cs : List Cell} {m : Int} (h : okC none cs m = true) (h0 : 0 ≤ m) (h1 : m ≤ maxClock) : Good (fromS cs m) := by
  obtain ⟨q1, _, q3⟩ := okC_facts cs none m h
  have hk := lookG_cases cs q3
  have hg := lastG_ge cs 0
  refine ⟨fun k => ?_, fun k v hv => ?_, hg.1, ?_, h0, h1⟩
  · rcases hk k with ⟨e, _⟩ | ⟨c, hc, _, e⟩
    · show (lookG _ cs k).Pairwise _
      rw [e]; exact List.Pairwise.nil
    · show (lookG _ cs k).Pairwise _
      rw [e]; exact (right_facts (q1 c hc)).1
  · have hv : v ∈ lookG (fun _ => []) cs k := hv
    rcases hk k with ⟨e, _⟩ | ⟨c, hc, _, e⟩
    · rw [e] at hv; simp at hv
    · rw [e] at hv
      have hr := right_facts (q1 c hc)
      exact ⟨(hr.2.1 v hv).1, Int.le_trans (lastT_ge hr.1 v hv) (hg.2 c hc)⟩
  · refine lastG_le _ cs 0 (by simp [maxClock]) fun c hc => ?_
    have hr := right_facts (q1 c hc)
    obtain ⟨v, hv, e⟩ := lastT_mem hr.2.2.2.1
    rw [e]; exact (hr.2.1 v hv).2.1
theorem fromS_len {cs : List Cell} {m : Int} (h : okC none cs m = true) {N : Nat} (hN : ∀ c ∈ cs, c.2.length ≤ N) (k : List UInt8) : ((fromS cs m).f k).length ≤ N := by
  obtain ⟨q1, _, q3⟩ := okC_facts cs none m h
  show (lookG _ cs k).length ≤ N
  rcases lookG_cases cs q3 k with ⟨e, _⟩ | ⟨c, hc, _, e⟩
  · rw [e]; simp
  · rw [e]; exact hN c hc
theorem fromS_keys {cs : List Cell} {m : Int} (h : okC none cs m = true) : KeysIn (fromS cs m) (cs.map Prod.fst) := by
  obtain ⟨q1, _, q3⟩ := okC_facts cs none m h
  refine ⟨q3, fun k => ?_⟩
  show _ ↔ lookG _ cs k ≠ []
  rcases lookG_cases cs q3 k with ⟨e, hn⟩ | ⟨c, hc, rfl, e⟩
  · rw [e]; simp only [ne_eq, not_true, iff_false]; exact hn
  · rw [e]; exact ⟨fun _ => (right_facts (q1 c hc)).2.2.2.1, fun _ => List.mem_map.2 ⟨c, hc, rfl⟩⟩
theorem fromS_cells {cs : List Cell} {m : Int} (h : okC none cs m = true) : cellsOf (fromS cs m).f (cs.map Prod.fst) = cs := by
  obtain ⟨q1, _, q3⟩ := okC_facts cs none m h
  unfold cellsOf
  rw [List.map_map]
  conv => rhs; rw [← List.map_id cs]
  refine List.map_congr_left fun c hc => ?_
  show (c.1, lookG _ cs c.1) = c
  rw [lookG_mem cs _ q3 c hc]
theorem fromS_trim {cs : List Cell} {m : Int} (h : okC none cs m = true) : trimS (fromS cs m) m = fromS cs m ∧ ∀ ks, trimN (fromS cs m) m ks = 0 := by
  obtain ⟨q1, _, q3⟩ := okC_facts cs none m h
  have hg : ∀ k, goneN ((fromS cs m).f k) m = 0 := fun k => by
    show goneN (lookG _ cs k) m = 0
    rcases lookG_cases cs q3 k with ⟨e, _⟩ | ⟨c, hc, _, e⟩
    · rw [e]; have := goneN_le [] m; simp at this; exact this
    · rw [e]; exact (right_facts (q1 c hc)).2.2.2.2
  refine ⟨?_, fun ks => ?_⟩
  · unfold trimS
    simp only [hg, List.drop_zero]
    rfl
  · unfold trimN
    rw [show (fun k => goneN ((fromS cs m).f k) m) = fun _ => 0 from funext hg]
    exact sum_zero ks
/-! ### What every store keeps -/
structure Inv (s : CS) : Prop where
  void : Void s
  small : ∀ k, ∀ v ∈ s.f k, v.val.size ≤ 32
  key : ∀ k, s.f k ≠ [] → k.length ≤ 16
  gone : ∀ k, goneN (s.f k) s.floor = 0
theorem inv_empty : Inv emptyS := ⟨void_empty, fun k v hv => by simp [emptyS] at hv, fun k h => absurd rfl h, fun k => by have := goneN_le [] emptyS.floor; simp at this; exact this⟩
theorem mem_cut {l : List Ver} {m : Int} {v : Ver} (h : v ∈ cutAt l m) : v ∈ l := by
  unfold cutAt at h
  split at h
  · split at h
    · exact List.dropLast_subset _ h
    · exact h
  · exact h
theorem up_append {l r : List Ver} {m : Int} (h : ∀ v ∈ r, m < v.t) : upN (l ++ r) m = upN l m := by
  unfold upN
  rw [List.countP_append]
  have : r.countP (fun v => decide (v.t ≤ m)) = 0 := by
    rw [List.countP_eq_zero]
    intro v hv
    have := h v hv
    simp; omega
  omega
theorem gone_append {l r : List Ver} {m : Int} (h : ∀ v ∈ r, m < v.t) : goneN (l ++ r) m = goneN l m := by
  unfold goneN
  rw [up_append h]
  have hu := upN_le l m
  by_cases hlt : upN l m - 1 < l.length
  · rw [List.getElem?_append_left hlt]
  · rw [List.getElem?_append_right (by omega), List.getElem?_eq_none (l := l) (by omega)]
    rcases hr : r[upN l m - 1 - l.length]? with _ | v
    · rfl
    · have := h v (mem_of_some hr)
      unfold goneK
      simp only
      rw [if_neg (fun e => by omega)]
theorem cut_form {l : List Ver} {m : Int} : ∃ r, l = cutAt l m ++ r ∧ ∀ v ∈ r, v.t = m := by
  unfold cutAt
  rcases hl : l.getLast? with _ | x
  · exact ⟨[], by simp, by simp⟩
  · obtain ⟨q, rfl⟩ := List.getLast?_eq_some_iff.1 hl
    simp only
    by_cases e : x.t = m
    · rw [if_pos e, List.dropLast_concat]
      exact ⟨[x], rfl, by simp [e]⟩
    · rw [if_neg e]; exact ⟨[], by simp, by simp⟩
theorem gone_cut {l : List Ver} {m fl : Int} (h : fl < m) : goneN (cutAt l m) fl = goneN l fl := by
  obtain ⟨r, hr, hv⟩ := @cut_form l m
  conv => rhs; rw [hr]
  rw [gone_append fun v hv' => by rw [hv v hv']; exact h]
theorem size_list (K : ByteArray) : K.data.toList.length = K.size := by rw [Array.length_toList]; rfl
theorem inv_put {s : CS} (h : Inv s) (K V : ByteArray) (H : Bool) (M : Int) : Inv (putS s K V H M) := by
  by_cases he : putE s K V M = 0
  · have hb : K.size ≤ 16 ∧ V.size ≤ 32 ∧ s.floor < M := by
      unfold putE at he
      split at he
      · omega
      split at he
      · omega
      omega
    refine ⟨void_put h.void K V H M, fun k => ?_, fun k => ?_, fun k => ?_⟩
    · rw [put_is he]
      by_cases e : k = K.data.toList
      · rw [if_pos e]
        intro v hv
        rcases List.mem_append.1 hv with hv | hv
        · exact h.small _ v (mem_cut hv)
        · rw [List.mem_singleton] at hv
          subst hv
          unfold putV
          cases H
          · exact Nat.zero_le _
          · exact hb.2.1
      · rw [if_neg e]; exact h.small k
    · rw [put_is he]
      by_cases e : k = K.data.toList
      · intro _
        subst e
        have := hb.1; rwa [← size_list] at this
      · rw [if_neg e]; exact h.key k
    · rw [put_is he, put_floor]
      by_cases e : k = K.data.toList
      · rw [if_pos e, gone_append, gone_cut hb.2.2]
        · exact h.gone k
        · intro v hv
          rw [List.mem_singleton] at hv
          subst hv
          exact hb.2.2
      · rw [if_neg e]; exact h.gone k
  · rw [put_no he]; exact h
theorem inv_trim {s : CS} (h : Inv s) (hg : Good s) (m : Int) : Inv (trimS s m) :=
  ⟨void_trim h.void m, fun k v hv => h.small k v (List.mem_of_mem_drop hv), fun k hne => h.key k (fun e => hne (by show (s.f k).drop _ = []; rw [e]; simp)), fun k => gone_again (hg.rise k) m⟩
theorem inv_do {s : CS} (h : Inv s) (hg : Good s) (K V : ByteArray) (H T : Bool) (M : Int) : Inv (doS s K V H T M) := by
  unfold doS
  split
  · split
    · exact inv_trim h hg M
    · exact h
  · exact inv_put h K V H M
/-- A store's own cells make a store again. -/
theorem inv_ok {s : CS} (h : Inv s) (hg : Good s) {ks : List (List UInt8)} (hk : KeysIn s ks) : okC none (cellsOf s.f ks) s.floor = true := by
  refine okC_of _ _ _ (fun c hc => ?_) (fun k0 e => by cases e) ?_
  · obtain ⟨k, hk', rfl⟩ := List.mem_map.1 hc
    have hne := (hk.2 k).1 hk'
    unfold rightB
    simp only [Bool.and_eq_true, decide_eq_true_eq]
    refine ⟨⟨⟨versOK_of _ _ (fun v hv => by have := (hg.ver k v hv).1; omega) (hg.rise k) (fun v hv => ?_), h.key k hne⟩, List.length_pos_iff.2 hne⟩, h.gone k⟩
    have h1 := hg.ver k v hv
    have h2 := hg.l1
    unfold maxClock at h2
    exact ⟨h1.1, by omega, h.small k v hv, h.void k v hv⟩
  · unfold cellsOf
    rw [List.map_map]
    have : ((Prod.fst : Cell → List UInt8) ∘ fun k => (k, s.f k)) = id := rfl
    rw [this, List.map_id]
    exact hk.1
theorem inv_same {s : CS} (h : Inv s) (hg : Good s) {ks : List (List UInt8)} (hk : KeysIn s ks) : (fromS (cellsOf s.f ks) s.floor).f = s.f ∧ (fromS (cellsOf s.f ks) s.floor).last ≤ s.last := by
  have hok := inv_ok h hg hk
  obtain ⟨q1, _, q3⟩ := okC_facts _ _ _ hok
  refine ⟨funext fun k => ?_, lastG_le _ _ 0 hg.l0 fun c hc => ?_⟩
  · show lookG _ _ k = s.f k
    rcases lookG_cases _ q3 k with ⟨e, hn⟩ | ⟨c, hc, rfl, e⟩
    · rw [e]
      have : k ∉ ks := fun hm => hn (List.mem_map.2 ⟨(k, s.f k), List.mem_map.2 ⟨k, hm, rfl⟩, rfl⟩)
      rw [hk.2] at this
      exact (Classical.byContradiction fun hne => this (fun e' => hne e'.symm)).symm ▸ rfl
    · rw [e]
      obtain ⟨k, _, rfl⟩ := List.mem_map.1 hc
      rfl
  · obtain ⟨k, hk', rfl⟩ := List.mem_map.1 hc
    obtain ⟨v, hv, e⟩ := lastT_mem ((hk.2 k).1 hk')
    rw [e]; exact (hg.ver k v hv).2
end Go.Proofs.Ytfcdplfnhjbdnaa
