/- General words for a row of the call's own that begins anywhere in its block (what 's = s[1:]' leaves), and append onto it. No program is spoken of. -/
import Derived.Test.YtfcdplfnhjbdnabDoorLib
import Derived.ArgAppend
import Derived.Deep.Upon
namespace Go.Proofs.YtfcdplfnhjbdnabDoor
open Go.RowKit
set_option linter.unusedVariables false

theorem blk_setCells {t : TypeId} {g : Nat} : ∀ (vs : List Value) (o : Nat) (w : World) (cs : Array Value), Blk w g t cs →
    ∃ cs', Blk (w.setCells g o vs) g t cs' ∧ cs'.size = cs.size ∧ (∀ j, j < o ∨ o + vs.length ≤ j → cs'[j]? = cs[j]?) ∧ (∀ j, j < vs.length → o + j < cs.size → cs'[o + j]? = vs[j]?)
  | [], o, w, cs, h => ⟨cs, h, rfl, fun _ _ => rfl, fun j hj => absurd hj (by simp)⟩
  | v :: r, o, w, cs, h => by
    obtain ⟨cs', h1, h2, h3, h4⟩ := blk_setCells r (o + 1) (w.setCell ⟨g, o, none⟩ v) _ (h.set_ o v)
    refine ⟨cs', h1, by rw [h2]; simp, fun j hj => ?_, fun j hj hlt => ?_⟩
    · rw [h3 j (by simp at hj; omega), Array.getElem?_setIfInBounds_ne (by simp at hj; omega)]
    · rcases Nat.eq_zero_or_pos j with h0 | h0
      · subst h0
        rw [Nat.add_zero, h3 o (.inl (by omega)), Array.getElem?_setIfInBounds_self]
        simp at hlt
        simp [hlt]
      · obtain ⟨i, rfl⟩ : ∃ i, j = i + 1 := ⟨j - 1, by omega⟩
        have := h4 i (by simp at hj; omega) (by simp; omega)
        rw [show o + (i + 1) = o + 1 + i by omega, this]
        simp
def rowAt (w : World) (B : Nat) (e : TypeId) (size : Nat) (v : Value) (n : Nat) (xs : List Value) : Prop :=
  xs.length = n * size ∧ ((v = .slice none 0 0 ∧ n = 0) ∨ ∃ g off cap cur, v = .slice (some ⟨g, off, none⟩) n cap ∧ B ≤ g ∧ Blk w g e cur ∧ n ≤ cap ∧ cap ≤ maxLen ∧ off + cap * size ≤ cur.size ∧ ∀ j u, xs[j]? = some u → cur[off + j]? = some u)
section
variable {w w' : World} {B : Nat} {e : TypeId} {size n : Nat} {v : Value} {xs : List Value}
theorem rowAt.of_own (h : w.ownsRow B e size v n xs) : rowAt w B e size v n xs := by
  refine ⟨h.1, ?_⟩
  rcases h.2 with h2 | ⟨g, cap, cur, rfl, hg, hh, hnc, hcm, hcs, ht⟩
  · exact .inl h2
  · refine .inr ⟨g, 0, cap, cur, rfl, hg, hh, hnc, hcm, by omega, fun j u hu => ?_⟩
    have hj : j < n * size := by rw [← h.1]; rcases Nat.lt_or_ge j xs.length with h' | h'; exact h'; rw [List.getElem?_eq_none h'] at hu; cases hu
    rw [Nat.zero_add, ← hu, ← ht, List.getElem?_take_of_lt hj, Array.getElem?_toList]
theorem rowAt.nil (w : World) (B : Nat) (e : TypeId) (size : Nat) : rowAt w B e size (.slice none 0 0) 0 [] := ⟨by simp, .inl ⟨rfl, rfl⟩⟩
theorem rowAt.form_ (h : rowAt w B e size v n xs) : ∃ A c, v = .slice A n c := by
  rcases h.2 with ⟨rfl, rfl⟩ | ⟨g, off, cap, cur, rfl, _⟩
  · exact ⟨_, _, rfl⟩
  · exact ⟨_, _, rfl⟩
theorem rowAt.lt (h : rowAt w B e size v n xs) {k : Nat} (hk : v.ownBlock = some k) : B ≤ k ∧ k < w.heap.size := by
  rcases h.2 with ⟨rfl, _⟩ | ⟨g, off, cap, cur, rfl, hg, hh, _⟩
  · simp [Value.ownBlock] at hk
  · simp [Value.ownBlock] at hk; subst hk; exact ⟨hg, hh.lt⟩
theorem rowAt.blk_ne {g : Nat} {t : TypeId} {cs : Array Value} (h : rowAt w B e size v n xs) (hg : Blk w g t cs) (hne : e ≠ t) : v.ownBlock ≠ some g := by
  rcases h.2 with ⟨rfl, _⟩ | ⟨g', off, cap, cur, rfl, _, hh, _⟩
  · simp [Value.ownBlock]
  · intro he
    have : g' = g := by simpa [Value.ownBlock] using he
    subst this
    exact Blk.ne_ hh hg hne rfl
theorem rowAt.mono {B' : Nat} (h : rowAt w B e size v n xs) (hB : B' ≤ B) : rowAt w B' e size v n xs := by
  refine ⟨h.1, ?_⟩
  rcases h.2 with h2 | ⟨g, off, cap, cur, rfl, hg, r⟩
  · exact .inl h2
  · exact .inr ⟨g, off, cap, cur, rfl, by omega, r⟩
theorem rowAt.keep (h : rowAt w B e size v n xs) (hk : ∀ g cs, v.ownBlock = some g → Blk w g e cs → Blk w' g e cs) : rowAt w' B e size v n xs := by
  refine ⟨h.1, ?_⟩
  rcases h.2 with h2 | ⟨g, off, cap, cur, rfl, hg, hh, r⟩
  · exact .inl h2
  · exact .inr ⟨g, off, cap, cur, rfl, hg, hk g cur rfl hh, r⟩
theorem rowAt.ch {S : Nat → Prop} (h : rowAt w B e size v n xs) (hc : Ch S w w') (hS : ∀ k, v.ownBlock = some k → ¬ S k) : rowAt w' B e size v n xs := h.keep fun g cs hg hb => hb.ch hc (hS g hg)
theorem rowAt.cells {g off cap : Nat} (h : rowAt w B e size (.slice (some ⟨g, off, none⟩) n cap) n xs) {j : Nat} {u : Value} (hu : xs[j]? = some u) : w.cell? ⟨g, off + j, none⟩ = some u := by
  rcases h.2 with ⟨h1, _⟩ | ⟨g', off', cap', cur, hv, hg, hh, hnc, hcm, hcs, hx⟩
  · cases h1
  · injection hv with hA hn hc
    injection hA with hA
    injection hA with hA1 hA2
    subst hA1 hA2
    rw [hh.cell]
    exact hx j u hu
theorem rowAt.some_ (h : rowAt w B e size v n xs) (hn : 0 < n) : ∃ g off cap, v = .slice (some ⟨g, off, none⟩) n cap ∧ B ≤ g ∧ n ≤ cap := by
  rcases h.2 with ⟨_, h0⟩ | ⟨g, off, cap, cur, rfl, hg, _, hnc, _⟩
  · omega
  · exact ⟨g, off, cap, rfl, hg, hnc⟩
/-- What is left behind the first ones ('s[k:]', k below the capacity). -/
theorem rowAt.tail {g off cap k : Nat} (h : rowAt w B e size (.slice (some ⟨g, off, none⟩) n cap) n xs) (hk : k ≤ n) : rowAt w B e size (.slice (some ⟨g, off + k * size, none⟩) (n - k) (cap - k)) (n - k) (xs.drop (k * size)) := by
  refine ⟨by rw [List.length_drop, h.1, Nat.sub_mul], ?_⟩
  rcases h.2 with ⟨h1, _⟩ | ⟨g', off', cap', cur, hv, hg, hh, hnc, hcm, hcs, hx⟩
  · cases h1
  · injection hv with hA hn hc
    injection hA with hA
    injection hA with hA1 hA2
    subst hA1 hA2 hc
    refine .inr ⟨g, _, _, cur, rfl, hg, hh, by omega, by omega, ?_, fun j u hu => ?_⟩
    · have := Nat.mul_le_mul_right size (show k + (cap - k) ≤ cap by omega)
      rw [Nat.add_mul] at this
      omega
    · rw [List.getElem?_drop] at hu
      rw [Nat.add_assoc]
      exact hx _ u hu
/-- At the capacity's end the old address stays. -/
theorem rowAt.empty {g off cap : Nat} (h : rowAt w B e size (.slice (some ⟨g, off, none⟩) n cap) n xs) : rowAt w B e size (.slice (some ⟨g, off, none⟩) 0 0) 0 [] := by
  refine ⟨by simp, ?_⟩
  rcases h.2 with ⟨h1, _⟩ | ⟨g', off', cap', cur, hv, hg, hh, hnc, hcm, hcs, hx⟩
  · cases h1
  · injection hv with hA hn hc
    injection hA with hA
    injection hA with hA1 hA2
    subst hA1 hA2
    exact .inr ⟨g, off, 0, cur, rfl, hg, hh, Nat.le_refl _, by simp [maxLen], by omega, fun j u hu => by simp at hu⟩
end
section
variable {P : Program} (w : World)
theorem run_append_off (B : Nat) (t ty e : TypeId) (i : TypeInfo) (z : Value) (size bytes : Nat) (ht : P.underlying t = some (.slice e)) (hi : P.info? e = some i) (hz : i.zero = some z)
    (hsize : i.size = size) (hby : i.bytes = bytes) (hzs : z.cells.size = size) (hsz : 0 < size)
    (v : Value) (n : Nat) (xs : List Value) (hown : rowAt w B e size v n xs)
    (a : Addr) (m c : Nat) (news : List Value) (hl : news.length = m * size) (hnews : ∀ j u, news[j]? = some u → w.cell? (a.add j) = some u) (h1 : ∀ u ∈ news, u.oneCell' = true)
    (h63 : n + m ≤ maxLen) (hbytes : (n + m) * bytes ≤ 140737488355328) (hbase : B ≤ w.heap.size) :
    ∃ v' w', (Builtin.append_ #[t, t] ty #[v, .slice (some a) m c]).run P w = .ok v' w' ∧ rowAt w' B e size v' (n + m) (xs ++ news) ∧ w.grownBy w' v.ownBlock ∧
      (∀ k, v'.ownBlock = some k → v.ownBlock = some k ∨ w.heap.size ≤ k) := by
  rcases hown.2 with ⟨rfl, rfl⟩ | ⟨g, off, cap, cur, rfl, hg, hh, hnc, hcm, hcs, hx⟩
  · have hxs : xs = [] := List.eq_nil_of_length_eq_zero (by simpa using hown.1)
    subst hxs
    obtain ⟨v', w', hr, h2, h3, _, h5⟩ := run_append_own_at (P := P) w B t ty e i z size bytes ht hi hz hsize hby hzs hsz (.slice none 0 0) 0 [] (World.ownsRow_nil w B e size) a m c news hl hnews h1 h63 hbytes hbase
    refine ⟨v', w', hr, rowAt.of_own h2, h3, fun k hk => ?_⟩
    rcases h5 with e | e
    · exact .inl (e ▸ hk)
    · rw [e] at hk; injection hk with hk; exact .inr (by omega)
  · by_cases hroom : n + m ≤ cap
    · have hmul : n * size + m * size ≤ cap * size := by rw [← Nat.add_mul]; exact Nat.mul_le_mul_right _ hroom
      have hlt : ∀ j, j < news.length → off + n * size + j < cur.size := fun j hj => by rw [hl] at hj; omega
      have hr := run_append_room_cells (P := P) w t ty e i ht hi g off n cap a m c news (by rw [hsize]; exact hl) hnews h1 hroom (fun j hj => by
        rw [hsize, hh.cell, Array.getElem?_eq_getElem (hlt j hj)]; rfl) (fun j hj => hh.frozen _)
      rw [hsize] at hr
      obtain ⟨cs', b1, b2, b3, b4⟩ := blk_setCells news (off + n * size) w cur hh
      refine ⟨_, _, hr, ⟨by rw [List.length_append, hown.1, hl, Nat.add_mul], .inr ⟨g, off, cap, cs', rfl, hg, b1, hroom, hcm, by omega, fun j u hu => ?_⟩⟩, ?_, fun k hk => .inl hk⟩
      · rcases Nat.lt_or_ge j xs.length with hj | hj
        · rw [List.getElem?_append_left hj] at hu
          rw [b3 (off + j) (.inl (by rw [hown.1] at hj; omega))]
          exact hx j u hu
        · rw [List.getElem?_append_right hj] at hu
          have hjn : j - xs.length < news.length := by
            rcases Nat.lt_or_ge (j - xs.length) news.length with h | h
            · exact h
            · rw [List.getElem?_eq_none h] at hu; cases hu
          have := b4 (j - xs.length) hjn (hlt _ hjn)
          rw [show off + j = off + n * size + (j - xs.length) by rw [hown.1] at hj ⊢; omega, this]
          exact hu
      · have hk := World.keptBut_setCells g (may := fun _ => True) news (off + n * size) w (fun _ _ => trivial)
        exact ⟨World.os_setCells _ _ _ _, by
          have : ∀ (vs : List Value) (o : Nat) (w : World), (w.setCells g o vs).tape = w.tape := by
            intro vs
            induction vs with
            | nil => intro o w; rfl
            | cons x r ih => intro o w; exact (ih _ _).trans rfl
          exact this _ _ _, World.output_setCells _ _ _ _, by
          have : ∀ (vs : List Value) (o : Nat) (w : World), (w.setCells g o vs).heap.size = w.heap.size := by
            intro vs
            induction vs with
            | nil => intro o w; rfl
            | cons x r ih => intro o w; exact (ih _ _).trans (by simp [World.setCell])
          rw [this]; exact Nat.le_refl _, fun k hk hne => World.heap_setCells_other _ _ _ _ hk (fun e => hne (by simp [Value.ownBlock, e]))⟩
    · obtain ⟨v', w', hr, h2, h3⟩ := run_append_arg_grows (P := P) w t ty e i z size bytes ht hi hz hsize hby hzs hsz ⟨g, off, none⟩ n cap xs hown.1 (fun j u hu => by
        have : (⟨g, off, none⟩ : Addr).add j = ⟨g, off + j, none⟩ := by unfold Addr.add; split <;> simp_all
        rw [this, hh.cell]; exact hx j u hu) a m c news hl hnews (by omega) h63 hbytes
      refine ⟨v', w', hr, (rowAt.of_own h2).mono hbase, ⟨h3.os, h3.tape, h3.output, h3.size, fun k hk hne => h3.block k hk (by simp)⟩, ?_⟩
      exact fun k hk => .inr (h2.lt k hk).1
theorem wp_append_off {o : Oper} {a : Act} {K : Act → World → Prop} {Q : Exit → Act → World → Prop} (s x : Operand) (t : TypeId)
    (ho : o.op = .call { callee := .builtin .append, args := #[s, x], argTypes := #[t, t] })
    (B : Nat) (e : TypeId) (i : TypeInfo) (z : Value) (size bytes : Nat) (ht : P.underlying t = some (.slice e)) (hi : P.info? e = some i) (hz : i.zero = some z)
    (hsize : i.size = size) (hby : i.bytes = bytes) (hzs : z.cells.size = size) (hsz : 0 < size)
    (v : Value) (n : Nat) (xs : List Value) (hs : a.eval s = v) (hown : rowAt w B e size v n xs)
    (ad : Addr) (m c : Nat) (news : List Value) (hx : a.eval x = .slice (some ad) m c) (hl : news.length = m * size) (hnews : ∀ j u, news[j]? = some u → w.cell? (ad.add j) = some u) (h1 : ∀ u ∈ news, u.oneCell' = true)
    (h63 : n + m ≤ maxLen) (hbytes : (n + m) * bytes ≤ 140737488355328) (hbase : B ≤ w.heap.size)
    (h : ∀ v' w', rowAt w' B e size v' (n + m) (xs ++ news) → w.grownBy w' v.ownBlock → (∀ k, v'.ownBlock = some k → v.ownBlock = some k ∨ w.heap.size ≤ k) → K (a.put o.dst v') w') : o.wp P a w K Q := by
  obtain ⟨v', w', hrun, h2, h3, h4⟩ := run_append_off (P := P) w B t o.type e i z size bytes ht hi hz hsize hby hzs hsz v n xs hown ad m c news hl hnews h1 h63 hbytes hbase
  unfold Oper.wp execOp
  simp only [ho, resolve, invoke, builtin, Sem.run_bind, Sem.run_pure, Result.andThen_ok, List.map_toArray, List.map_cons, List.map_nil, hs, hx, hrun]
  exact h v' w' h2 h3 h4
theorem wpList_append_off {ops : Array Oper} {rest : List Oper} {o : Oper} {a : Act} {Q : Exit → Act → World → Prop} (hgd : o.guard = none) (s x : Operand) (t : TypeId)
    (ho : o.op = .call { callee := .builtin .append, args := #[s, x], argTypes := #[t, t] })
    (B : Nat) (e : TypeId) (i : TypeInfo) (z : Value) (size bytes : Nat) (ht : P.underlying t = some (.slice e)) (hi : P.info? e = some i) (hz : i.zero = some z)
    (hsize : i.size = size) (hby : i.bytes = bytes) (hzs : z.cells.size = size) (hsz : 0 < size)
    (v : Value) (n : Nat) (xs : List Value) (hs : a.eval s = v) (hown : rowAt w B e size v n xs)
    (ad : Addr) (m c : Nat) (news : List Value) (hx : a.eval x = .slice (some ad) m c) (hl : news.length = m * size) (hnews : ∀ j u, news[j]? = some u → w.cell? (ad.add j) = some u) (h1 : ∀ u ∈ news, u.oneCell' = true)
    (h63 : n + m ≤ maxLen) (hbytes : (n + m) * bytes ≤ 140737488355328) (hbase : B ≤ w.heap.size)
    (h : ∀ v' w', rowAt w' B e size v' (n + m) (xs ++ news) → w.grownBy w' v.ownBlock → (∀ k, v'.ownBlock = some k → v.ownBlock = some k ∨ w.heap.size ≤ k) → wpList P ops Q rest (a.put o.dst v') w') : wpList P ops Q (o :: rest) a w :=
  wpList_plain hgd fun _ hK => wp_append_off w s x t ho B e i z size bytes ht hi hz hsize hby hzs hsz v n xs hs hown ad m c news hx hl hnews h1 h63 hbytes hbase fun v' w' h2 h3 h4 => hK _ _ (h v' w' h2 h3 h4)
theorem step_append_off {ops : Array Oper} {o : Oper} {a : Act} {K : Act → World → Prop} {Q : Exit → Act → World → Prop} {E : Prop} (hgd : o.guard = none) (s x : Operand) (t : TypeId)
    (ho : o.op = .call { callee := .builtin .append, args := #[s, x], argTypes := #[t, t] })
    (B : Nat) (e : TypeId) (i : TypeInfo) (z : Value) (size bytes : Nat) (ht : P.underlying t = some (.slice e)) (hi : P.info? e = some i) (hz : i.zero = some z)
    (hsize : i.size = size) (hby : i.bytes = bytes) (hzs : z.cells.size = size) (hsz : 0 < size)
    (v : Value) (n : Nat) (xs : List Value) (hs : a.eval s = v) (hown : rowAt w B e size v n xs)
    (ad : Addr) (m c : Nat) (news : List Value) (hx : a.eval x = .slice (some ad) m c) (hl : news.length = m * size) (hnews : ∀ j u, news[j]? = some u → w.cell? (ad.add j) = some u) (h1 : ∀ u ∈ news, u.oneCell' = true)
    (h63 : n + m ≤ maxLen) (hbytes : (n + m) * bytes ≤ 140737488355328) (hbase : B ≤ w.heap.size)
    (h : ∀ v' w', rowAt w' B e size v' (n + m) (xs ++ news) → w.grownBy w' v.ownBlock → (∀ k, v'.ownBlock = some k → v.ownBlock = some k ∨ w.heap.size ≤ k) → K (a.put o.dst v') w') :
    if Region.wanted o (yielded ops a.tmps) = true then Oper.wp P o a w K Q else E := by
  have hw : Region.wanted o (yielded ops a.tmps) = true := by simp [Region.wanted, hgd]
  rw [if_pos hw]
  exact wp_append_off w s x t ho B e i z size bytes ht hi hz hsize hby hzs hsz v n xs hs hown ad m c news hx hl hnews h1 h63 hbytes hbase h
end
end Go.Proofs.YtfcdplfnhjbdnabDoor
