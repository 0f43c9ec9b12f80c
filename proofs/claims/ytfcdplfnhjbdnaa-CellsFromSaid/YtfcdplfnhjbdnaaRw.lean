/- The document's plain row of all that was put, in plain words, beside a store. -/
import Derived.Test.YtfcdplfnhjbdnaaTp
namespace Go.Proofs.Ytfcdplfnhjbdnaa
open Go.RowKit Go.Maps
set_option linter.unusedVariables false

structure Was where
  key : ByteArray
  val : ByteArray
  has : Bool
  t : Int
def Was.k (w : Was) : List UInt8 := w.key.data.toList
def Was.ver (w : Was) : Ver := ⟨w.t, w.val, w.has⟩
def flatR (L : List Was) : List Value := L.flatMap fun w => [.string w.key, .string w.val, .bool w.has, .int .i64 w.t]
theorem flatR_len (L : List Was) : (flatR L).length = L.length * 4 := flat_len (m := 4) (fun _ _ => rfl)
theorem flatR_snoc (L : List Was) (w : Was) : flatR (L ++ [w]) = flatR L ++ [.string w.key, .string w.val, .bool w.has, .int .i64 w.t] := by simp [flatR]
theorem flatR_get (L : List Was) {i : Nat} {w : Was} (h : L[i]? = some w) : (flatR L)[i * 4]? = some (.string w.key) ∧ (flatR L)[i * 4 + 1]? = some (.string w.val) ∧ (flatR L)[i * 4 + 2]? = some (.bool w.has) ∧ (flatR L)[i * 4 + 3]? = some (.int .i64 w.t) := by
  have g := fun j hj => flat_get (f := fun w : Was => [Value.string w.key, .string w.val, .bool w.has, .int .i64 w.t]) (m := 4) (fun _ _ => rfl) h (j := j) hj
  refine ⟨?_, ?_, ?_, ?_⟩
  · have := g 0 (by omega); simpa [flatR] using this
  · have := g 1 (by omega); simpa [flatR] using this
  · have := g 2 (by omega); simpa [flatR] using this
  · have := g 3 (by omega); simpa [flatR] using this
/-- A key's row of a plain row. -/
def rowOf (L : List Was) (k : List UInt8) : List Ver := (L.filter fun w => decide (w.k = k)).map Was.ver
def Rel (L : List Was) (s : CS) : Prop := ∀ k, rowOf L k = s.f k
theorem rowOf_append (L M : List Was) (k : List UInt8) : rowOf (L ++ M) k = rowOf L k ++ rowOf M k := by simp [rowOf]
theorem key_inj {a b : ByteArray} (h : a.data.toList = b.data.toList) : a = b := Go.WideShapes.bytes_inj h

/-! ### Put -/
def refPut (L : List Was) (K V : ByteArray) (H : Bool) (M : Int) : List Was := (L.filter fun w => !(decide (w.key = K) && decide (w.t = M))) ++ [⟨K, if H then V else ⟨#[]⟩, H, M⟩]
theorem cut_filter {l : List Ver} (h : l.Pairwise fun a b => a.t < b.t) {m : Int} (hm : ∀ v ∈ l, v.t ≤ m) : l.filter (fun v => !decide (v.t = m)) = cutAt l m := by
  unfold cutAt
  rcases hl : l.getLast? with _ | x
  · rw [List.getLast?_eq_none_iff] at hl
    subst hl; rfl
  · obtain ⟨r, rfl⟩ := List.getLast?_eq_some_iff.1 hl
    have hp := List.pairwise_append.1 h
    have hr : r.filter (fun v => !decide (v.t = m)) = r := by
      rw [List.filter_eq_self]
      intro v hv
      have h1 := hp.2.2 v hv x (by simp)
      have h2 := hm x (by simp)
      simp; omega
    rw [List.filter_append, hr]
    simp only
    by_cases e : x.t = m
    · rw [if_pos e, List.dropLast_concat]; simp [e]
    · rw [if_neg e]; simp [e]
theorem rel_put {L : List Was} {s : CS} (h : Rel L s) (hg : Good s) {K V : ByteArray} {H : Bool} {M : Int} (he : putE s K V M = 0) : Rel (refPut L K V H M) (putS s K V H M) := by
  have hge := put_ge he
  intro k
  rw [put_is he]
  unfold refPut
  rw [rowOf_append]
  by_cases e : k = K.data.toList
  · rw [if_pos e]
    subst e
    have h1 : rowOf (L.filter fun w => !(decide (w.key = K) && decide (w.t = M))) K.data.toList = cutAt (s.f K.data.toList) M := by
      rw [← cut_filter (hg.rise _) (fun v hv => by have := (hg.ver _ v hv).2; omega), ← h]
      unfold rowOf
      rw [List.filter_filter, List.filter_map, List.filter_filter]
      congr 1
      refine List.filter_congr fun w _ => ?_
      by_cases e : w.k = K.data.toList
      · have : w.key = K := key_inj e
        simp [e, this, Was.ver]
        try rfl
      · simp [e]
    rw [h1]
    simp [rowOf, Was.k, Was.ver, putV]
  · rw [if_neg e, ← h]
    have h1 : rowOf [(⟨K, if H then V else ⟨#[]⟩, H, M⟩ : Was)] k = [] := by
      have : ¬ K.data.toList = k := fun e' => e e'.symm
      simp [rowOf, Was.k, this]
    rw [h1, List.append_nil]
    unfold rowOf
    rw [List.filter_filter]
    congr 1
    refine List.filter_congr fun w _ => ?_
    by_cases e2 : w.k = k
    · have : ¬ w.key = K := fun e3 => e (by rw [← e2, ← e3]; rfl)
      simp [e2, this]
    · simp [e2]

/-! ### At -/
def refAt (L : List Was) (K : ByteArray) (m : Int) : ByteArray × Bool := match (L.filter fun w => decide (w.key = K) && decide (w.t ≤ m)).getLast? with
  | some w => (w.val, w.has)
  | none => (⟨#[]⟩, false)
theorem filter_up {l : List Ver} (h : l.Pairwise fun a b => a.t < b.t) (m : Int) : l.filter (fun v => decide (v.t ≤ m)) = l.take (upN l m) := by
  have h1 : (l.drop (upN l m)).filter (fun v => decide (v.t ≤ m)) = [] := by
    rw [List.filter_eq_nil_iff]
    intro v hv
    obtain ⟨i, hi⟩ := List.getElem?_of_mem hv
    rw [List.getElem?_drop] at hi
    have := (rise_up h m hi).2
    simp
    omega
  have h2 : (l.take (upN l m)).filter (fun v => decide (v.t ≤ m)) = l.take (upN l m) := by
    rw [List.filter_eq_self]
    intro v hv
    simpa using take_upN h m v hv
  have : l.filter (fun v => decide (v.t ≤ m)) = (l.take (upN l m) ++ l.drop (upN l m)).filter (fun v => decide (v.t ≤ m)) := by rw [List.take_append_drop]
  rw [this, List.filter_append, h1, h2, List.append_nil]
theorem rel_at {L : List Was} {s : CS} (h : Rel L s) (hg : Good s) (K : ByteArray) (m : Int) : refAt L K m = valOf (s.f K.data.toList) m := by
  have hf : ((L.filter fun w => decide (w.key = K) && decide (w.t ≤ m)).map Was.ver) = (s.f K.data.toList).take (upN (s.f K.data.toList) m) := by
    rw [← filter_up (hg.rise _) m, ← h]
    unfold rowOf
    rw [List.filter_map, List.filter_filter]
    congr 1
    refine List.filter_congr fun w _ => ?_
    by_cases e : w.key = K
    · subst e; simp [Was.k, Was.ver]; try rfl
    · have : ¬ w.k = K.data.toList := fun e' => e (key_inj e')
      simp [e, this]
  have hl := congrArg List.getLast? hf
  rw [List.getLast?_map] at hl
  unfold refAt valOf
  have hle := upN_le (s.f K.data.toList) m
  generalize (L.filter fun w => decide (w.key = K) && decide (w.t ≤ m)).getLast? = ox at *
  rcases ox with _ | w
  · simp only [Option.map_none] at hl
    have := List.getLast?_eq_none_iff.1 hl.symm
    have hz : upN (s.f K.data.toList) m = 0 := by
      have := congrArg List.length this
      rw [List.length_take, Nat.min_eq_left hle] at this
      exact this
    rw [if_pos hz]
    rfl
  · simp only [Option.map_some] at hl
    have hpos : ¬ upN (s.f K.data.toList) m = 0 := by
      intro e
      rw [e] at hl
      simp at hl
    rw [if_neg hpos]
    rw [List.getLast?_eq_getElem?, List.length_take, Nat.min_eq_left hle, List.getElem?_take_of_lt (by omega)] at hl
    rw [← hl]
    rfl

/-! ### Trim -/
def keepV (m : Int) : List Ver → List Ver
  | [] => []
  | v :: r => if (r.any fun x => decide (x.t ≤ m)) || (!v.has && decide (v.t ≤ m)) then keepV m r else v :: keepV m r
def goesW (m : Int) (w : Was) (r : List Was) : Bool := (r.any fun x => decide (x.key = w.key) && decide (x.t ≤ m)) || (!w.has && decide (w.t ≤ m))
def refKeep (m : Int) : List Was → List Was
  | [] => []
  | w :: r => if goesW m w r then refKeep m r else w :: refKeep m r
theorem keep_late {l : List Ver} {m : Int} (h : ∀ v ∈ l, m < v.t) : keepV m l = l := by
  induction l with
  | nil => rfl
  | cons v r ih =>
    have h1 : (r.any fun x => decide (x.t ≤ m)) = false := by
      rw [List.any_eq_false]
      intro x hx
      have := h x (List.mem_cons_of_mem _ hx)
      simp; omega
    have h2 := h v (by simp)
    unfold keepV
    rw [h1, ih (fun x hx => h x (List.mem_cons_of_mem _ hx)), if_neg]
    simp; omega
theorem keep_drop {l : List Ver} (h : l.Pairwise fun a b => a.t < b.t) (m : Int) : keepV m l = l.drop (goneN l m) := by
  induction l with
  | nil => rfl
  | cons v r ih =>
    have hp := List.pairwise_cons.1 h
    by_cases hv : v.t ≤ m
    · by_cases hr : ∃ x ∈ r, x.t ≤ m
      · obtain ⟨x, hx, hxm⟩ := hr
        have h1 : (r.any fun x => decide (x.t ≤ m)) = true := by rw [List.any_eq_true]; exact ⟨x, hx, by simpa using hxm⟩
        have hur : 0 < upN r m := by unfold upN; exact List.countP_pos_iff.2 ⟨x, hx, by simpa using hxm⟩
        have hu : upN (v :: r) m = upN r m + 1 := by unfold upN; rw [List.countP_cons]; simp [hv]
        have hgn : goneN (v :: r) m = goneN r m + 1 := by
          unfold goneN
          rw [hu, Nat.add_sub_cancel]
          obtain ⟨u, hu'⟩ : ∃ u, upN r m = u + 1 := ⟨upN r m - 1, by omega⟩
          rw [hu', Nat.add_sub_cancel, List.getElem?_cons_succ]
          unfold goneK
          split
          · split <;> rfl
          · rfl
        unfold keepV
        rw [h1, Bool.true_or, if_pos rfl, ih hp.2, hgn, List.drop_succ_cons]
      · have hr' : ∀ x ∈ r, m < x.t := fun x hx => by
          rcases Int.lt_or_le m x.t with h | h
          · exact h
          · exact absurd ⟨x, hx, h⟩ hr
        have h1 : (r.any fun x => decide (x.t ≤ m)) = false := by
          rw [List.any_eq_false]
          intro x hx
          have := hr' x hx
          simp; omega
        have hu : upN (v :: r) m = 1 := by
          unfold upN
          rw [List.countP_cons, List.countP_eq_zero.2 (fun x hx => by have := hr' x hx; simp; omega)]
          simp [hv]
        unfold keepV
        rw [h1, Bool.false_or, keep_late hr']
        unfold goneN goneK
        rw [hu, Nat.sub_self, List.getElem?_cons_zero]
        simp only
        rcases hh : v.has with _ | _
        · simp [hv]
        · simp
    · have hall : ∀ x ∈ v :: r, m < x.t := fun x hx => by
        rcases List.mem_cons.1 hx with e | e
        · subst e; omega
        · have := hp.1 x e; omega
      rw [keep_late hall]
      have hu : upN (v :: r) m = 0 := by
        unfold upN
        rw [List.countP_eq_zero]
        intro x hx
        have := hall x hx
        simp; omega
      unfold goneN goneK
      rw [hu]
      show _ = List.drop (match (v :: r)[0]? with | some v => if v.has = false ∧ v.t ≤ m then 0 + 1 else 0 | none => 0) (v :: r)
      rw [List.getElem?_cons_zero]
      simp only
      rw [if_neg (fun e => hv e.2)]
      rfl
theorem row_keep (L : List Was) (m : Int) (k : List UInt8) : rowOf (refKeep m L) k = keepV m (rowOf L k) := by
  induction L with
  | nil => rfl
  | cons w r ih =>
    have hc : rowOf (w :: r) k = if w.k = k then w.ver :: rowOf r k else rowOf r k := by
      unfold rowOf
      by_cases e : w.k = k <;> simp [e]
    have hany : w.k = k → (r.any fun x => decide (x.key = w.key) && decide (x.t ≤ m)) = ((rowOf r k).any fun x => decide (x.t ≤ m)) := by
      intro e
      unfold rowOf
      rw [List.any_map, List.any_filter]
      congr 1
      funext x
      by_cases e2 : x.key = w.key
      · have : x.k = k := by rw [← e]; unfold Was.k; rw [e2]
        simp [e2, this, Was.ver]
        try rfl
      · have : ¬ x.k = k := fun e3 => e2 (key_inj (e3.trans e.symm))
        simp [e2, this]
    unfold refKeep
    by_cases e : w.k = k
    · rw [hc, if_pos e]
      unfold keepV goesW
      rw [hany e]
      obtain ⟨c, hcd⟩ : ∃ c, (((rowOf r k).any fun x => decide (x.t ≤ m)) || (!w.has && decide (w.t ≤ m))) = c := ⟨_, rfl⟩
      rw [show (((rowOf r k).any fun x => decide (x.t ≤ m)) || (!w.ver.has && decide (w.ver.t ≤ m))) = c from hcd, hcd]
      cases c
      · rw [if_neg (by simp), if_neg (by simp)]
        have : rowOf (w :: refKeep m r) k = w.ver :: rowOf (refKeep m r) k := by unfold rowOf; simp [e]
        rw [this, ih]
      · rw [if_pos rfl, if_pos rfl]
        exact ih
    · rw [hc, if_neg e]
      split
      · exact ih
      · have : rowOf (w :: refKeep m r) k = rowOf (refKeep m r) k := by unfold rowOf; simp [e]
        rw [this, ih]
theorem rel_trim {L : List Was} {s : CS} (h : Rel L s) (hg : Good s) (m : Int) : Rel (refKeep m L) (trimS s m) := fun k => by
  rw [row_keep, h k, keep_drop (hg.rise k)]
  rfl
theorem sum_zero {α : Type} : ∀ ks : List α, (ks.map fun _ => 0).sum = 0
  | [] => rfl
  | _ :: r => by rw [List.map_cons, List.sum_cons, sum_zero r]
/-- A row's length, counted key by key. -/
theorem len_keys : ∀ (L : List Was) (ks : List (List UInt8)), ks.Nodup → (∀ w ∈ L, w.k ∈ ks) → L.length = (ks.map fun k => (rowOf L k).length).sum
  | [], ks, _, _ => by
    have : (ks.map fun k => (rowOf [] k).length) = ks.map fun _ => 0 := List.map_congr_left fun k _ => rfl
    rw [this]
    exact (sum_zero ks).symm
  | w :: L, ks, hn, hm => by
    have ih := len_keys L ks hn (fun x hx => hm x (List.mem_cons_of_mem _ hx))
    have hw := hm w (by simp)
    have hc : ∀ k, (rowOf (w :: L) k).length = (rowOf L k).length + if w.k = k then 1 else 0 := fun k => by
      unfold rowOf
      by_cases e : w.k = k <;> simp [e]
    have hs : (ks.map fun k => (rowOf (w :: L) k).length).sum = (ks.map fun k => (rowOf L k).length).sum + 1 := by
      clear ih hm
      induction ks with
      | nil => simp at hw
      | cons a r ih =>
        have hn' := List.nodup_cons.1 hn
        rw [List.map_cons, List.map_cons, List.sum_cons, List.sum_cons, hc a]
        by_cases e : w.k = a
        · have hr : (r.map fun k => (rowOf (w :: L) k).length) = r.map fun k => (rowOf L k).length := List.map_congr_left fun k hk => by
            rw [hc k, if_neg (fun e2 => hn'.1 (by rw [← e, e2]; exact hk))]; rfl
          rw [hr, if_pos e]; omega
        · rw [if_neg e, ih hn'.2 (by rcases List.mem_cons.1 hw with h | h; exact absurd h e; exact h)]; omega
    rw [List.length_cons, ih, hs]
theorem trim_count {L : List Was} {s : CS} (h : Rel L s) (hg : Good s) (m : Int) {ks : List (List UInt8)} (hk : KeysIn s ks) : L.length = (refKeep m L).length + trimN s m ks := by
  have hn : ks.Nodup := hk.1.imp fun {a b} hab e => by subst e; exact List.lt_irrefl _ hab
  have hm : ∀ w ∈ L, w.k ∈ ks := fun w hw => by
    rw [hk.2, ← h]
    unfold rowOf
    intro e
    rw [List.map_eq_nil_iff, List.filter_eq_nil_iff] at e
    have := e w hw
    simp at this
  have hsub : ∀ L : List Was, ∀ w ∈ refKeep m L, w ∈ L := by
    intro L
    induction L with
    | nil => intro w hw; exact hw
    | cons x r ih =>
      intro w hw
      unfold refKeep at hw
      split at hw
      · exact List.mem_cons_of_mem _ (ih w hw)
      · rcases List.mem_cons.1 hw with e | e
        · rw [e]; exact List.mem_cons_self
        · exact List.mem_cons_of_mem _ (ih w e)
  rw [len_keys L ks hn hm, len_keys (refKeep m L) ks hn (fun w hw => hm w (hsub L w hw))]
  unfold trimN
  clear hm hsub hn hk
  induction ks with
  | nil => rfl
  | cons k r ih =>
    rw [List.map_cons, List.map_cons, List.map_cons, List.sum_cons, List.sum_cons, List.sum_cons, ih, row_keep, h k, keep_drop (hg.rise k), List.length_drop]
    have := goneN_le (s.f k) m
    omega
end Go.Proofs.Ytfcdplfnhjbdnaa
