/- Edge: the walk. -/
import Derived.Test.YtfcdplfnhjbdnabDoorNo
namespace Go.Proofs.YtfcdplfnhjbdnabDoor
open Go.RowKit Go.Sort
set_option linter.unusedVariables false

def edgeE (l : List Nd) (a b : Int) : Int := if a = b then 1 else if idxOf l a < 0 ∨ idxOf l b < 0 then 6 else 0
def setTo (l : List Nd) (i : Nat) (t : Nat) : List Nd := l.modify i (fun x => (⟨x.id, x.st, t⟩ : Nd))
def edgeL (l : List Nd) (a b : Int) : List Nd := if edgeE l a b = 0 then setTo l (idxOf l a).toNat (toAt l (idxOf l a).toNat ||| 2 ^ (idxOf l b).toNat) else l
theorem setTo_set {l : List Nd} {i : Nat} {x : Nd} (h : l[i]? = some x) (t : Nat) : setTo l i t = l.set i (⟨x.id, x.st, t⟩ : Nd) := by
  unfold setTo
  refine List.ext_getElem? fun k => ?_
  rw [List.getElem?_modify, List.getElem?_set]
  have hl := lt_of_some h
  by_cases e : i = k
  · subst e
    rw [h]
    simp [hl]
  · simp [e]
theorem setTo_len (l : List Nd) (i t : Nat) : (setTo l i t).length = l.length := by simp [setTo]
theorem setTo_get (l : List Nd) (i t j : Nat) : (setTo l i t)[j]? = (l[j]?).map fun x => if i = j then (⟨x.id, x.st, t⟩ : Nd) else x := by
  unfold setTo
  rw [List.getElem?_modify]
  rcases l[j]? with _ | x
  · rfl
  · rfl
theorem setTo_map {β : Type} (f : Nd → β) (hf : ∀ (x : Nd) (t : Nat), f (⟨x.id, x.st, t⟩ : Nd) = f x) (l : List Nd) (i t : Nat) : (setTo l i t).map f = l.map f := by
  refine List.ext_getElem? fun j => ?_
  rw [List.getElem?_map, List.getElem?_map, setTo_get]
  rcases l[j]? with _ | x
  · rfl
  · simp only [Option.map_some]
    split
    · rw [hf]
    · rfl
theorem setTo_mem {l : List Nd} {i t : Nat} {x : Nd} (h : x ∈ setTo l i t) : ∃ y : Nd, y ∈ l ∧ x.id = y.id ∧ x.st = y.st ∧ (x.to = t ∨ x.to = y.to) := by
  obtain ⟨j, hj⟩ := List.mem_iff_getElem?.1 h
  rw [setTo_get] at hj
  rcases hy : l[j]? with _ | y
  · rw [hy] at hj; cases hj
  · rw [hy] at hj
    injection hj with hj
    refine ⟨y, mem_of_some hy, ?_⟩
    subst hj
    split
    · exact ⟨rfl, rfl, .inl rfl⟩
    · exact ⟨rfl, rfl, .inr rfl⟩
theorem ok_setTo {l : List Nd} (h : Ok l) {i t : Nat} (ht : t < 2 ^ l.length) (hi : t.testBit i = false) : Ok (setTo l i t) := by
  refine ⟨by rw [setTo_len]; exact h.len, fun x hx => ?_, by rw [setTo_map _ (fun _ _ => rfl)]; exact h.ids, fun j x hx => ?_, fun x hx => ?_, fun x hx => ?_⟩
  · rw [setTo_len]
    obtain ⟨y, hy, _, _, e⟩ := setTo_mem hx
    rcases e with e | e
    · rw [e]; exact ht
    · rw [e]; exact h.bits y hy
  · rw [setTo_get] at hx
    rcases hy : l[j]? with _ | y
    · rw [hy] at hx; cases hx
    · rw [hy] at hx
      injection hx with hx
      subst hx
      simp only
      by_cases e : i = j
      · rw [if_pos e]; rw [← e]; exact hi
      · rw [if_neg e]; exact h.self j y hy
  · obtain ⟨y, hy, e, _⟩ := setTo_mem hx
    rw [e]; exact h.id0 y hy
  · obtain ⟨y, hy, _, e, _⟩ := setTo_mem hx
    rw [e]; exact h.st0 y hy
theorem flatN_set {l : List Nd} {i : Nat} {x : Nd} (h : l[i]? = some x) (t : Nat) : (flatN l).set (i * 3 + 2) (.int .u64 t) = flatN (l.set i (⟨x.id, x.st, t⟩ : Nd)) :=
  flat_set (f := fun x : Nd => [Value.int .i64 x.id, .int .i64 x.st, .int .u64 x.to]) (m := 3) (fun _ _ => rfl) h (j := 2) (by omega) rfl
section
variable {w0 w : World} {gb : Nat} {l : List Nd}
/-- A store of a node's edges. -/
theorem kg_setTo {g q : Nat} (hm : GM w w0.heap.size gb l (.slice (some ⟨g, 0, none⟩) l.length q)) (hb : Below w0.heap.size w0 w) {i t : Nat} (hi : i < l.length) (hok : Ok (setTo l i t)) :
    GM (w.setCell ⟨g, i * 3 + 2, none⟩ (.int .u64 t)) w0.heap.size gb (setTo l i t) (.slice (some ⟨g, 0, none⟩) (setTo l i t).length q) ∧ Below w0.heap.size w0 (w.setCell ⟨g, i * 3 + 2, none⟩ (.int .u64 t)) ∧ KpT w (w.setCell ⟨g, i * 3 + 2, none⟩ (.int .u64 t)) := by
  obtain ⟨x, hx⟩ := some_of_lt hi
  obtain ⟨cur, hcur⟩ := own_blk hm.own
  have nb : gb ≠ g := hm.blk.ne_ hcur (by decide)
  have hch : Ch (fun k => k = g) w (w.setCell ⟨g, i * 3 + 2, none⟩ (.int .u64 t)) := (Ch.refl (fun k => k = g) w).setCell (p := ⟨g, i * 3 + 2, none⟩) (.inl rfl) _
  refine ⟨⟨?_, ?_, hm.bB, hok⟩, Ch.below hb hch (fun k hk => ?_) hb.size, fun k t' cs h1 h2 hk => hk.ch hch (fun e => ?_)⟩
  · rw [setTo_len]
    exact hm.blk.far (p := ⟨g, i * 3 + 2, none⟩) nb _
  · have := (hm.own.stored (i * 3 + 2) (.int .u64 t)).1
    rw [flatN_set hx, ← setTo_set hx] at this
    rw [setTo_len]
    exact this
  · subst hk
    exact (own_lt hm.own (g := k) rfl).1
  · subst e
    exact hcur.ne_ hk (fun e => h1 e.symm) rfl
set_option maxHeartbeats 2000000 in
theorem edge_any (h : KG w0 gb l w) (x y : Int) :
    Calls Tryd.prog 9 #[.pointer (some ⟨gb, 0, none⟩), .int .i64 x, .int .i64 y] w fun e w' => e = .returned (.int .i64 (edgeE l x y)) ∧ KG w0 gb (edgeL l x y) w' ∧ KpT w w' := by
  obtain ⟨E, hE⟩ : ∃ E, edgeE l x y = E := ⟨_, rfl⟩
  by_cases hxy : x = y
  · have hE1 : E = 1 := by rw [← hE]; unfold edgeE; rw [if_pos hxy]
    have hL : edgeL l x y = l := by unfold edgeL; rw [hE, hE1, if_neg (by decide)]
    rw [hL, hE, hE1]
    have HH := Lib.hid h
    have d : (x == y) = true := by simpa using hxy
    clear h hE hL hE1 hxy
    go_enter Tryd.func9, Tryd.ntmps9
    go_wp2_with fail
    go_ret
    exact ⟨rfl, HH.out, KpT.refl _⟩
  · have d : (x == y) = false := by simpa using hxy
    obtain ⟨v, hm⟩ := h.gm
    have HFA := Lib.hid (find_any hm x)
    have HFB := Lib.hid (fun w' (hc : NewW w w') => find_any (hm.new_ hc) y)
    have HH := Lib.hid h
    have h64 := hm.ok.len
    rcases idx_cases l x with ⟨hx, _⟩ | ⟨i, p, hx, hxi, hpi⟩
    · have hE1 : E = 6 := by rw [← hE]; unfold edgeE; rw [if_neg hxy, if_pos (.inl (by rw [hx]; decide))]
      have hL : edgeL l x y = l := by unfold edgeL; rw [hE, hE1, if_neg (by decide)]
      rw [hL, hE, hE1]
      rw [hx] at HFA
      clear h hE hL hE1 hxy hx hm
      go_enter Tryd.func9, Tryd.ntmps9
      go_wp2_with fail
      refine HFA.out.mono ?_
      rintro e w2 ⟨rfl, hN2⟩
      have HN2 := Lib.hid hN2
      clear hN2 HFA
      dsimp only
      go_wp2_with fail
      refine (HFB.out _ HN2.out).mono ?_
      rintro e w3 ⟨rfl, hN3⟩
      have HN3 := Lib.hid (HN2.out.trans' hN3)
      clear hN3 HFB HN2
      dsimp only
      go_wp2_with fail
      go_ret
      exact ⟨rfl, HH.out.new_ HN3.out, KpT.new_ HN3.out⟩
    · have dx : decide ((i : Int) < 0) = false := by simp
      rcases idx_cases l y with ⟨hy, _⟩ | ⟨j, p', hy, hyj, hpj⟩
      · have hE1 : E = 6 := by rw [← hE]; unfold edgeE; rw [if_neg hxy, if_pos (.inr (by rw [hy]; decide))]
        have hL : edgeL l x y = l := by unfold edgeL; rw [hE, hE1, if_neg (by decide)]
        rw [hL, hE, hE1]
        rw [hx] at HFA
        rw [hy] at HFB
        clear h hE hL hE1 hxy hx hy hm hxi hpi
        go_enter Tryd.func9, Tryd.ntmps9
        go_wp2_with fail
        refine HFA.out.mono ?_
        rintro e w2 ⟨rfl, hN2⟩
        have HN2 := Lib.hid hN2
        clear hN2 HFA
        dsimp only
        go_wp2_with fail
        refine (HFB.out _ HN2.out).mono ?_
        rintro e w3 ⟨rfl, hN3⟩
        have HN3 := Lib.hid (HN2.out.trans' hN3)
        clear hN3 HFB HN2
        dsimp only
        go_wp2_with fail
        go_ret
        exact ⟨rfl, HH.out.new_ HN3.out, KpT.new_ HN3.out⟩
      · have dy : decide ((j : Int) < 0) = false := by simp
        have hE1 : E = 0 := by rw [← hE]; unfold edgeE; rw [if_neg hxy, if_neg (by rw [hx, hy]; omega)]
        have hL : edgeL l x y = setTo l i (toAt l i ||| 2 ^ j) := by unfold edgeL; rw [hE, hE1, if_pos rfl, hx, hy, Int.toNat_natCast, Int.toNat_natCast]
        rw [hL, hE, hE1]
        rw [hx] at HFA
        rw [hy] at HFB
        obtain ⟨g, q, hv, r0, r1, r2⟩ := hm.at_ hxi
        subst hv
        have hil := lt_of_some hxi
        have hjl := lt_of_some hyj
        have hiI : (i : Int) < (l.length : Int) := by omega
        have hjI : (j : Int) < 64 := by omega
        have hj64 : j < 64 := by omega
        have hne : i ≠ j := fun e => by
          subst e
          rw [hxi] at hyj
          injection hyj with hyj
          exact hxy (by rw [← hpi, ← hpj, hyj])
        have ht : toAt l i ||| 2 ^ j < 2 ^ l.length := lt_of_bits fun k hk => by
          rw [Nat.testBit_or, bit_pow, Bool.or_eq_true, decide_eq_true_eq] at hk
          rcases hk with hk | hk
          · exact bit_lt (to_lt hm.ok i) hk
          · omega
        have hti : (toAt l i ||| 2 ^ j).testBit i = false := by
          rw [Nat.testBit_or, bit_pow, toAt_of hxi, hm.ok.self i p hxi]
          simp; omega
        have HOK := Lib.hid (ok_setTo hm.ok ht hti)
        have HB := Lib.hid (b_or (len64 hm.ok (to_lt hm.ok i)) hj64)
        rw [← toAt_of hxi] at r2
        have HM := Lib.hid hm
        have HX := Lib.hid r2
        have HIL := Lib.hid hil
        obtain ⟨T, hT⟩ : ∃ T, toAt l i ||| 2 ^ j = T := ⟨_, rfl⟩
        rw [hT] at HOK HB
        rw [hT]
        clear h hE hL hE1 hxy hx hy hm hxi hpi hyj hpj ht hti r0 r1 r2 hT hil hjl
        have HFZ := Lib.hid (fun k => (HM.out.own.frozenAt k))
        go_enter Tryd.func9, Tryd.ntmps9
        go_wp2_with fail
        refine HFA.out.mono ?_
        rintro e w2 ⟨rfl, hN2⟩
        have HN2 := Lib.hid hN2
        clear hN2 HFA
        dsimp only
        go_wp2_with fail
        refine (HFB.out _ HN2.out).mono ?_
        rintro e w3 ⟨rfl, hN3⟩
        have HM3 := Lib.hid (HM.out.new_ (HN2.out.trans' hN3))
        have r2 := new_cell (HN2.out.trans' hN3) HX.out
        have c0 := HM3.out.c0
        have f2 := HM3.out.own.frozenAt (i * 3 + 2)
        have HN3 := Lib.hid (HN2.out.trans' hN3)
        clear hN3 HFB HN2
        dsimp only
        go_wp2_with fail
        rw [HB.out]
        go_ret
        obtain ⟨k1, k2, k3⟩ := kg_setTo HM3.out (HH.out.new_ HN3.out).below HIL.out HOK.out
        exact ⟨rfl, ⟨⟨_, k1⟩, k2⟩, (KpT.new_ HN3.out).trans k3⟩
end
end Go.Proofs.YtfcdplfnhjbdnabDoor
