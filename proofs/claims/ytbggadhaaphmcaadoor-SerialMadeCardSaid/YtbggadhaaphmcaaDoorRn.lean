/- Run: the document's. -/
import Derived.Test.YtbggadhaaphmcaaDoorPt
import Derived.Test.YtbggadhaaphmcaaDoorSr
import Derived.Test.YtbggadhaaphmcaaDoorRr
namespace Go.Proofs.YtbggadhaaphmcaaDoor
open Go.RowKit
set_option linter.unusedVariables false

/-- What holds at the head of the loop. -/
structure RFL (w0 w wr : World) (nb lb n : Nat) (f : Has) (l : List OpD) (k : Nat) (ov : Value) : Prop where
  fm : ∃ L v, FM wr w0.heap.size nb L v ∧ SortedW L (runS f (l.take k)).f ∧ L.length ≤ n + k
  lbk : Blk wr lb 45 #[.string (vOf (runS f (l.take k)).last), .bool (hOf (runS f (l.take k)).last)]
  out : wr.ownsRow (lb + 1) 45 2 ov k (flatR (runS f (l.take k)).out)
  nw : NewW w wr
  noab : ∀ o ∈ l.take k, o.k ≠ 6
structure RunQ (w0 w : World) (rb n : Nat) (f : Has) (l : List OpD) (e : Ending) (w' : World) : Prop where
  res : ∃ A c, e = .returned (.tuple #[.slice A (runO f l).length c, .bool (goodB l)]) ∧ w'.ownsRow w.heap.size 45 2 (.slice A (runO f l).length c) (runO f l).length (flatR (runO f l))
  kf : ∃ L, KF w0 rb L w' ∧ SortedW L (runF f l) ∧ L.length ≤ n + 16
  ch : Ch (fun g => g = rb) w w'
theorem runq_bad {w0 w w' : World} {rb n : Nat} {f : Has} {l : List OpD} {L : Wl} (h : KF w0 rb L w) (hs : SortedW L f) (hl : L.length ≤ n) (hb : goodB l = false) (hN : NewW w w') : RunQ w0 w rb n f l (.returned (.tuple #[.slice none 0 0, .bool false])) w' := by
  obtain ⟨r1, r2⟩ := run_bad (f := f) hb
  refine ⟨⟨none, 0, by rw [r1, hb]; rfl, by rw [r1]; exact own_nil⟩, ⟨L, h.new_ hN, by rw [r2]; exact hs, by omega⟩, hN.mono fun _ h => h.elim⟩
theorem runq_good {w0 w wr : World} {rb nb lb n : Nat} {f : Has} {l : List OpD} {L0 L : Wl} {A : Option Addr} {c : Nat} {v : Value} (h : KF w0 rb L0 w) (hr : rightE l = 0) (hnb : w.heap.size ≤ nb) (hlb : w.heap.size ≤ lb) (hL : RFL w0 w wr nb lb n f l l.length (.slice A l.length c))
    (hfm : FM wr w0.heap.size nb L v) (hsl : SortedW L (runS f l).f) (hll : L.length ≤ n + l.length) :
    RunQ w0 w rb n f l (.returned (.tuple #[.slice A l.length c, .bool true])) (wr.setCell ⟨rb, 0, none⟩ v) := by
  have ho := hL.noab
  have hout := hL.out
  rw [List.take_length] at ho hout
  have hg := good_all hr ho
  obtain ⟨r1, r2⟩ := run_good (f := f) hg
  have hlen := runS_len f l
  have h16 := (right_zero hr).1
  obtain ⟨v0, hm⟩ := (h.new_ hL.nw).fm
  obtain ⟨_, hm0⟩ := h.fm
  have hpl := hm0.blk.lt
  have hc : Ch (fun g => g = rb) wr (wr.setCell ⟨rb, 0, none⟩ v) := (Ch.refl (fun g => g = rb) wr).setCell (p := ⟨rb, 0, none⟩) (.inl rfl) _
  refine ⟨⟨A, c, by rw [r1, hlen, hg], ?_⟩, ⟨L, ⟨⟨v, hm.blk.set_ 0 v, own_ch hfm.row hc (fun g hg e => ?_), hm.rB⟩, ?_⟩, by rw [r2]; exact hsl, by omega⟩, (hL.nw.mono fun _ h => h.elim).trans' hc⟩
  · rw [r1, hlen]
    refine own_mono (own_ch hout hc (fun g hg e => ?_)) (show w.heap.size ≤ lb + 1 by omega)
    subst e
    have := (own_lt hout hg).1
    omega
  · subst e
    exact own_blk_ne hfm.row hm.blk (by decide) hg
  · exact Ch.below (h.new_ hL.nw).below hc (fun g hg => by rw [hg]; exact hm.rB) (h.new_ hL.nw).below.size
theorem rfl_next {w0 w wr w' : World} {nb lb n : Nat} {f : Has} {l : List OpD} {k : Nat} {o : OpD} {v' : Value} (ho : l[k]? = some o) (h6 : o.k ≠ 6) (hna : ∀ o ∈ l.take k, o.k ≠ 6)
    (hfm : ∃ L v, FM w' w0.heap.size nb L v ∧ SortedW L (stepS (runS f (l.take k)) o).f ∧ L.length ≤ n + (k + 1))
    (hlb : Blk w' lb 45 #[.string (vOf (stepR o ((runS f (l.take k)).f o.key.data.toList) (runS f (l.take k)).last)), .bool (hOf (stepR o ((runS f (l.take k)).f o.key.data.toList) (runS f (l.take k)).last))])
    (hout : w'.ownsRow (lb + 1) 45 2 v' (k + 1) (flatR (runS f (l.take k)).out ++ [.string (vOf (stepR o ((runS f (l.take k)).f o.key.data.toList) (runS f (l.take k)).last)), .bool (hOf (stepR o ((runS f (l.take k)).f o.key.data.toList) (runS f (l.take k)).last))]))
    (hN : NewW w w') : RFL w0 w w' nb lb n f l (k + 1) v' := by
  have e := runS_take f ho
  refine ⟨by rw [e]; exact hfm, by rw [e]; exact hlb, ?_, hN, fun x hx => ?_⟩
  · rw [e]
    unfold stepS
    dsimp only
    rw [flatR_snoc]
    exact hout
  · rw [List.take_succ_eq_append_getElem (lt_of_some ho), List.mem_append, List.mem_singleton] at hx
    rcases hx with hx | hx
    · exact hna x hx
    · have := lt_of_some ho
      rw [List.getElem?_eq_getElem this] at ho
      injection ho with ho
      rw [hx, ho]; exact h6
def RFR (w0 w : World) (nb lb n m : Nat) (f : Has) (l : List OpD) (ov i : Value) (wr : World) : Prop := ∃ k : Nat, k ≤ m ∧ i = .int .i64 k ∧ RFL w0 w wr nb lb n f l k ov
theorem rfr_mk {w0 w wr : World} {nb lb n m k : Nat} {f : Has} {l : List OpD} {ov : Value} (hk : k < m) (h : RFL w0 w wr nb lb n f l (k + 1) ov) : RFR w0 w nb lb n m f l ov (.int .i64 ((k : Int) + 1)) wr := ⟨k + 1, by omega, by go_num, h⟩
theorem Blk.new1 (w : World) (o : Obj) (t : TypeId) (cs : Array Value) : Blk ((w.alloc o).alloc (.cells cs t)) (w.heap.size + 1) t cs := by
  have := Blk.new (w.alloc o) t cs
  rwa [World.size_alloc] at this
section
variable {w w' : World}
theorem zA1 (h : Ch (fun _ => False) (w.alloc (.cells #[.string ⟨#[]⟩, .bool false] 45)) w') : Blk w' w.heap.size 45 #[.string ⟨#[]⟩, .bool false] := (Blk.new _ _ _).ch h (fun h => h)
theorem zA1d (h : Ch (fun _ => False) (w.alloc (.cells #[.string ⟨#[]⟩, .bool false] 45)).drew w') : Blk w' w.heap.size 45 #[.string ⟨#[]⟩, .bool false] := (Blk.new _ _ _).drew.ch h (fun h => h)
theorem zA2a (h : Ch (fun _ => False) ((w.alloc (.cells #[.string ⟨#[]⟩, .bool false] 45)).alloc (.cells #[.string ⟨#[]⟩, .bool false] 45)) w') : Blk w' w.heap.size 45 #[.string ⟨#[]⟩, .bool false] := ((Blk.new _ _ _).alloc _).ch h (fun h => h)
theorem zA2b (h : Ch (fun _ => False) ((w.alloc (.cells #[.string ⟨#[]⟩, .bool false] 45)).alloc (.cells #[.string ⟨#[]⟩, .bool false] 45)) w') : Blk w' (w.heap.size + 1) 45 #[.string ⟨#[]⟩, .bool false] := (Blk.new1 _ _ _ _).ch h (fun h => h)
theorem zA2ad (h : Ch (fun _ => False) ((w.alloc (.cells #[.string ⟨#[]⟩, .bool false] 45)).alloc (.cells #[.string ⟨#[]⟩, .bool false] 45)).drew w') : Blk w' w.heap.size 45 #[.string ⟨#[]⟩, .bool false] := ((Blk.new _ _ _).alloc _).drew.ch h (fun h => h)
theorem zA2bd (h : Ch (fun _ => False) ((w.alloc (.cells #[.string ⟨#[]⟩, .bool false] 45)).alloc (.cells #[.string ⟨#[]⟩, .bool false] 45)).drew w') : Blk w' (w.heap.size + 1) 45 #[.string ⟨#[]⟩, .bool false] := (Blk.new1 _ _ _ _).drew.ch h (fun h => h)
end
/-- What the step's statement leaves: two new boxes, the write and the result. -/
def CP (wq : World) (WT : ByteArray) (WB : Bool) (RT : ByteArray) (RB : Bool) (s11 s12 : Value) (wx : World) : Prop :=
  ∃ wb tb, s11 = .pointer (some ⟨wb, 0, none⟩) ∧ s12 = .pointer (some ⟨tb, 0, none⟩) ∧ Blk wx wb 45 #[.string WT, .bool WB] ∧ Blk wx tb 45 #[.string RT, .bool RB] ∧ Ch (fun _ => False) wq wx ∧ wq.heap.size ≤ wb ∧ wq.heap.size ≤ tb
section
variable {wq wc : World} {g h : Nat} {WT RT : ByteArray} {WB RB : Bool}
theorem cp1 (hQ : Ch (fun _ => False) wq wc) : CP wq WT WB RT RB (.pointer (some ⟨wc.heap.size, 0, none⟩)) (.pointer (some ⟨wc.heap.size + 1, 0, none⟩)) ((wc.alloc (.cells #[.string WT, .bool WB] 45)).alloc (.cells #[.string RT, .bool RB] 45)) := by
  have := hQ.size
  exact ⟨_, _, rfl, rfl, (Blk.new _ _ _).alloc _, Blk.new1 _ _ _ _, (hQ.alloc _).alloc _, by omega, by omega⟩
theorem cp1' (hQ : Ch (fun _ => False) wq wc) : CP wq WT WB RT RB (.pointer (some ⟨wc.heap.size + 1, 0, none⟩)) (.pointer (some ⟨wc.heap.size, 0, none⟩)) ((wc.alloc (.cells #[.string RT, .bool RB] 45)).alloc (.cells #[.string WT, .bool WB] 45)) := by
  have := hQ.size
  exact ⟨_, _, rfl, rfl, Blk.new1 _ _ _ _, (Blk.new _ _ _).alloc _, (hQ.alloc _).alloc _, by omega, by omega⟩
theorem set_size (w : World) (p : Addr) (v : Value) : (w.setCell p v).heap.size = w.heap.size := by simp [World.setCell]
theorem cp2 (hQ : Ch (fun _ => False) wq wc) (hg : wq.heap.size ≤ g) (hB : Blk wc g 45 #[.string ⟨#[]⟩, .bool false]) :
    CP wq WT WB RT RB (.pointer (some ⟨g, 0, none⟩)) (.pointer (some ⟨wc.heap.size, 0, none⟩)) (((wc.setCell ⟨g, 0, none⟩ (.string WT)).setCell ⟨g, 1, none⟩ (.bool WB)).alloc (.cells #[.string RT, .bool RB] 45)) := by
  have := hQ.size
  have b1 := (hB.set_ 0 (.string WT)).set_ 1 (.bool WB)
  have b2 := Blk.new ((wc.setCell ⟨g, 0, none⟩ (.string WT)).setCell ⟨g, 1, none⟩ (.bool WB)) 45 #[.string RT, .bool RB]
  rw [set_size, set_size] at b2
  exact ⟨_, _, rfl, rfl, b1.alloc _, b2, ((hQ.setCell (p := ⟨g, 0, none⟩) (.inr hg) _).setCell (p := ⟨g, 1, none⟩) (.inr hg) _).alloc _, hg, by omega⟩
theorem cp2' (hQ : Ch (fun _ => False) wq wc) (hg : wq.heap.size ≤ g) (hB : Blk wc g 45 #[.string ⟨#[]⟩, .bool false]) :
    CP wq WT WB RT RB (.pointer (some ⟨wc.heap.size, 0, none⟩)) (.pointer (some ⟨g, 0, none⟩)) (((wc.setCell ⟨g, 0, none⟩ (.string RT)).setCell ⟨g, 1, none⟩ (.bool RB)).alloc (.cells #[.string WT, .bool WB] 45)) := by
  have := hQ.size
  have b1 := (hB.set_ 0 (.string RT)).set_ 1 (.bool RB)
  have b2 := Blk.new ((wc.setCell ⟨g, 0, none⟩ (.string RT)).setCell ⟨g, 1, none⟩ (.bool RB)) 45 #[.string WT, .bool WB]
  rw [set_size, set_size] at b2
  exact ⟨_, _, rfl, rfl, b2, b1.alloc _, ((hQ.setCell (p := ⟨g, 0, none⟩) (.inr hg) _).setCell (p := ⟨g, 1, none⟩) (.inr hg) _).alloc _, by omega, hg⟩
theorem cp3 (hQ : Ch (fun _ => False) wq wc) (hg : wq.heap.size ≤ g) (hh : wq.heap.size ≤ h) (hne : g ≠ h) (hB : Blk wc g 45 #[.string ⟨#[]⟩, .bool false]) (hB2 : Blk wc h 45 #[.string ⟨#[]⟩, .bool false]) :
    CP wq WT WB RT RB (.pointer (some ⟨g, 0, none⟩)) (.pointer (some ⟨h, 0, none⟩)) ((((wc.setCell ⟨g, 0, none⟩ (.string WT)).setCell ⟨g, 1, none⟩ (.bool WB)).setCell ⟨h, 0, none⟩ (.string RT)).setCell ⟨h, 1, none⟩ (.bool RB)) := by
  have b1 := (((hB.set_ 0 (.string WT)).set_ 1 (.bool WB)).far (p := ⟨h, 0, none⟩) hne (.string RT)).far (p := ⟨h, 1, none⟩) hne (.bool RB)
  have b2 := (((hB2.far (p := ⟨g, 0, none⟩) (fun e => hne e.symm) (.string WT)).far (p := ⟨g, 1, none⟩) (fun e => hne e.symm) (.bool WB)).set_ 0 (.string RT)).set_ 1 (.bool RB)
  exact ⟨_, _, rfl, rfl, b1, b2, (((hQ.setCell (p := ⟨g, 0, none⟩) (.inr hg) _).setCell (p := ⟨g, 1, none⟩) (.inr hg) _).setCell (p := ⟨h, 0, none⟩) (.inr hh) _).setCell (p := ⟨h, 1, none⟩) (.inr hh) _, hg, hh⟩
end
/-- What the map's statement leaves. -/
def CQ (w0 wx : World) (nb : Nat) (L : Wl) (wy : World) : Prop := ∃ v, FM wy w0.heap.size nb L v ∧ Ch (fun g => g = nb) wx wy
theorem cq_mk {w0 wx wa : World} {B nb : Nat} {L M : Wl} {v : Value} {A : Option Addr} {c : Nat} (hf : FM wx w0.heap.size nb L v) (hw : w0.heap.size ≤ B) (hr : wa.ownsRow B 101 3 (.slice A M.length c) M.length (flatW M)) (hN : Ch (fun _ => False) wx wa) : CQ w0 wx nb M (wa.setCell ⟨nb, 0, none⟩ (.slice A M.length c)) := by
  have hb := hf.blk.ch hN (fun h => h)
  have hc : Ch (fun g => g = nb) wa (wa.setCell ⟨nb, 0, none⟩ (.slice A M.length c)) := (Ch.refl (fun g => g = nb) wa).setCell (p := ⟨nb, 0, none⟩) (.inl rfl) _
  refine ⟨_, ⟨hb.set_ 0 _, own_mono (own_ch hr hc (fun g hg e => by subst e; exact own_blk_ne hr hb (by decide) hg)) hw, hf.rB⟩, (hN.mono fun _ h => h.elim).trans' hc⟩
theorem CQ.drew {w0 wx wy : World} {nb : Nat} {L : Wl} (h : CQ w0 wx nb L wy) : CQ w0 wx nb L wy.drew := by
  obtain ⟨v, hf, hc⟩ := h
  exact ⟨v, hf.new_ (Ch.drew (Ch.refl _ _)), hc.drew⟩
theorem own_own_ne {w : World} {B B' s s' n n' : Nat} {e e' : TypeId} {v v' : Value} {xs xs' : List Value} (h : w.ownsRow B e s v n xs) (h' : w.ownsRow B' e' s' v' n' xs') (hne : e ≠ e') (k : Nat) (hk : v.ownBlock = some k) : v'.ownBlock ≠ some k := by
  rcases h.2 with ⟨rfl, _⟩ | ⟨g, cap, cur, rfl, _, hh, _⟩
  · simp [Value.ownBlock] at hk
  · have : g = k := by simpa [Value.ownBlock] using hk
    subst this
    exact own_blk_ne h' hh (fun e0 => hne e0.symm)
theorem keepS {w wq : World} {xb lb : Nat} {K N : Int} {key val V3 : ByteArray} {V4 : Bool} (hc : Ch (fun _ => False) wq w) (hb : Blk wq xb 41 #[.int .i64 K, .string key, .string val, .int .i64 N]) (hl : Blk wq lb 45 #[.string V3, .bool V4]) :
    w.cell? ⟨xb, 0, none⟩ = some (.int .i64 K) ∧ w.cell? ⟨xb, 1, none⟩ = some (.string key) ∧ w.cell? ⟨xb, 2, none⟩ = some (.string val) ∧ w.cell? ⟨xb, 3, none⟩ = some (.int .i64 N) ∧ w.cell? ⟨lb, 0, none⟩ = some (.string V3) ∧ w.cell? ⟨lb, 1, none⟩ = some (.bool V4) :=
  ⟨(hb.ch hc (fun h => h)).cell 0, (hb.ch hc (fun h => h)).cell 1, (hb.ch hc (fun h => h)).cell 2, (hb.ch hc (fun h => h)).cell 3, (hl.ch hc (fun h => h)).cell 0, (hl.ch hc (fun h => h)).cell 1⟩
set_option maxRecDepth 100000 in
set_option maxHeartbeats 8000000 in
theorem Run_ref {w0 w : World} {rb n m c : Nat} {f : Has} {A : Option Addr} {l : List OpD} {L0 : Wl} (h : KF w0 rb L0 w) (hs0 : SortedW L0 f) (hl0 : L0.length ≤ n) (hn : n ≤ 90000) (hs : Sm f) (hO : Ops w A m l) :
    Calls Tryd.prog 19 #[.pointer (some ⟨rb, 0, none⟩), .slice A m c] w (RunQ w0 w rb n f l) := by
  have hm := hO.1
  have HH := Lib.hid h
  have HS0 := Lib.hid hs0
  have HL0 := Lib.hid hl0
  have HO := Lib.hid hO
  have HML := Lib.hid hm
  have HSM := Lib.hid hs
  have HRI := Lib.hid (Right_ref (c := c) hO)
  by_cases hr : rightE l = 0
  case neg =>
    have HB := Lib.hid (good_not_right hr)
    generalize rightE l = R at *
    have d : (R != 0) = true := by simpa using hr
    clear h hO hm hs hr hs0 hl0
    go_enter Tryd.func19, Tryd.ntmps19
    go_wp2_with fail
    refine HRI.out.mono ?_
    rintro e w1 ⟨rfl, hN⟩
    dsimp only
    have HN := Lib.hid hN
    clear hN HRI
    go_wp2_with fail
    go_ret2
    exact runq_bad HH.out HS0.out HL0.out HB.out HN.out
  case pos =>
    have HR0 := Lib.hid hr
    rw [hr] at HRI
    have hm16 : m ≤ 16 := by have := (right_zero hr).1; omega
    have hmI : (m : Int) ≤ 16 := by omega
    have HOK := Lib.hid (right_zero hr).2
    clear hO hm hs hr h hs0 hl0
    go_enter Tryd.func19, Tryd.ntmps19
    go_wp2_with fail
    refine HRI.out.mono ?_
    rintro e w1 ⟨rfl, hN⟩
    dsimp only
    have HN1 := Lib.hid hN
    obtain ⟨v0, hm1⟩ := (HH.out.new_ hN).fm
    have c0 := hm1.c0
    have hs1 := hN.size
    have hw0 := HH.out.below.size
    have HNB := Lib.hid (show w.heap.size ≤ w1.heap.size from hs1)
    have HLB := Lib.hid (show w.heap.size ≤ w1.heap.size + 1 by omega)
    have HRL := Lib.hid (show RFL w0 w ((w1.alloc (.cells #[v0] 30)).alloc (.cells #[.string ⟨#[]⟩, .bool false] 45)) w1.heap.size (w1.heap.size + 1) n f l 0 (.slice none 0 0) from by
      refine ⟨⟨L0, v0, ⟨(Blk.new w1 30 #[v0]).alloc _, own_ch hm1.row (((Ch.refl (fun _ => False) w1).alloc _).alloc _) (fun _ _ h => h), by omega⟩, HS0.out, HL0.out⟩, ?_, own_nil, (HN1.out.alloc _).alloc _, by simp⟩
      have := Blk.new (w1.alloc (.cells #[v0] 30)) 45 #[.string ⟨#[]⟩, .bool false]
      rwa [World.size_alloc] at this)
    obtain ⟨A0, q0, rfl⟩ := own_form hm1.row
    clear hN HRI hm1 hs1 HN1
    go_upto_region 6 with (fail)
    generalize ((w1.alloc (.cells #[.slice A0 L0.length q0] 30)).alloc (.cells #[.string ⟨#[]⟩, .bool false] 45)) = w3 at *
    generalize w1.heap.size = nb at *
    clear c0
    go_wp2_with fail
    go_loopw [7, 25] (fun ov i wr => RFR w0 w nb (nb + 1) n m f l ov i wr) (fun _ i _ => m - (intOf i).toNat)
    case atStart => exact (show RFR w0 w nb (nb + 1) n m f l _ _ _ from ⟨0, by omega, rfl, HRL.out⟩)
    case round =>
      obtain ⟨k, hk, rfl, hL⟩ := hrel
      obtain ⟨A7, q7, rfl⟩ := own_form hL.out
      obtain ⟨L, v, hfm, hsl, hll⟩ := hL.fm
      obtain ⟨AL, qL, rfl⟩ := own_form hfm.row
      by_cases hlt : k < m
      case neg =>
        obtain rfl : k = m := by omega
        obtain ⟨v2, hm2⟩ := (HH.out.new_ hL.nw).fm
        have c0 := hm2.c0
        have f0 := hm2.blk.frozen 0
        have n0 := hfm.c0
        have hml := HML.out
        subst hml
        rw [List.take_length] at hsl
        have HF := Lib.hid (runq_good HH.out HR0.out HNB.out HLB.out hL hfm hsl hll)
        clear hL hm2 hlt hk HRL hfm hsl hll
        go_wp2_with fail
        go_ret2
        exact HF.out
      case pos =>
        obtain ⟨o, ho⟩ := some_of_lt (show k < l.length by rw [HML.out]; exact hlt)
        obtain ⟨b, off, rfl, x0, x1, x2, x3⟩ := (HO.out.new_ hL.nw).at_ ho
        have hok := HOK.out o (mem_of_some ho)
        have HGA := Lib.hid (fun h6 => good_abort (mem_of_some ho) h6)
        have HNX := Lib.hid (fun h6 w' v' => rfl_next (w0 := w0) (w := w) (wr := wr) (w' := w') (nb := nb) (lb := nb + 1) (n := n) (f := f) (v' := v') ho h6 hL.noab)
        have hsm := sm_runS HSM.out (l.take k) (fun x hx => ⟨HOK.out x (List.mem_of_mem_take hx), hL.noab x hx⟩)
        have HNW := Lib.hid hL.nw
        have hlbk := hL.lbk
        have HOU := Lib.hid hL.out
        generalize hst : runS f (l.take k) = s at *
        obtain ⟨K, key, val, N⟩ := o
        dsimp only at x0 x1 x2 x3 hlbk
        by_cases h6 : K = 6
        · subst h6
          have HNB6 := Lib.hid (hL.nw.alloc (.cells #[.int .i64 6, .string key, .string val, .int .i64 N] 41))
          have HB := Lib.hid (HGA.out rfl)
          clear hL hlbk hsm ho hok hst HNX HOU HRL hfm hsl hll
          go_wp2_with fail
          go_ret2
          exact runq_bad HH.out HS0.out HL0.out HB.out HNB6.out
        have d6 : (K == 6) = false := by simpa using h6
        obtain ⟨k1, k5, kz, ks, _⟩ := ok_kind hok h6
        dsimp only at k1 k5 kz ks
        have HN' := Lib.hid (HNX.out h6)
        have hLl : L.length ≤ 100000 := by omega
        have HSL := Lib.hid hsl
        have HLL := Lib.hid hll
        -- the calls
        have HGT := Lib.hid (fun w' (hc : NewW wr w') => getr_any (hfm.new_ hc) hsl hLl key)
        have HST := Lib.hid (fun w' => Step_ref ⟨K, key, val, N⟩ k1 k5 (s.f key.data.toList) s.last w' (Nat.le_trans (hsm.f _) (by omega)))
        have HPT := Lib.hid (fun w' (hc : NewW wr w') r => put_any (c := qL) ((wrs_own hfm.row rfl).new_ hc) hsl.1 hLl key r)
        have HPS := Lib.hid (fun r => putL_sorted hsl key r)
        have HPL := Lib.hid (fun r => putL_len key r L)
        dsimp only at HST
        have hbx := Blk.new wr 41 #[.int .i64 K, .string key, .string val, .int .i64 N]
        have HNB2 := Lib.hid ((Ch.refl (fun _ => False) wr).alloc (.cells #[.int .i64 K, .string key, .string val, .int .i64 N] 41))
        have hlk := hlbk.alloc (.cells #[.int .i64 K, .string key, .string val, .int .i64 N] 41)
        have hnbk := hfm.blk.alloc (.cells #[.int .i64 K, .string key, .string val, .int .i64 N] 41)
        have HFM := Lib.hid hfm
        have HLT := Lib.hid hlbk.lt
        -- names for the results
        obtain ⟨WV, hWV⟩ : ∃ WV, stepW ⟨K, key, val, N⟩ (s.f key.data.toList) s.last = WV := ⟨_, rfl⟩
        obtain ⟨RV, hRV⟩ : ∃ RV, stepR ⟨K, key, val, N⟩ (s.f key.data.toList) s.last = RV := ⟨_, rfl⟩
        have HSF := Lib.hid (show (stepS s ⟨K, key, val, N⟩).f = if wrB ⟨K, key, val, N⟩ then putF s.f key.data.toList WV else s.f by unfold stepS; dsimp only; rw [hWV])
        rw [hWV, hRV] at HST
        dsimp only at HN'
        rw [hRV] at HN'
        clear hWV hRV hL hlbk hsm ho hok hst HNX HRL HGA kz ks h6 hfm hsl hll
        generalize hv1 : vOf (s.f key.data.toList) = V1 at *
        generalize hv2 : hOf (s.f key.data.toList) = V2 at *
        generalize hv3 : vOf s.last = V3 at *
        generalize hv4 : hOf s.last = V4 at *
        clear hv1 hv2 hv3 hv4
        obtain ⟨RT, hRT⟩ : ∃ RT, vOf RV = RT := ⟨_, rfl⟩
        obtain ⟨RB, hRB⟩ : ∃ RB, hOf RV = RB := ⟨_, rfl⟩
        rw [hRT, hRB] at HST HN'
        clear hRT hRB
        go_upto_region 11 with (fail)
        generalize hwq : wr.alloc (.cells #[.int .i64 K, .string key, .string val, .int .i64 N] 41) = wq at *
        generalize hxb : wr.heap.size = xb at *
        clear hwq x0 x1 x2 x3
        have HBX := Lib.hid hbx
        have HLK := Lib.hid hlk
        have HNK := Lib.hid hnbk
        clear hbx hlk hnbk
        go_cut [11, 12] (fun s11 s12 wx => CP wq (vOf WV) (hOf WV) RT RB s11 s12 wx)
        case first =>
          have y0 := HBX.out.cell 0
          have y1 := HBX.out.cell 1
          have y2 := HBX.out.cell 2
          have y3 := HBX.out.cell 3
          have l0 := HLK.out.cell 0
          have l1 := HLK.out.cell 1
          have HQ0 := Lib.hid (show Ch (fun _ => False) wq wq from Ch.refl _ _)
          go_region_held3 (fun w' => w'.cell? ⟨xb, 0, none⟩ = some (.int .i64 K) ∧ w'.cell? ⟨xb, 1, none⟩ = some (.string key) ∧ w'.cell? ⟨xb, 2, none⟩ = some (.string val) ∧ w'.cell? ⟨xb, 3, none⟩ = some (.int .i64 N) ∧ w'.cell? ⟨nb + 1, 0, none⟩ = some (.string V3) ∧ w'.cell? ⟨nb + 1, 1, none⟩ = some (.bool V4))
            (exact keepS (by repeat (first | with_reducible exact hQc | with_reducible exact hQa | with_reducible exact Ch.refl _ _ | with_reducible refine Ch.drew ?_ | with_reducible refine Ch.drewN ?_ _ | with_reducible refine Ch.alloc ?_ _ | with_reducible refine Ch.setCell ?_ (.inr ?_) _ | (dsimp only; omega))) HBX.out HLK.out)
            (first
              | (go_at_call 24; refine (HGT.out _ (show Ch (fun _ => False) wr _ from by repeat (first | with_reducible exact HNB2.out | with_reducible refine Ch.drew ?_ | with_reducible refine Ch.drewN ?_ _ | with_reducible refine Ch.alloc ?_ _))).mono ?_; rintro e wa ⟨rfl, hNa⟩; have hQa : Ch (fun _ => False) wq wa := Ch.trans' (by repeat (first | with_reducible exact hQc | with_reducible exact hQa | with_reducible exact Ch.refl _ _ | with_reducible refine Ch.drew ?_ | with_reducible refine Ch.drewN ?_ _ | with_reducible refine Ch.alloc ?_ _)) hNa; have hNa' : Ch (fun _ => False) _ wa := hNa; (first | (with_reducible have na := zA2a hNa'; with_reducible have nz := zA2b hNa') | (with_reducible have na := zA2ad hNa'; with_reducible have nz := zA2bd hNa') | (with_reducible have na := zA1 hNa') | (with_reducible have na := zA1d hNa') | skip); (try (have nal := na.lt; have na0 := na.cell 0; have na1 := na.cell 1; have naf := na.frozen 0; have nag := na.frozen 1)); (try (have nzl := nz.lt; have nz0 := nz.cell 0; have nz1 := nz.cell 1; have nzf := nz.frozen 0; have nzg := nz.frozen 1)))
              | (go_at_call 56; refine (HST.out _).mono ?_; rintro e wc ⟨rfl, hNc⟩; have hQc : Ch (fun _ => False) wq wc := Ch.trans' (by repeat (first | with_reducible exact hQc | with_reducible exact hQa | with_reducible exact Ch.refl _ _ | with_reducible refine Ch.drew ?_ | with_reducible refine Ch.drewN ?_ _ | with_reducible refine Ch.alloc ?_ _)) hNc; have hNc' : Ch (fun _ => False) _ wc := hNc; (first | (with_reducible have ma := Blk.ch na hNc' (fun h => h)) | (with_reducible have ma := Blk.ch (Blk.alloc na _) hNc' (fun h => h)) | (with_reducible have ma := Blk.ch (Blk.alloc (Blk.alloc na _) _) hNc' (fun h => h)) | skip); (first | (with_reducible have mz := Blk.ch nz hNc' (fun h => h)) | (with_reducible have mz := Blk.ch (Blk.alloc nz _) hNc' (fun h => h)) | (with_reducible have mz := Blk.ch (Blk.alloc (Blk.alloc nz _) _) hNc' (fun h => h)) | skip); (first | (with_reducible have mc := zA2a hNc'; with_reducible have md := zA2b hNc') | (with_reducible have mc := zA2ad hNc'; with_reducible have md := zA2bd hNc') | (with_reducible have mc := zA1 hNc') | (with_reducible have mc := zA1d hNc') | skip); (try (have mal := ma.lt; have ma0 := ma.cell 0; have ma1 := ma.cell 1; have maf := ma.frozen 0; have mag := ma.frozen 1)); (try (have mzl := mz.lt; have mz0 := mz.cell 0; have mz1 := mz.cell 1; have mzf := mz.frozen 0; have mzg := mz.frozen 1)); (try (have mcl := mc.lt; have mc0 := mc.cell 0; have mc1 := mc.cell 1; have mcf := mc.frozen 0; have mcg := mc.frozen 1)); (try (have mdl := md.lt; have md0 := md.cell 0; have md1 := md.cell 1; have mdf := md.frozen 0; have mdg := md.frozen 1)); have hqa := hQa.size; have hqc := hQc.size))
          all_goals
            go_wp2_with fail
            go_meet
            first
              | with_reducible exact cp1 hQc
              | with_reducible exact cp1' hQc
              | ((with_reducible refine cp2 hQc ?_ ma) <;> omega)
              | ((with_reducible refine cp2 hQc ?_ mz) <;> omega)
              | ((with_reducible refine cp2 hQc ?_ mc) <;> omega)
              | ((with_reducible refine cp2 hQc ?_ md) <;> omega)
              | ((with_reducible refine cp2' hQc ?_ ma) <;> omega)
              | ((with_reducible refine cp2' hQc ?_ mz) <;> omega)
              | ((with_reducible refine cp2' hQc ?_ mc) <;> omega)
              | ((with_reducible refine cp2' hQc ?_ md) <;> omega)
              | ((with_reducible refine cp3 hQc ?_ ?_ ?_ ma mz) <;> omega)
              | ((with_reducible refine cp3 hQc ?_ ?_ ?_ ma mc) <;> omega)
              | ((with_reducible refine cp3 hQc ?_ ?_ ?_ ma md) <;> omega)
              | ((with_reducible refine cp3 hQc ?_ ?_ ?_ mz ma) <;> omega)
              | ((with_reducible refine cp3 hQc ?_ ?_ ?_ mz mc) <;> omega)
              | ((with_reducible refine cp3 hQc ?_ ?_ ?_ mz md) <;> omega)
              | ((with_reducible refine cp3 hQc ?_ ?_ ?_ mc ma) <;> omega)
              | ((with_reducible refine cp3 hQc ?_ ?_ ?_ mc mz) <;> omega)
              | ((with_reducible refine cp3 hQc ?_ ?_ ?_ mc md) <;> omega)
              | ((with_reducible refine cp3 hQc ?_ ?_ ?_ md ma) <;> omega)
              | ((with_reducible refine cp3 hQc ?_ ?_ ?_ md mz) <;> omega)
              | ((with_reducible refine cp3 hQc ?_ ?_ ?_ md mc) <;> omega)
        case rest =>
          obtain ⟨wb, tb, rfl, rfl, hwb, htb, hQ, gw, gt⟩ := hcut
          obtain ⟨wx, rfl⟩ : ∃ wx : World, wx = wc := ⟨_, rfl⟩
          have hxq : xb < wq.heap.size := HBX.out.lt
          have hqx := hQ.size
          have HNR := Lib.hid (HNB2.out.trans' hQ)
          have HNX0 := Lib.hid (HNW.out.trans' HNR.out)
          have hy := HBX.out.ch hQ (fun h => h)
          have HLX0 := Lib.hid (HLK.out.ch hQ (fun h => h))
          have HOX0 := Lib.hid (own_ch HOU.out HNR.out (fun _ _ h => h))
          have HFX := Lib.hid (HFM.out.new_ HNR.out)
          have HXL := Lib.hid (fun g (hg : (Value.slice A7 k q7).ownBlock = some g) => (show g < xb from by have := (own_lt HOU.out hg).2; omega))
          have HTB0 := Lib.hid htb
          have HWB0 := Lib.hid hwb
          obtain ⟨i1, hi1, hy0, hy1, hy2⟩ := info_parts res_info
          have hnl := HNB.out
          have y0 := hy.cell 0
          have y1 := hy.cell 1
          clear hwb htb hQ HBX HLK HNK HGT HST
          by_cases hK : K = 1
          · subst hK
            have HCX := Lib.hid (show Ch (fun _ => False) wx wx from Ch.refl _ _)
            have HTB := HTB0
            have HLX := HLX0
            have HOX := HOX0
            have HNX := HNX0
            have HMX := Lib.hid (show ∃ L v, FM wx w0.heap.size nb L v ∧ SortedW L (stepS s ⟨1, key, val, N⟩).f ∧ L.length ≤ n + (k + 1) from
              ⟨L, _, HFX.out, by rw [HSF.out]; exact HSL.out, by have := HLL.out; omega⟩)
            clear hy
            have t0 := HTB.out.cell 0
            have t1 := HTB.out.cell 1
            have hzs := HCX.out.size
            have hbs := HLX.out.lt
            have hon := HOX.out
            go_upto_region 15 with (first
              | (at_builtin
                 refine wpList_append_any _ rfl (.tmp 56) (.tmp 58) _ rfl (nb + 1 + 1) 45 i1 _ 2 24 Tryd.underlying34 hi1 hy0 hy1 hy2 rfl (by omega) _ k (flatR s.out) rfl
                   (own_ch hon ((Ch.refl (fun _ => False) _).alloc _) (fun _ _ h => h)) (wx.heap.size + 1) (some ⟨wx.heap.size, 0, none⟩) 1 1 [.string RT, .bool RB] rfl (reads_new wx 45 #[.string RT, .bool RB] 1 2 rfl) (by simp [Value.oneCell']) (by simp only [maxLen]; omega) (by omega) (by simp; omega) ?_
                 intro v8 w8 hown8 hg8 hat8
                 have HOA := Lib.hid hown8
                 have HG8 := Lib.hid hg8
                 clear hown8 hg8 hat8))
            have HCA := Lib.hid ((Ch.refl (fun _ => False) wx).alloc (.cells #[.string RT, .bool RB] 45))
            have HCG := Lib.hid (Ch.of_grown HG8.out)
            have hlne : ¬ (Value.slice A7 k q7).ownBlock = some (nb + 1) := fun hg => by have := (own_lt hon hg).1; omega
            have htne : ¬ (Value.slice A7 k q7).ownBlock = some tb := fun hg => by have := HXL.out _ hg; omega
            have HT8 := Lib.hid ((HTB.out.ch HCA.out (fun h => h)).ch HCG.out htne)
            have HL8 := Lib.hid ((HLX.out.ch HCA.out (fun h => h)).ch HCG.out hlne)
            clear t0 t1
            have t0 := HT8.out.cell 0
            have t1 := HT8.out.cell 1
            have g0 := HL8.out.cell 0
            have g1 := HL8.out.cell 1
            have f0 := HL8.out.frozen 0
            have f1 := HL8.out.frozen 1
            have HCS := Lib.hid (((Ch.refl (fun g => g = nb + 1) w8).setCell (p := ⟨nb + 1, 0, none⟩) (.inl rfl) (.string RT)).setCell (p := ⟨nb + 1, 1, none⟩) (.inl rfl) (.bool RB))
            have HX : RFL w0 w ((w8.setCell ⟨nb + 1, 0, none⟩ (.string RT)).setCell ⟨nb + 1, 1, none⟩ (.bool RB)) nb (nb + 1) n f l (k + 1) v8 := by
              refine HN'.out _ v8 ?_ ?_ ?_ ?_
              · obtain ⟨L2, v2, h1, h2, h3⟩ := HMX.out
                have r1 := h1.new_ HCA.out
                have hrow := h1.row
                refine ⟨L2, v2, ⟨?_, ?_, h1.rB⟩, h2, h3⟩
                · exact (r1.blk.ch HCG.out (fun e => own_blk_ne (own_ch hon HCA.out (fun _ _ h => h)) r1.blk (by decide) e)).ch HCS.out (fun e => by omega)
                · refine own_ch (own_ch r1.row HCG.out (fun g hg e => ?_)) HCS.out (fun g hg e => ?_)
                  · exact own_own_ne r1.row (own_ch hon HCA.out (fun _ _ h => h)) (by decide) g hg e
                  · subst e
                    exact own_blk_ne r1.row (HLX.out.ch HCA.out (fun h => h)) (by decide) hg
              · have hb := (HL8.out.set_ 0 (.string RT)).set_ 1 (.bool RB)
                exact hb
              · exact own_ch HOA.out HCS.out (fun g hg e => by have := (own_lt HOA.out hg).1; omega)
              · have h1 : NewW w wx := HNX.out
                have h2 : NewW w w8 := (h1.trans' HCA.out).trans HCG.out (fun g hg => .inr (by have h4 := (own_lt hon hg).1; have h5 := HNB.out; omega))
                exact h2.trans HCS.out (fun g hg => .inr (by have h5 := HNB.out; omega))
            have HXR := Lib.hid (rfr_mk hlt HX)
            clear HX
            go_wp2_with fail
            first
              | exact ⟨HXR.out, by simp [intOf]; omega⟩
              | (refine ⟨?_, by simp [intOf]; omega⟩; (repeat apply Exists.intro); refine ⟨HXR.out, ?_⟩; (repeat (first | rfl | refine ⟨rfl, ?_⟩)))
          · have dK : (K != 1) = true := by simpa using hK
            have dK' : decide (K = 1) = false := by simpa using hK
            have dK2 : (K == 1) = false := by simpa using hK
            have HWR := Lib.hid (show wrB ⟨K, key, val, N⟩ = true by unfold wrB; dsimp only; rw [decide_eq_true (show 2 ≤ K by omega), decide_eq_true k5]; rfl)
            go_upto_region 13 with (fail)
            go_cut [] (fun wy => CQ w0 wx nb (putL key WV L) wy)
            case first =>
              have n0 := HFX.out.c0
              have nf := HFX.out.blk.frozen 0
              have p0 := HWB0.out.cell 0
              have p1 := HWB0.out.cell 1
              go_region_with ((go_at_call 57; (first | refine (HPT.out _ HNR.out WV).mono ?_ | refine (HPT.out _ HNR.out.drew WV).mono ?_ | refine (HPT.out _ (HNR.out.drewN _) WV).mono ?_); rintro e wa ⟨A', c', rfl, hrow, hNa⟩; have hNx : Ch (fun _ => False) wx wa := ⟨hNa.os, hNa.tape, hNa.output, hNa.size, hNa.block⟩; have z0 := (HFX.out.new_ hNx).c0; have zf := (HFX.out.new_ hNx).blk.frozen 0; have hrw : wa.ownsRow w0.heap.size 101 3 (.slice A' (putL key WV L).length c') (putL key WV L).length (flatW (putL key WV L)) := own_mono hrow (Nat.le_trans hw0 HNX0.out.size)))
              all_goals
                go_wp2_with fail
                go_meet
                first
                  | exact cq_mk HFX.out (Nat.le_refl _) hrw hNx
                  | exact (cq_mk HFX.out (Nat.le_refl _) hrw hNx).drew
            case rest =>
              obtain ⟨v2, hf2, hc2⟩ := hcut
              have HCX := Lib.hid hc2
              have HTB := Lib.hid (HTB0.out.ch hc2 (fun (e : tb = nb) => HFX.out.blk.ne_ HTB0.out (by decide) e.symm))
              have HLX := Lib.hid (HLX0.out.ch hc2 (fun e => by omega))
              have HOX := Lib.hid (own_ch HOX0.out hc2 (fun g hg e => by have := (own_lt HOX0.out hg).1; omega))
              have HNX := Lib.hid (show NewW w wc from HNX0.out.trans hc2 (fun g hg => .inr (by omega)))
              have HMX := Lib.hid (show ∃ L v, FM wc w0.heap.size nb L v ∧ SortedW L (stepS s ⟨K, key, val, N⟩).f ∧ L.length ≤ n + (k + 1) from
                ⟨_, v2, hf2, by rw [HSF.out, HWR.out]; exact HPS.out WV, by have := HLL.out; have := HPL.out WV; omega⟩)
              clear hy hf2 hc2 y0 y1
              have t0 := HTB.out.cell 0
              have t1 := HTB.out.cell 1
              have hzs := HCX.out.size
              have hbs := HLX.out.lt
              have hon := HOX.out
              go_upto_region 15 with (first
                | (at_builtin
                   refine wpList_append_any _ rfl (.tmp 56) (.tmp 58) _ rfl (nb + 1 + 1) 45 i1 _ 2 24 Tryd.underlying34 hi1 hy0 hy1 hy2 rfl (by omega) _ k (flatR s.out) rfl
                     (own_ch hon ((Ch.refl (fun _ => False) _).alloc _) (fun _ _ h => h)) (wc.heap.size + 1) (some ⟨wc.heap.size, 0, none⟩) 1 1 [.string RT, .bool RB] rfl (reads_new wc 45 #[.string RT, .bool RB] 1 2 rfl) (by simp [Value.oneCell']) (by simp only [maxLen]; omega) (by omega) (by simp; omega) ?_
                   intro v8 w8 hown8 hg8 hat8
                   have HOA := Lib.hid hown8
                   have HG8 := Lib.hid hg8
                   clear hown8 hg8 hat8))
              have HCA := Lib.hid ((Ch.refl (fun _ => False) wc).alloc (.cells #[.string RT, .bool RB] 45))
              have HCG := Lib.hid (Ch.of_grown HG8.out)
              have hlne : ¬ (Value.slice A7 k q7).ownBlock = some (nb + 1) := fun hg => by have := (own_lt hon hg).1; omega
              have htne : ¬ (Value.slice A7 k q7).ownBlock = some tb := fun hg => by have := HXL.out _ hg; omega
              have HT8 := Lib.hid ((HTB.out.ch HCA.out (fun h => h)).ch HCG.out htne)
              have HL8 := Lib.hid ((HLX.out.ch HCA.out (fun h => h)).ch HCG.out hlne)
              clear t0 t1
              have t0 := HT8.out.cell 0
              have t1 := HT8.out.cell 1
              have g0 := HL8.out.cell 0
              have g1 := HL8.out.cell 1
              have f0 := HL8.out.frozen 0
              have f1 := HL8.out.frozen 1
              have HCS := Lib.hid (((Ch.refl (fun g => g = nb + 1) w8).setCell (p := ⟨nb + 1, 0, none⟩) (.inl rfl) (.string RT)).setCell (p := ⟨nb + 1, 1, none⟩) (.inl rfl) (.bool RB))
              have HX : RFL w0 w ((w8.setCell ⟨nb + 1, 0, none⟩ (.string RT)).setCell ⟨nb + 1, 1, none⟩ (.bool RB)) nb (nb + 1) n f l (k + 1) v8 := by
                refine HN'.out _ v8 ?_ ?_ ?_ ?_
                · obtain ⟨L2, v2, h1, h2, h3⟩ := HMX.out
                  have r1 := h1.new_ HCA.out
                  have hrow := h1.row
                  refine ⟨L2, v2, ⟨?_, ?_, h1.rB⟩, h2, h3⟩
                  · exact (r1.blk.ch HCG.out (fun e => own_blk_ne (own_ch hon HCA.out (fun _ _ h => h)) r1.blk (by decide) e)).ch HCS.out (fun e => by omega)
                  · refine own_ch (own_ch r1.row HCG.out (fun g hg e => ?_)) HCS.out (fun g hg e => ?_)
                    · exact own_own_ne r1.row (own_ch hon HCA.out (fun _ _ h => h)) (by decide) g hg e
                    · subst e
                      exact own_blk_ne r1.row (HLX.out.ch HCA.out (fun h => h)) (by decide) hg
                · have hb := (HL8.out.set_ 0 (.string RT)).set_ 1 (.bool RB)
                  exact hb
                · exact own_ch HOA.out HCS.out (fun g hg e => by have := (own_lt HOA.out hg).1; omega)
                · have h1 : NewW w wc := HNX.out
                  have h2 : NewW w w8 := (h1.trans' HCA.out).trans HCG.out (fun g hg => .inr (by have h4 := (own_lt hon hg).1; have h5 := HNB.out; omega))
                  exact h2.trans HCS.out (fun g hg => .inr (by have h5 := HNB.out; omega))
              have HXR := Lib.hid (rfr_mk hlt HX)
              clear HX
              go_wp2_with fail
              first
                | exact ⟨HXR.out, by simp [intOf]; omega⟩
                | (refine ⟨?_, by simp [intOf]; omega⟩; (repeat apply Exists.intro); refine ⟨HXR.out, ?_⟩; (repeat (first | rfl | refine ⟨rfl, ?_⟩)))
end Go.Proofs.YtbggadhaaphmcaaDoor
