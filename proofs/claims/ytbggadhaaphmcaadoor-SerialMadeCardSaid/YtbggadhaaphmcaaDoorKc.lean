/- The two maps side by side: what one call's change leaves of the other. -/
import Derived.Test.YtbggadhaaphmcaaDoorRn
import Derived.Test.YtbggadhaaphmcaaDoorSa
import Derived.Test.YtbggadhaaphmcaaDoorFx
import Derived.Test.YtbggadhaaphmcaaDoorFe
namespace Go.Proofs.YtbggadhaaphmcaaDoor
open Go.Lib Go.RowKit
set_option linter.unusedVariables false

theorem mp_blk_ne {w : World} {mb n : Nat} {D : DataW Value} {f : Has} {g : Nat} {t : TypeId} {cs : Array Value} (h : MP w mb n D f) (hg : Blk w g t cs) : mb ≠ g := by
  rintro rfl
  obtain ⟨es, clock, hbk, _⟩ := h.map
  unfold Blk at hg
  rw [hg] at hbk
  cases hbk
section
variable {w0 w w' : World} {pb rb n : Nat} {f : Has} {L : Wl} {cs : Array Value}
theorem KM.other (h : KM w0 pb n f w) (hb : Blk w rb 30 cs) (hr : w0.heap.size ≤ rb) (hc : Ch (fun g => g = rb) w w') : KM w0 pb n f w' := by
  obtain ⟨mb, D, hm⟩ := h.pm
  refine ⟨⟨mb, D, hm.blk.ch hc (fun e => hm.blk.ne_ hb (by decide) e), hm.mp.ch hc (fun e => mp_blk_ne hm.mp hb e), hm.pB, hm.mB⟩, Ch.below h.below hc (fun g e => by subst e; exact hr) h.below.size⟩
theorem KF.other (h : KF w0 rb L w) (hb : Blk w pb 94 cs) (hr : w0.heap.size ≤ pb) (hc : Ch (fun g => g = pb) w w') : KF w0 rb L w' := by
  obtain ⟨v, hm⟩ := h.fm
  refine ⟨⟨v, hm.blk.ch hc (fun e => hm.blk.ne_ hb (by decide) e), own_ch hm.row hc (fun g hg e => by subst e; exact own_blk_ne hm.row hb (by decide) hg), hm.rB⟩, Ch.below h.below hc (fun g e => by subst e; exact hr) h.below.size⟩
theorem KM.pB (h : KM w0 pb n f w) : w0.heap.size ≤ pb := by
  obtain ⟨mb, D, hm⟩ := h.pm
  exact hm.pB
theorem KF.blk (h : KF w0 rb L w) : ∃ cs, Blk w rb 30 cs := by
  obtain ⟨v, hm⟩ := h.fm
  exact ⟨_, hm.blk⟩
theorem KF.rB (h : KF w0 rb L w) : w0.heap.size ≤ rb := by
  obtain ⟨v, hm⟩ := h.fm
  exact hm.rB
theorem KM.none_ (hb : Below w0.heap.size w0 w) (h : KM w0 pb n f w) : Below w0.heap.size w0 w := h.below
end
/-- Both maps, as they stand behind k plans. -/
structure RI (w w' : World) (pb rb k : Nat) (f : Has) : Prop where
  km : KM w pb (16 * k) f w'
  kf : ∃ L, KF w rb L w' ∧ SortedW L f ∧ L.length ≤ 16 * k
  sm : Sm f
theorem RI.new_ {w w1 w2 : World} {pb rb k : Nat} {f : Has} (h : RI w w1 pb rb k f) (hc : NewW w1 w2) : RI w w2 pb rb k f := by
  obtain ⟨L, h1, h2, h3⟩ := h.kf
  exact ⟨h.km.new_ hc, ⟨L, h1.new_ hc, h2, h3⟩, h.sm⟩
theorem getr_ri {w w1 w2 : World} {pb rb k : Nat} {f : Has} (h : RI w w1 pb rb k f) (hk : k ≤ 100) (hc : NewW w1 w2) (key : ByteArray) :
    Calls Tryd.prog 24 #[.pointer (some ⟨rb, 0, none⟩), .string key] w2 fun e w' => e = .returned (.agg #[.string (vOf (f key.data.toList)), .bool (hOf (f key.data.toList))]) ∧ NewW w2 w' := by
  obtain ⟨L, hf, hs, hl⟩ := h.kf
  obtain ⟨v, hm⟩ := (hf.new_ hc).fm
  exact getr_any hm hs (by omega) key
theorem runO_le (f : Has) (l : List OpD) : (runO f l).length ≤ 16 := by
  rw [runO_len]
  split
  · exact good_len (by assumption)
  · omega
theorem sres_same {w w' : World} {B1 B2 c d : Nat} {A1 A2 : Option Addr} {l : List Res} (h1 : w.ownsRow B1 45 2 (.slice A1 l.length c) l.length (flatR l)) (h2 : w.ownsRow B2 45 2 (.slice A2 l.length d) l.length (flatR l)) (hl : l.length ≤ 16) (hc : NewW w w') :
    Calls Tryd.prog 20 #[.slice A1 l.length c, .slice A2 l.length d] w' fun e w'' => e = .returned (.bool true) ∧ NewW w' w'' :=
  (SameResults_any ((Prs.of_res ⟨rfl, Rd.own h1⟩).new_ hc) ((Prs.of_res ⟨rfl, Rd.own h2⟩).new_ hc) (by omega) (by omega)).mono fun e w'' ⟨he, hn⟩ => ⟨by rw [he, decide_eq_true rfl], hn⟩
theorem all_same {w w1 w2 : World} {pb n : Nat} {f : Has} {L : Wl} (h : KM w pb n f w1) (hn : n ≤ 100000) (hs : SortedW L f) (hc : NewW w1 w2) :
    Calls Tryd.prog 22 #[.pointer (some ⟨pb, 0, none⟩)] w2 fun e w' => ∃ (A : Option Addr) (c : Nat), e = .returned (.slice A L.length c) ∧ Wrs w' A L.length L ∧ NewW w2 w' :=
  (All_any (h.new_ hc) hn).mono fun e w' ⟨A, c, M, he, hM, _, ho, hN⟩ => by
    obtain rfl := sorted_unique hs hM
    exact ⟨A, c, he, ⟨rfl, Rd.own ho⟩, hN⟩
theorem swr_same {w w1 w' : World} {B d : Nat} {A1 A2 : Option Addr} {L : Wl} (h1 : Wrs w1 A1 L.length L) (h2 : w.ownsRow B 101 3 (.slice A2 L.length d) L.length (flatW L)) (hl : L.length ≤ 100000) (c : Nat) (hc1 : NewW w1 w') (hc : NewW w w') :
    Calls Tryd.prog 21 #[.slice A1 L.length c, .slice A2 L.length d] w' fun e w'' => e = .returned (.bool true) ∧ NewW w' w'' :=
  (SameWrites_any (h1.new_ hc1) ((wrs_own h2 rfl).new_ hc) hl hl).mono fun e w'' ⟨he, hn⟩ => ⟨by rw [he, decide_eq_true rfl], hn⟩
end Go.Proofs.YtbggadhaaphmcaaDoor
