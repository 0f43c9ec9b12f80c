/- The document's map: its row in memory; Get, put. -/
import Derived.Test.YtbggadhaaphmcaaDoorAl
import Derived.Test.YtbggadhaaphmcaaDoorRu
namespace Go.Proofs.YtbggadhaaphmcaaDoor
open Go.RowKit
set_option linter.unusedVariables false

/-- The document's Map: a block that holds a row of writes. -/
structure FM (w : World) (B rb : Nat) (L : Wl) (v : Value) : Prop where
  blk : Blk w rb 30 #[v]
  row : w.ownsRow B 101 3 v L.length (flatW L)
  rB : B ≤ rb
structure KF (w0 : World) (rb : Nat) (L : Wl) (w : World) : Prop where
  fm : ∃ v, FM w w0.heap.size rb L v
  below : Below w0.heap.size w0 w
section
variable {w0 w w' : World} {B rb : Nat} {L : Wl} {v : Value}
theorem FM.new_ (h : FM w B rb L v) (hc : NewW w w') : FM w' B rb L v := ⟨h.blk.ch hc (fun h => h), own_ch h.row hc (fun _ _ h => h), h.rB⟩
theorem FM.c0 (h : FM w B rb L v) : w.cell? ⟨rb, 0, none⟩ = some v := by rw [h.blk.cell]; rfl
theorem KF.new_ (h : KF w0 rb L w) (hc : NewW w w') : KF w0 rb L w' := by
  obtain ⟨v, hm⟩ := h.fm
  exact ⟨⟨v, hm.new_ hc⟩, Ch.below h.below hc (fun _ h => h.elim) h.below.size⟩
theorem wrs_own {A : Option Addr} {n c : Nat} (h : w.ownsRow B 101 3 (.slice A n c) n (flatW L)) (hn : L.length = n) : Wrs w A n L := ⟨hn, Rd.own h⟩
theorem kf_new (w0 w : World) (hb : Below w0.heap.size w0 w) : KF w0 w.heap.size [] (w.alloc (.cells #[.slice none 0 0] 30)) :=
  ⟨⟨.slice none 0 0, Blk.new _ _ _, own_nil, hb.size⟩, Ch.below hb ((Ch.refl (fun _ => False) w).alloc _) (fun _ h => h.elim) hb.size⟩
end
set_option maxRecDepth 100000 in
set_option maxHeartbeats 1000000 in
theorem getr_any {w : World} {B rb : Nat} {L : Wl} {v : Value} {f : Has} (h : FM w B rb L v) (hs : SortedW L f) (hl : L.length ≤ 100000) (key : ByteArray) :
    Calls Tryd.prog 24 #[.pointer (some ⟨rb, 0, none⟩), .string key] w fun e w' => e = .returned (.agg #[.string (vOf (f key.data.toList)), .bool (hOf (f key.data.toList))]) ∧ NewW w w' := by
  obtain ⟨A, q, rfl⟩ := own_form h.row
  have HW := Lib.hid (wrs_own h.row rfl)
  have HS := Lib.hid hs
  have hb1 := (h.blk.alloc (.cells #[.string ⟨#[]⟩, .bool false] 45))
  have c0 := hb1.cell 0
  have HB := Lib.hid (Blk.new w 45 #[.string ⟨#[]⟩, .bool false])
  have HNA := Lib.hid ((Ch.refl (fun _ => False) w).alloc (.cells #[.string ⟨#[]⟩, .bool false] 45))
  obtain ⟨R, hR⟩ : ∃ R, f key.data.toList = R := ⟨_, rfl⟩
  rw [hR]
  have HR := Lib.hid hR
  obtain ⟨n, hn⟩ : ∃ n, L.length = n := ⟨_, rfl⟩
  rw [hn] at HW c0 hl
  have HN := Lib.hid hn
  have hnI : (n : Int) ≤ 100000 := by omega
  clear h hs hR hn hb1
  go_enter Tryd.func24, Tryd.ntmps24
  go_upto_region 1 with (fail)
  generalize w.alloc (.cells #[.string ⟨#[]⟩, .bool false] 45) = w1 at *
  generalize hwb : w.heap.size = ob at *
  have HOB := Lib.hid hwb
  clear hwb
  go_wp2_with fail
  go_loopw [12] (fun i wr => ∃ k : Nat, k ≤ n ∧ i = .int .i64 k ∧ (∀ x ∈ L.take k, x.1 ≠ key) ∧ NewW w1 wr) (fun i _ => n - (intOf i).toNat)
  case atStart => exact ⟨0, by omega, rfl, by simp, Ch.refl _ _⟩
  case round =>
    obtain ⟨k, hk, rfl, hno, hC⟩ := hrel
    have HC := Lib.hid hC
    have HO := Lib.hid hno
    have hbr := HB.out.ch hC (fun h => h)
    have o0 := hbr.cell 0
    have o1 := hbr.cell 1
    have fr0 := hbr.frozen 0
    have fr1 := hbr.frozen 1
    clear hC hno
    by_cases hlt : k < n
    · obtain ⟨x, hx⟩ := some_of_lt (show k < L.length by rw [HN.out]; exact hlt)
      obtain ⟨b, off, rfl, x0, x1, x2⟩ := (HW.out.new_ (HNA.out.trans' HC.out)).at_ hx
      have HX := Lib.hid hx
      have HNO := Lib.hid (fun (hne : x.1 ≠ key) => (show ∀ y ∈ L.take (k + 1), y.1 ≠ key from fun y hy => by
        rw [take_any (K := key) hx, List.mem_append, List.mem_singleton] at hy
        rcases hy with hy | hy
        · exact HO.out y hy
        · rw [hy]; exact hne))
      have HG := Lib.hid (get_at HS.out (mem_of_some hx))
      obtain ⟨kx, vx⟩ := x
      dsimp only at x0 x1 x2
      have HNB := Lib.hid (HC.out.alloc (.cells #[.string kx, .string vx, .bool true] 101))
      have hob := hbr.lt
      have hb2 := hbr.alloc (.cells #[.string kx, .string vx, .bool true] 101)
      have p0 := hb2.cell 0
      have p1 := hb2.cell 1
      have g0 := hb2.frozen 0
      have g1 := hb2.frozen 1
      clear hx
      by_cases he : kx = key
      · subst he
        have hr : R = some vx := by rw [← HR.out]; exact HG.out
        subst hr
        have HB3 := Lib.hid (((hbr.set_ 0 (.string vx)).set_ 1 (.bool true)).alloc (.cells #[.string kx, .string vx, .bool true] 101))
        have HCF := Lib.hid ((((HNA.out.trans' HC.out).setCell (p := ⟨ob, 0, none⟩) (.inr (by have := HOB.out; dsimp only; omega)) (.string vx)).setCell (p := ⟨ob, 1, none⟩) (.inr (by have := HOB.out; dsimp only; omega)) (.bool true)).alloc (.cells #[.string kx, .string vx, .bool true] 101))
        clear hb2 hbr
        go_wp2_with fail
        have z0 := HB3.out.cell 0
        have z1 := HB3.out.cell 1
        refine bodyPost_ret (v := .agg #[.string vx, .bool true]) (by simp [results, Tryd.results24, go_sem, z0, z1]) rfl ⟨rfl, ?_⟩
        exact HCF.out
      · have q1 : (kx.toList == key.toList) = false := by simpa [str_eq] using he
        have q2 : decide (kx.toList = key.toList) = false := by simpa [str_eq] using he
        have HN2 := Lib.hid (HNO.out he)
        clear he hb2 hbr
        go_wp2_with fail
        exact ⟨⟨k + 1, by omega, by go_num, HN2.out, HNB.out⟩, by simp [intOf]; omega⟩
    · obtain rfl : k = n := by omega
      have hr : R = none := by
        rw [← HR.out]
        refine get_no HS.out fun y hy => HO.out y ?_
        rw [← HN.out, List.take_length]
        exact hy
      subst hr
      have HB3 := Lib.hid ((hbr.set_ 0 (.string ⟨#[]⟩)).set_ 1 (.bool false))
      have HCF := Lib.hid (((HNA.out.trans' HC.out).setCell (p := ⟨ob, 0, none⟩) (.inr (by have := HOB.out; dsimp only; omega)) (.string ⟨#[]⟩)).setCell (p := ⟨ob, 1, none⟩) (.inr (by have := HOB.out; dsimp only; omega)) (.bool false))
      clear hlt hk hbr
      go_wp2_with fail
      have z0 := HB3.out.cell 0
      have z1 := HB3.out.cell 1
      refine bodyPost_ret (v := .agg #[.string ⟨#[]⟩, .bool false]) (by simp [results, Tryd.results24, go_sem, z0, z1]) rfl ⟨rfl, ?_⟩
      exact HCF.out
end Go.Proofs.YtbggadhaaphmcaaDoor
