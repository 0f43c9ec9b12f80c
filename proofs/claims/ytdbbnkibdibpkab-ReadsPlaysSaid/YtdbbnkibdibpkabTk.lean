/- take: the first readings' names, and the rest stays. -/
import Derived.Test.YtdbbnkibdibpkabIx2
namespace Go.Proofs.Ytdbbnkibdibpkab
open Go.RowKit
set_option linter.unusedVariables false

theorem ids_next (W : List Rdg) (j : Nat) {x : Rdg} (h : W[j]? = some x) : ids (W.take (j + 1)) = ids (W.take j) ++ [.int .i64 x.1] := by
  unfold ids
  rw [List.take_add_one, h, Option.toList_some, List.map_append]
  rfl
theorem Rd.setW {w : World} {B B' b : Nat} {s : RS} {W W' : List Rdg} {v v' : Value} (h : Rd w B b s W v) (ho : w.ownsRow B' 53 3 v' W'.length (flatW W')) (hB : B ≤ B') (hl : W'.length ≤ 64) :
    Rd (w.setCell ⟨b, 12, none⟩ v') B b s W' v' ∧ Only b w (w.setCell ⟨b, 12, none⟩ v') := by
  have hne : v'.ownBlock ≠ some b := own_blk_ne ho h.blk (by decide)
  refine ⟨⟨?_, own_mono (own_set_far ho hne _) hB, h.bB, h.n1, h.n7, h.me, hl⟩, (Ch.refl (fun k => k = b) w).setCell (p := ⟨b, 12, none⟩) (.inl rfl) _⟩
  have := h.blk.set_ 12 v'
  rwa [show (s.cells v).setIfInBounds 12 v' = s.cells v' by simp [RS.cells]] at this
/-- What take leaves: the names in a row of the call's own, the rest in a new row. -/
def Took (B b : Nat) (s : RS) (W : List Rdg) (k : Nat) (w : World) (e : Ending) (w' : World) : Prop :=
  ∃ vo v', e = .returned vo ∧ w'.ownsRow w.heap.size 3 1 vo k (ids (W.take k)) ∧ Rd w' B b s (W.drop k) v' ∧ Only b w w'
set_option maxRecDepth 100000 in
theorem take_any (B b : Nat) (s : RS) (W : List Rdg) (v : Value) (w : World) (h : Rd w B b s W v) (hB : B ≤ w.heap.size) (k : Nat) (hk : k ≤ W.length) :
    Calls Try.prog 28 #[.pointer (some ⟨b, 0, none⟩), .int .i64 k] w (Took B b s W k w) := by
  obtain ⟨i0, hi0, hz0, hz1, hz2⟩ := info_parts int_info
  have h64 := h.len
  have hne0 := own_blk_ne h.own h.blk (by decide)
  have hblt : b < w.heap.size := Blk.lt h.blk
  have c12 := h.c12
  rcases h.own.2 with ⟨rfl, hW0⟩ | ⟨g, cap, cur, rfl, hg, hgb, hnc, hcm, _, _⟩
  · obtain rfl : W = [] := List.eq_nil_of_length_eq_zero hW0
    obtain rfl : k = 0 := by simpa using hk
    have fz := h.fz 12
    have hset := h.set 12 (.slice none 0 0) (s' := s) (by simp [RS.cells]) rfl rfl
    have HT := Lib.hid (show Took B b s [] 0 w (.returned (.slice none 0 0)) (w.setCell ⟨b, 12, none⟩ (.slice none 0 0)) from ⟨_, _, rfl, ⟨rfl, .inl ⟨rfl, rfl⟩⟩, hset.1, hset.2⟩)
    clear h hk hset
    change Calls Try.prog 28 #[.pointer (some ⟨b, 0, none⟩), .int .i64 0] w _
    go_enter Try.func28, Try.ntmps28
    go_wp2_with fail
    refine wp_loop_rounds 1 ?_
    rw [rounds_succ]
    go_wp2_with (go_at_call 32; (with_reducible refine (clone_none _ _ _).mono ?_); rintro e w2 ⟨rfl, rfl⟩)
    go_ret
    exact HT.out
  · have HH := Lib.hid h
    have hlg : g < w.heap.size := Blk.lt (t := 53) hgb
    clear h hgb
    unfold maxLen at hcm
    go_enter Try.func28, Try.ntmps28
    go_wp2_with fail
    go_loopw [5, 15] (fun o i w' => ∃ j : Nat, j ≤ k ∧ i = .int .i64 j ∧ w'.ownsRow w.heap.size 3 1 o j (ids (W.take j)) ∧ NewW w w') (fun _ i _ => k - (intOf i).toNat)
    case atStart => exact ⟨0, by omega, rfl, ⟨by simp [ids], .inl ⟨rfl, rfl⟩⟩, Ch.refl _ _⟩
    case round =>
      obtain ⟨j, hj, rfl, hown, hC⟩ := hrel
      by_cases hlt : j < k
      · obtain ⟨x, hx⟩ := some_of_lt (L := W) (i := j) (by omega)
        obtain ⟨r0, r1, r2⟩ := row_cell HH.out hx
        have e0 := (ch_cell hC (block_lt_of_cell r0)).trans r0
        have e1 := (ch_cell hC (block_lt_of_cell r1)).trans r1
        have e2 := (ch_cell hC (block_lt_of_cell r2)).trans r2
        have HNX := Lib.hid (ids_next W j hx)
        have hsz := hC.size
        have Ho := Lib.hid hown
        have HC := Lib.hid hC
        have hjl : j ≤ 64 := by omega
        clear hx r0 r1 r2 hown hC c12
        obtain ⟨x1, x2, x3⟩ := x
        simp only at e0 e1 e2 HNX
        have BX := Lib.hid (Blk.new wr 53 #[.int .i64 x1, .int .i64 x2, .int .i64 x3])
        have hl := Nat.lt_succ_self wr.heap.size
        go_wp2_with (first
          | (at_builtin
             refine wpList_append_any _ rfl (.tmp 19) (.tmp 22) _ rfl w.heap.size 3 i0 _ 1 8 Try.underlying38 hi0 hz0 hz1 hz2 rfl (by omega) _ j (ids (W.take j)) rfl
               ((Ho.out.alloc _).alloc _) (wr.heap.size + 2) (some ⟨wr.heap.size + 1, 0, none⟩) 1 1 [.int .i64 x1] rfl ?_ (by simp [Value.oneCell']) (by simp only [maxLen]; omega) (by omega) (by simp; omega) ?_
             rotate_left 1
             intro v1 w1 hown1 hg1 hat1
             have HO := Lib.hid hown1; clear hown1
             have HG := Lib.hid hg1; clear hg1))
        · have HG' : ((wr.alloc (.cells #[.int .i64 x1, .int .i64 x2, .int .i64 x3] 53)).alloc (.cells #[.int .i64 x1] 3)).grownBy w1 u5.ownBlock := HG.out
          refine ⟨⟨j + 1, by omega, by go_num, by rw [HNX.out]; exact HO.out, ((HC.out.alloc _).alloc _).grown HG' (fun q hq => .inr (Ho.out.lt q hq).1)⟩, by simp [intOf]; omega⟩
        · have := reads_one (wr.alloc (.cells #[.int .i64 x1, .int .i64 x2, .int .i64 x3] 53)) 3 (.int .i64 x1)
          simpa using this
      · obtain rfl : j = k := by omega
        have hR := HH.out.ch hC (fun h => h) (fun _ _ h => h)
        have d12 := hR.c12
        have f12 := hR.fz 12
        have hne : u5.ownBlock ≠ some b := by
          intro e
          have := (hown.lt b e).1
          omega
        have Ho := Lib.hid hown
        have HC := Lib.hid hC
        have HR := Lib.hid hR
        clear hlt hown hC hR c12 hj
        have hfin : ∀ (v2 : Value) (w2 : World), w2.ownsRow wr.heap.size 53 3 v2 (W.length - j) (flatW (W.drop j)) → Below wr.heap.size wr w2 → ∃ A2 q2, v2 = .slice A2 (W.length - j) q2 ∧ w2.frozen? ⟨b, 12, none⟩ = false ∧ w2.cell? ⟨b, 12, none⟩ = some (.slice (some ⟨g, 0, none⟩) W.length cap) ∧ Took B b s W j w (.returned u5) (w2.setCell ⟨b, 12, none⟩ v2) := by
          intro v2 w2 ho2 hb2
          obtain ⟨A2, q2, rfl⟩ := own_form ho2
          have hc2 : Ch (fun _ => False) wr w2 := Ch.of_below hb2 (fun k hk _ => hk)
          have hr2 := HR.out.ch hc2 (fun h => h) (fun _ _ h => h)
          have hlen : (W.drop j).length = W.length - j := List.length_drop
          have hs := hr2.setW (W' := W.drop j) (v' := .slice A2 (W.length - j) q2) (by rw [hlen]; exact ho2) (by have := HC.out.size; omega) (by rw [hlen]; omega)
          refine ⟨A2, q2, rfl, hr2.fz 12, hr2.c12, _, _, rfl, own_set_far (own_ch Ho.out hc2 (fun _ _ h => h)) hne _, hs.1, ((HC.out.trans' hc2).mono (fun _ h => h.elim)).trans' hs.2⟩
        have HF := Lib.hid hfin
        clear hfin
        by_cases hck : cap = j
        · have hd : W.drop j = [] := List.drop_eq_nil_of_le (by omega)
          have hcl := Lib.hid (clone_some g 0 (W.length - j) 0 (flatW (W.drop j)) wr (by rw [flatW_len, List.length_drop]) (by omega) (fun j u h => by rw [hd] at h; simp [flatW] at h) (flatW_one _))
          clear hd
          go_wp2_with fail
          refine hcl.out.mono ?_
          rintro e w2 ⟨v2, rfl, ho2, hb2⟩
          dsimp only
          obtain ⟨A2, q2, rfl, fz2, cc2, hT⟩ := HF.out v2 w2 ho2 hb2
          have HT := Lib.hid hT
          clear ho2 hb2 hT hcl HF
          go_wp2_with fail
          go_ret
          exact HT.out
        · have hcl := Lib.hid (clone_some g (j * 3) (W.length - j) (cap - j) (flatW (W.drop j)) wr (by rw [flatW_len, List.length_drop]) (by omega) (fun i u hu => by
            rw [← flatW_drop, List.getElem?_drop] at hu
            have := HR.out.own.cells (g := g) rfl _ u hu
            rwa [add_mk, Nat.zero_add] at this) (flatW_one _))
          go_wp2_with fail
          refine hcl.out.mono ?_
          rintro e w2 ⟨v2, rfl, ho2, hb2⟩
          dsimp only
          obtain ⟨A2, q2, rfl, fz2, cc2, hT⟩ := HF.out v2 w2 ho2 hb2
          have HT := Lib.hid hT
          clear ho2 hb2 hT hcl HF
          go_wp2_with fail
          go_ret
          exact HT.out
end Go.Proofs.Ytdbbnkibdibpkab
