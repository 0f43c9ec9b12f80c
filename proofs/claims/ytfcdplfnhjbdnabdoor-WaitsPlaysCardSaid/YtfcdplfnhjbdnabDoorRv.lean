/- The reference's way: the walk. -/
import Derived.Test.YtfcdplfnhjbdnabDoorRw
import Derived.Test.YtfcdplfnhjbdnabDoorLibOff
namespace Go.Proofs.YtfcdplfnhjbdnabDoor
open Go.RowKit Go.Sort
set_option linter.unusedVariables false

def lenV : Value → Nat
  | .slice _ n _ => n
  | _ => 0
def okP (N : List (Int × Int)) (lim y : Int) : Bool := decide (lim < 0) || elderN N y lim
theorem new_at {w : World} {t : TypeId} {vs : Array Value} : ∀ j u, vs.toList[j]? = some u → (w.alloc (.cells vs t)).cell? ((⟨w.heap.size, 0, none⟩ : Addr).add j) = some u := by
  intro j u hu
  rw [add_mk, Nat.zero_add]
  rw [(Blk.new w t vs).cell j, ← hu, Array.getElem?_toList]
theorem app_far {ww w7 : World} {B m r : Nat} {sv tv v7 : Value} {xs ys zs : List Value} (hs : rowAt ww B 3 1 sv m xs) (ht : rowAt ww B 3 1 tv r ys) (hd : ∀ k, sv.ownBlock = some k → tv.ownBlock ≠ some k) (o : Obj)
    (h7 : rowAt w7 B 3 1 v7 (m + 1) zs) (g7 : (ww.alloc o).grownBy w7 sv.ownBlock) (a7 : ∀ k, v7.ownBlock = some k → sv.ownBlock = some k ∨ (ww.alloc o).heap.size ≤ k) :
    rowAt w7 B 3 1 tv r ys ∧ (∀ k, v7.ownBlock = some k → tv.ownBlock ≠ some k) ∧ Ch (fun k => sv.ownBlock = some k) ww w7 := by
  have hc : Ch (fun k => sv.ownBlock = some k) ww w7 := ((Ch.refl _ ww).alloc o).grown g7 (fun k hk => .inl hk)
  refine ⟨ht.ch hc (fun k hk hk' => hd k hk' hk), fun k hk hk' => ?_, hc⟩
  rcases a7 k hk with h | h
  · exact hd k h hk'
  · have := (ht.lt hk').2
    simp at h
    omega
theorem memtake_step {S : List Int} {j : Nat} {y b : Int} (hy : S[j]? = some y) : decide (b ∈ S.take (j + 1)) = (decide (b ∈ S.take j) || decide (y = b)) := by
  rw [List.take_add_one, hy]
  by_cases h1 : b ∈ S.take j
  · simp [h1]
  · by_cases h2 : y = b
    · subst h2; simp
    · have h2' : b ≠ y := fun e => h2 e.symm
      simp [h1, h2, h2']
set_option maxRecDepth 100000 in
set_option maxHeartbeats 16000000 in
theorem way_r {w : World} {B rb : Nat} {N E : List (Int × Int)} {vn ve : Value} (h : RM w B rb N E vn ve) (f t lim : Int) :
    Calls Tryd.prog 42 #[.pointer (some ⟨rb, 0, none⟩), .int .i64 f, .int .i64 t, .int .i64 lim] w fun e w' => ∃ b, e = .returned (.bool b) ∧ (b = true ↔ Wr E (okP N lim) f t) ∧ NewW w w' := by
  obtain ⟨A, q, rfl⟩ := own_form h.oe
  obtain ⟨i1, hi1, hy0, hy1, hy2⟩ := info_parts int_info
  have hel := h.el
  have HH := Lib.hid h
  have HEL := Lib.hid (fun (w' : World) (hc : NewW w w') (y : Int) => elder_r (h.new_ hc) y lim)
  clear h
  obtain ⟨P, hP⟩ : ∃ P, okP N lim = P := ⟨_, rfl⟩
  have HPE := Lib.hid (show ∀ y, P y = (decide (lim < 0) || elderN N y lim) from fun y => by rw [← hP]; rfl)
  rw [hP]
  clear hP
  generalize hn : E.length = n at *
  have HN := Lib.hid hn
  clear hn
  have hmax : (n : Int) ≤ 1000 := by omega
  go_enter Tryd.func42, Tryd.ntmps42
  go_wp2_with fail
  go_loopw [9, 10] (fun sv tv w' => ∃ S T : List Int, Sw E P f t S T ∧ T.length ≤ S.length + 1 ∧ rowAt w' w.heap.size 3 1 sv S.length (ints S) ∧ rowAt w' w.heap.size 3 1 tv T.length (ints T) ∧ (∀ k, sv.ownBlock = some k → tv.ownBlock ≠ some k) ∧ NewW w w') (fun sv tv _ => 2 * (n - lenV sv) + lenV tv)
  case atStart =>
    refine ⟨[], [f], sw_begin, by simp, ⟨rfl, .inr ⟨_, _, _, _, rfl, ?_, ((Blk.new w 3 #[]).alloc _), Nat.le_refl _, by simp [maxLen], by simp, fun j u hu => by simp [ints] at hu⟩⟩,
      ⟨rfl, .inr ⟨_, _, _, #[.int .i64 f], rfl, ?_, (by have := Blk.new (w.alloc (.cells #[] 3)) 3 #[.int .i64 f]; simpa using this), by simp, by simp [maxLen], by simp, fun j u hu => ?_⟩⟩, ?_, ((Ch.refl _ w).alloc _).alloc _⟩
    · exact Nat.le_refl _
    · simp
    · have h0 := lt_of_some hu
      simp [ints] at h0
      subst h0
      simpa [ints] using hu
    · intro k hk hk'
      simp [Value.ownBlock] at hk hk'
      omega
  case round =>
    obtain ⟨S, T, hSw, hTS, hs, ht, hd, hC⟩ := hrel
    obtain ⟨As, cs, rfl⟩ := hs.form_
    have HC := Lib.hid hC
    cases T with
    | nil =>
      obtain ⟨At, ct, rfl⟩ := ht.form_
      have HNW := Lib.hid (sw_end hSw)
      clear hSw hs ht hd hC
      simp only [List.length_nil]
      go_wp2_with fail
      go_ret
      exact ⟨false, rfl, ⟨fun h => absurd h (by simp), fun h => absurd h HNW.out⟩, HC.out⟩
    | cons x T =>
      obtain ⟨g, off, cap, rfl, hgB, hcap⟩ := ht.some_ (by simp)
      have x0 := ht.cells (j := 0) (u := .int .i64 x) rfl
      rw [Nat.add_zero] at x0
      have c1 := (HH.out.new_ hC).c1
      have HSR := Lib.hid (sw_pop hSw)
      have HS := Lib.hid hs
      have HT := Lib.hid ht
      have HD := Lib.hid hd
      clear hSw hs ht hd hC
      simp only [List.length_cons] at hcap HT HD hTS ⊢
      generalize hr : T.length = r at *
      have HR := Lib.hid hr
      clear hr
      generalize hm0 : S.length = m0 at *
      have HM0 := Lib.hid hm0
      clear hm0
      have e1 : decide ((0 : Int) < (r : Int) + 1) = true := decide_eq_true (by omega)
      have e2 : decide (0 < r + 1) = true := by simp
      by_cases hc1 : cap = 1
      · subst hc1
        obtain rfl : r = 0 := by omega
        simp only [Nat.zero_add]
        go_upto_region 6 with (fail)
        have HT1 := Lib.hid (show rowAt wr w.heap.size 3 1 (.slice (some ⟨g, off, none⟩) 0 0) 0 (ints T) from by
          have := HT.out.empty
          rw [List.eq_nil_of_length_eq_zero HR.out]
          exact this)
        have HD1 := Lib.hid (show ∀ k, (Value.slice As m0 cs).ownBlock = some k → (Value.slice (some ⟨g, off, none⟩) 0 0).ownBlock ≠ some k from fun k hk => HD.out k hk)
        clear HT HD hcap
        go_wp2_with fail
        go_loopw [9, 10, 33] (fun sv tv i w' => ∃ (k : Nat) (S1 T1 : List Int) (d : Nat), k ≤ n ∧ i = .int .i64 k ∧ Sr E P f t S1 T1 x k ∧ S1.length = m0 + d ∧ T1.length = T.length + d ∧ rowAt w' w.heap.size 3 1 sv S1.length (ints S1) ∧ rowAt w' w.heap.size 3 1 tv T1.length (ints T1) ∧ (∀ k, sv.ownBlock = some k → tv.ownBlock ≠ some k) ∧ NewW w w') (fun _ _ i _ => n - (intOf i).toNat)
        case atStart => exact ⟨0, S, T, 0, by omega, rfl, HSR.out, HM0.out, rfl, by rw [HM0.out]; exact HS.out, by rw [HR.out]; exact HT1.out, HD1.out, HC.out⟩
        case round =>
          clear HSR HS HT1 HD1 HC c1 x0
          obtain ⟨k, S1, T1, d, hk, rfl, hSr, hl1, hl2, hs1, ht1, hd1, hC1⟩ := hrel
          obtain ⟨As1, cs1, rfl⟩ := hs1.form_
          obtain ⟨At1, ct1, rfl⟩ := ht1.form_
          have hsl := seen_len hSr.nd hSr.seen
          rw [HN.out] at hsl
          have HL1 := Lib.hid hl1
          have HL2 := Lib.hid hl2
          have HSR := Lib.hid hSr
          have hrt := HR.out
          by_cases hlt : k < n
          · obtain ⟨⟨a, b⟩, he⟩ := some_of_lt (L := E) (i := k) (by rw [HN.out]; exact hlt)
            obtain ⟨g3, rfl, y0, y1⟩ := pair_cells (by have := (HH.out.new_ hC1).oe; rw [HN.out] at this; exact this) HN.out (Ch.refl _ _) he
            dsimp only at y0 y1
            have hcb : NewW wr (wr.alloc (.cells #[.int .i64 a, .int .i64 b] 41)) := (Ch.refl _ wr).alloc _
            have HCB := Lib.hid (hC1.trans' hcb)
            have BX := Lib.hid (Blk.new wr 41 #[.int .i64 a, .int .i64 b])
            have HS1 := Lib.hid (hs1.ch hcb (fun _ _ h => h))
            have HT1 := Lib.hid (ht1.ch hcb (fun _ _ h => h))
            have HD1 := Lib.hid hd1
            generalize hm1 : S1.length = m1 at *
            have HM1 := Lib.hid hm1
            generalize ht1l : T1.length = r1 at *
            have HR1 := Lib.hid ht1l
            have hkI : (k : Int) < (n : Int) := by omega
            have hm1n : m1 ≤ 1000 := by omega
            have hr1n : r1 ≤ 1000 := by omega
            have HEK := Lib.hid he
            clear hSr hs1 ht1 hd1 hC1 hl1 hl2 he hcb hm1 ht1l hrt
            go_upto_region 9 with (fail)
            generalize wr.alloc (.cells #[.int .i64 a, .int .i64 b] 41) = wb at *
            generalize wr.heap.size = bx at *
            have z0 : wb.cell? ⟨bx, 0, none⟩ = some (.int .i64 a) := by rw [BX.out.cell]; rfl
            have z1 : wb.cell? ⟨bx, 1, none⟩ = some (.int .i64 b) := by rw [BX.out.cell]; rfl
            clear y0 y1
            by_cases hax : a = x
            · have d1 : (a != x) = false := by simp [hax]
              have d1' : decide (a = x) = true := by simp [hax]
              have d1'' : (a == x) = true := by simp [hax]
              have HEX := Lib.hid (show E[k]? = some (x, b) from by rw [← hax]; exact HEK.out)
              clear hax HEK
              by_cases hbt : b = t
              · have d2 : (b == t) = true := by simp [hbt]
                have d2' : decide (b = t) = true := by simp [hbt]
                have HW := Lib.hid (show Wr E P f t from by rw [← hbt]; exact sr_way HSR.out HEX.out)
                clear hbt
                go_wp2_with fail
                go_ret
                exact ⟨true, rfl, ⟨fun _ => HW.out, fun _ => rfl⟩, HCB.out⟩
              · have d2 : (b == t) = false := by simp [hbt]
                have d2' : decide (b = t) = false := by simp [hbt]
                go_wp2_with fail
                go_loopw [14, 47] (fun kv i w' => ∃ j : Nat, j ≤ m1 ∧ i = .int .i64 j ∧ kv = .bool (decide (b ∈ S1.take j)) ∧ w' = wb) (fun _ i _ => m1 - (intOf i).toNat)
                case atStart => exact ⟨0, by omega, rfl, by simp, rfl⟩
                case round =>
                  obtain ⟨j, hj, rfl, rfl, rfl⟩ := hrel
                  by_cases hlj : j < m1
                  · obtain ⟨y, hy⟩ := some_of_lt (L := S1) (i := j) (by rw [HM1.out]; exact hlj)
                    obtain ⟨g4, off4, cap4, hv, _, _⟩ := HS1.out.some_ (by omega)
                    injection hv with hv1 hv2 hv3
                    subst hv1
                    have xs := HS1.out.cells (j := j) (u := .int .i64 y) (by rw [List.getElem?_map, hy]; rfl)
                    have HMT := Lib.hid (memtake_step (b := b) hy)
                    obtain ⟨K, hK⟩ : ∃ K, decide (b ∈ S1.take j) = K := ⟨_, rfl⟩
                    rw [hK] at HMT ⊢
                    have hjI : (j : Int) < (m1 : Int) := by omega
                    clear hy hK hv2 hv3
                    cases K
                    · by_cases hyb : y = b
                      · have d3 : (y == b) = true := by simp [hyb]
                        have d3' : decide (y = b) = true := by simp [hyb]
                        clear hyb
                        go_wp2_with fail
                        exact ⟨⟨j + 1, by omega, by go_num, by rw [HMT.out, d3']; rfl, by first | rfl | trivial⟩, by simp [intOf]; omega⟩
                      · have d3 : (y == b) = false := by simp [hyb]
                        have d3' : decide (y = b) = false := by simp [hyb]
                        clear hyb
                        go_wp2_with fail
                        exact ⟨⟨j + 1, by omega, by go_num, by rw [HMT.out, d3']; rfl, by first | rfl | trivial⟩, by simp [intOf]; omega⟩
                    · go_wp2_with fail
                      exact ⟨⟨j + 1, by omega, by go_num, by rw [HMT.out]; rfl, by first | rfl | trivial⟩, by simp [intOf]; omega⟩
                  · obtain rfl : m1 = j := by omega
                    have hfull : S1.take m1 = S1 := by rw [← HM1.out, List.take_length]
                    rw [hfull]
                    have HPB := Lib.hid (HPE.out b)
                    clear hfull hlj hj
                    by_cases hmem : b ∈ S1
                    · have d4 : decide (b ∈ S1) = true := decide_eq_true hmem
                      rw [d4]
                      have HSK := Lib.hid (sr_skip HSR.out HEX.out (fun _ => ⟨hbt, .inl hmem⟩))
                      clear hmem hbt d4
                      go_wp2_with fail
                      exact ⟨⟨k + 1, S1, T1, d, by omega, by go_num, HSK.out, HM1.out.trans HL1.out, HR1.out.trans HL2.out, by rw [HM1.out]; exact HS1.out, by rw [HR1.out]; exact HT1.out, HD1.out, HCB.out⟩, by simp [intOf]; omega⟩
                    · have d4 : decide (b ∈ S1) = false := decide_eq_false hmem
                      rw [d4]
                      by_cases hlim : lim < 0
                      · have d5 : decide (lim < 0) = true := decide_eq_true hlim
                        have HNEW := Lib.hid (sr_new HSR.out HEX.out hbt hmem (by rw [HPB.out, d5]; rfl))
                        have HCW := Lib.hid HCB.out
                        have hsz := HCB.out.size
                        clear hmem hbt d4 hlim
                        go_wp2_with (first
                          | (at_builtin
                             refine wpList_append_off _ rfl (.tmp 72) (.tmp 75) _ rfl w.heap.size 3 i1 _ 1 8 Tryd.underlying31 hi1 hy0 hy1 hy2 rfl (by omega) (.slice As1 m1 cs1) m1 (ints S1) rfl
                               (HS1.out.ch ((Ch.refl (fun _ => False) _).alloc _) (fun _ _ h => h)) ⟨wr.heap.size, 0, none⟩ 1 1 [.int .i64 b] rfl rfl (new_at (vs := #[.int .i64 b])) (by simp [Value.oneCell']) (by simp only [maxLen]; omega) (by omega) (by simp; omega) ?_
                             intro v7 w7 hown7 hg7 hat7
                             have z7 : w7.cell? ⟨bx, 1, none⟩ = some (.int .i64 b) := by rw [((BX.out.alloc _).grown hg7 (fun e => rowAt.blk_ne HS1.out BX.out (by decide) e.symm)).cell]; rfl
                             have HF7 := Lib.hid (app_far HS1.out HT1.out HD1.out _ hown7 hg7 hat7)
                             obtain ⟨A7, c7, rfl⟩ := hown7.form_
                             have hs7 := HF7.out.2.2.size
                             have HO7 := Lib.hid hown7
                             clear hown7 hg7 hat7)
                          | (at_builtin
                             refine wpList_append_off _ rfl (.tmp 77) (.tmp 80) _ rfl w.heap.size 3 i1 _ 1 8 Tryd.underlying31 hi1 hy0 hy1 hy2 rfl (by omega) (.slice At1 r1 ct1) r1 (ints T1) rfl
                               (HF7.out.1.ch ((Ch.refl (fun _ => False) _).alloc _) (fun _ _ h => h)) ⟨w7.heap.size, 0, none⟩ 1 1 [.int .i64 b] rfl rfl (new_at (vs := #[.int .i64 b])) (by simp [Value.oneCell']) (by simp only [maxLen]; omega) (by omega) (by simp; omega) ?_
                             intro v8 w8 hown8 hg8 hat8
                             have HF8 := Lib.hid (app_far HF7.out.1 HO7.out (fun k hk hk' => HF7.out.2.1 k hk' hk) _ hown8 hg8 hat8)
                             have HO8 := Lib.hid hown8
                             clear hown8 hg8 hat8))
                        refine ⟨⟨k + 1, S1 ++ [b], T1 ++ [b], d + 1, by omega, by go_num, HNEW.out, by rw [List.length_append, HM1.out, List.length_singleton]; have := HL1.out; omega, by rw [List.length_append, HR1.out, List.length_singleton]; have := HL2.out; omega, ?_, ?_, fun k hk hk' => HF8.out.2.1 k hk' hk, ?_⟩, by simp [intOf]; omega⟩
                        · rw [List.length_append, HM1.out, List.length_singleton, ints_snoc]; exact HF8.out.1
                        · rw [List.length_append, HR1.out, List.length_singleton, ints_snoc]; exact HO8.out
                        · exact (HCW.out.trans HF7.out.2.2 (fun k hk => .inr (HS1.out.lt hk).1)).trans HF8.out.2.2 (fun k hk => .inr (HT1.out.lt hk).1)
                      · have d5 : decide (lim < 0) = false := decide_eq_false hlim
                        have HE5 := Lib.hid (HEL.out _ HCB.out b)
                        obtain ⟨R, hR⟩ : ∃ R, elderN N b lim = R := ⟨_, rfl⟩
                        rw [hR] at HE5
                        have HPR := Lib.hid (show P b = R from by rw [HPB.out, d5, hR]; rfl)
                        clear d4 hlim hR HPB
                        go_wp2_with fail
                        refine HE5.out.mono ?_
                        rintro e w5 ⟨rfl, hN⟩
                        dsimp only
                        have HCW := Lib.hid (HCB.out.trans' hN)
                        have HS5 := Lib.hid (HS1.out.ch hN (fun _ _ h => h))
                        have HT5 := Lib.hid (HT1.out.ch hN (fun _ _ h => h))
                        have BX5 := Lib.hid (BX.out.ch hN (fun h => h))
                        have z5 : w5.cell? ⟨bx, 1, none⟩ = some (.int .i64 b) := by rw [BX5.out.cell]; rfl
                        have hsz := HCW.out.size
                        clear hN HE5
                        cases R
                        · have HSK := Lib.hid (sr_skip HSR.out HEX.out (fun _ => ⟨hbt, .inr HPR.out⟩))
                          clear hmem hbt
                          go_wp2_with fail
                          exact ⟨⟨k + 1, S1, T1, d, by omega, by go_num, HSK.out, HM1.out.trans HL1.out, HR1.out.trans HL2.out, by rw [HM1.out]; exact HS5.out, by rw [HR1.out]; exact HT5.out, HD1.out, HCW.out⟩, by simp [intOf]; omega⟩
                        · have HNEW := Lib.hid (sr_new HSR.out HEX.out hbt hmem HPR.out)
                          clear hmem hbt
                          go_wp2_with (first
                            | (at_builtin
                               refine wpList_append_off _ rfl (.tmp 72) (.tmp 75) _ rfl w.heap.size 3 i1 _ 1 8 Tryd.underlying31 hi1 hy0 hy1 hy2 rfl (by omega) (.slice As1 m1 cs1) m1 (ints S1) rfl
                                 (HS5.out.ch ((Ch.refl (fun _ => False) _).alloc _) (fun _ _ h => h)) ⟨w5.heap.size, 0, none⟩ 1 1 [.int .i64 b] rfl rfl (new_at (vs := #[.int .i64 b])) (by simp [Value.oneCell']) (by simp only [maxLen]; omega) (by omega) (by simp; omega) ?_
                               intro v7 w7 hown7 hg7 hat7
                               have z7 : w7.cell? ⟨bx, 1, none⟩ = some (.int .i64 b) := by rw [((BX5.out.alloc _).grown hg7 (fun e => rowAt.blk_ne HS5.out BX5.out (by decide) e.symm)).cell]; rfl
                               have HF7 := Lib.hid (app_far HS5.out HT5.out HD1.out _ hown7 hg7 hat7)
                               obtain ⟨A7, c7, rfl⟩ := hown7.form_
                               have hs7 := HF7.out.2.2.size
                               have HO7 := Lib.hid hown7
                               clear hown7 hg7 hat7)
                            | (at_builtin
                               refine wpList_append_off _ rfl (.tmp 77) (.tmp 80) _ rfl w.heap.size 3 i1 _ 1 8 Tryd.underlying31 hi1 hy0 hy1 hy2 rfl (by omega) (.slice At1 r1 ct1) r1 (ints T1) rfl
                                 (HF7.out.1.ch ((Ch.refl (fun _ => False) _).alloc _) (fun _ _ h => h)) ⟨w7.heap.size, 0, none⟩ 1 1 [.int .i64 b] rfl rfl (new_at (vs := #[.int .i64 b])) (by simp [Value.oneCell']) (by simp only [maxLen]; omega) (by omega) (by simp; omega) ?_
                               intro v8 w8 hown8 hg8 hat8
                               have HF8 := Lib.hid (app_far HF7.out.1 HO7.out (fun k hk hk' => HF7.out.2.1 k hk' hk) _ hown8 hg8 hat8)
                               have HO8 := Lib.hid hown8
                               clear hown8 hg8 hat8))
                          refine ⟨⟨k + 1, S1 ++ [b], T1 ++ [b], d + 1, by omega, by go_num, HNEW.out, by rw [List.length_append, HM1.out, List.length_singleton]; have := HL1.out; omega, by rw [List.length_append, HR1.out, List.length_singleton]; have := HL2.out; omega, ?_, ?_, fun k hk hk' => HF8.out.2.1 k hk' hk, ?_⟩, by simp [intOf]; omega⟩
                          · rw [List.length_append, HM1.out, List.length_singleton, ints_snoc]; exact HF8.out.1
                          · rw [List.length_append, HR1.out, List.length_singleton, ints_snoc]; exact HO8.out
                          · exact (HCW.out.trans HF7.out.2.2 (fun k hk => .inr (HS1.out.lt hk).1)).trans HF8.out.2.2 (fun k hk => .inr (HT1.out.lt hk).1)
            · have d1 : (a != x) = true := by simp [hax]
              have d1' : decide (a = x) = false := by simp [hax]
              have d1'' : (a == x) = false := by simp [hax]
              have HSK := Lib.hid (sr_skip HSR.out HEK.out (fun e => absurd e hax))
              clear hax HEK
              go_wp2_with fail
              exact ⟨⟨k + 1, S1, T1, d, by omega, by go_num, HSK.out, HM1.out.trans HL1.out, HR1.out.trans HL2.out, by rw [HM1.out]; exact HS1.out, by rw [HR1.out]; exact HT1.out, HD1.out, HCB.out⟩, by simp [intOf]; omega⟩
          · obtain rfl : k = n := by omega
            have hse : Sr E P f t S1 T1 x E.length := by rw [HN.out]; exact hSr
            have HSW := Lib.hid (sr_end hse)
            have HS1 := Lib.hid hs1
            have HT1 := Lib.hid ht1
            have HD1 := Lib.hid hd1
            have HC1 := Lib.hid hC1
            clear hSr hs1 ht1 hd1 hC1 hse
            go_wp2_with fail
            exact ⟨⟨S1, T1, HSW.out, by omega, HS1.out, HT1.out, HD1.out, HC1.out⟩, by simp [lenV]; omega⟩
      · have hc2 : (cap - 1 == 0) = false := by simp; omega
        have hc3 : decide (cap = 1) = false := by simpa using hc1
        go_upto_region 6 with (fail)
        have HT1 := Lib.hid (show rowAt wr w.heap.size 3 1 (.slice (some ⟨g, off + 1, none⟩) r (cap - 1)) r (ints T) from HT.out.tail (k := 1) (by omega))
        have HD1 := Lib.hid (show ∀ k, (Value.slice As m0 cs).ownBlock = some k → (Value.slice (some ⟨g, off + 1, none⟩) r (cap - 1)).ownBlock ≠ some k from fun k hk => HD.out k hk)
        clear HT HD hcap
        go_wp2_with fail
        go_loopw [9, 10, 33] (fun sv tv i w' => ∃ (k : Nat) (S1 T1 : List Int) (d : Nat), k ≤ n ∧ i = .int .i64 k ∧ Sr E P f t S1 T1 x k ∧ S1.length = m0 + d ∧ T1.length = T.length + d ∧ rowAt w' w.heap.size 3 1 sv S1.length (ints S1) ∧ rowAt w' w.heap.size 3 1 tv T1.length (ints T1) ∧ (∀ k, sv.ownBlock = some k → tv.ownBlock ≠ some k) ∧ NewW w w') (fun _ _ i _ => n - (intOf i).toNat)
        case atStart => exact ⟨0, S, T, 0, by omega, rfl, HSR.out, HM0.out, rfl, by rw [HM0.out]; exact HS.out, by rw [HR.out]; exact HT1.out, HD1.out, HC.out⟩
        case round =>
          clear HSR HS HT1 HD1 HC c1 x0
          obtain ⟨k, S1, T1, d, hk, rfl, hSr, hl1, hl2, hs1, ht1, hd1, hC1⟩ := hrel
          obtain ⟨As1, cs1, rfl⟩ := hs1.form_
          obtain ⟨At1, ct1, rfl⟩ := ht1.form_
          have hsl := seen_len hSr.nd hSr.seen
          rw [HN.out] at hsl
          have HL1 := Lib.hid hl1
          have HL2 := Lib.hid hl2
          have HSR := Lib.hid hSr
          have hrt := HR.out
          by_cases hlt : k < n
          · obtain ⟨⟨a, b⟩, he⟩ := some_of_lt (L := E) (i := k) (by rw [HN.out]; exact hlt)
            obtain ⟨g3, rfl, y0, y1⟩ := pair_cells (by have := (HH.out.new_ hC1).oe; rw [HN.out] at this; exact this) HN.out (Ch.refl _ _) he
            dsimp only at y0 y1
            have hcb : NewW wr (wr.alloc (.cells #[.int .i64 a, .int .i64 b] 41)) := (Ch.refl _ wr).alloc _
            have HCB := Lib.hid (hC1.trans' hcb)
            have BX := Lib.hid (Blk.new wr 41 #[.int .i64 a, .int .i64 b])
            have HS1 := Lib.hid (hs1.ch hcb (fun _ _ h => h))
            have HT1 := Lib.hid (ht1.ch hcb (fun _ _ h => h))
            have HD1 := Lib.hid hd1
            generalize hm1 : S1.length = m1 at *
            have HM1 := Lib.hid hm1
            generalize ht1l : T1.length = r1 at *
            have HR1 := Lib.hid ht1l
            have hkI : (k : Int) < (n : Int) := by omega
            have hm1n : m1 ≤ 1000 := by omega
            have hr1n : r1 ≤ 1000 := by omega
            have HEK := Lib.hid he
            clear hSr hs1 ht1 hd1 hC1 hl1 hl2 he hcb hm1 ht1l hrt
            go_upto_region 9 with (fail)
            generalize wr.alloc (.cells #[.int .i64 a, .int .i64 b] 41) = wb at *
            generalize wr.heap.size = bx at *
            have z0 : wb.cell? ⟨bx, 0, none⟩ = some (.int .i64 a) := by rw [BX.out.cell]; rfl
            have z1 : wb.cell? ⟨bx, 1, none⟩ = some (.int .i64 b) := by rw [BX.out.cell]; rfl
            clear y0 y1
            by_cases hax : a = x
            · have d1 : (a != x) = false := by simp [hax]
              have d1' : decide (a = x) = true := by simp [hax]
              have d1'' : (a == x) = true := by simp [hax]
              have HEX := Lib.hid (show E[k]? = some (x, b) from by rw [← hax]; exact HEK.out)
              clear hax HEK
              by_cases hbt : b = t
              · have d2 : (b == t) = true := by simp [hbt]
                have d2' : decide (b = t) = true := by simp [hbt]
                have HW := Lib.hid (show Wr E P f t from by rw [← hbt]; exact sr_way HSR.out HEX.out)
                clear hbt
                go_wp2_with fail
                go_ret
                exact ⟨true, rfl, ⟨fun _ => HW.out, fun _ => rfl⟩, HCB.out⟩
              · have d2 : (b == t) = false := by simp [hbt]
                have d2' : decide (b = t) = false := by simp [hbt]
                go_wp2_with fail
                go_loopw [14, 47] (fun kv i w' => ∃ j : Nat, j ≤ m1 ∧ i = .int .i64 j ∧ kv = .bool (decide (b ∈ S1.take j)) ∧ w' = wb) (fun _ i _ => m1 - (intOf i).toNat)
                case atStart => exact ⟨0, by omega, rfl, by simp, rfl⟩
                case round =>
                  obtain ⟨j, hj, rfl, rfl, rfl⟩ := hrel
                  by_cases hlj : j < m1
                  · obtain ⟨y, hy⟩ := some_of_lt (L := S1) (i := j) (by rw [HM1.out]; exact hlj)
                    obtain ⟨g4, off4, cap4, hv, _, _⟩ := HS1.out.some_ (by omega)
                    injection hv with hv1 hv2 hv3
                    subst hv1
                    have xs := HS1.out.cells (j := j) (u := .int .i64 y) (by rw [List.getElem?_map, hy]; rfl)
                    have HMT := Lib.hid (memtake_step (b := b) hy)
                    obtain ⟨K, hK⟩ : ∃ K, decide (b ∈ S1.take j) = K := ⟨_, rfl⟩
                    rw [hK] at HMT ⊢
                    have hjI : (j : Int) < (m1 : Int) := by omega
                    clear hy hK hv2 hv3
                    cases K
                    · by_cases hyb : y = b
                      · have d3 : (y == b) = true := by simp [hyb]
                        have d3' : decide (y = b) = true := by simp [hyb]
                        clear hyb
                        go_wp2_with fail
                        exact ⟨⟨j + 1, by omega, by go_num, by rw [HMT.out, d3']; rfl, by first | rfl | trivial⟩, by simp [intOf]; omega⟩
                      · have d3 : (y == b) = false := by simp [hyb]
                        have d3' : decide (y = b) = false := by simp [hyb]
                        clear hyb
                        go_wp2_with fail
                        exact ⟨⟨j + 1, by omega, by go_num, by rw [HMT.out, d3']; rfl, by first | rfl | trivial⟩, by simp [intOf]; omega⟩
                    · go_wp2_with fail
                      exact ⟨⟨j + 1, by omega, by go_num, by rw [HMT.out]; rfl, by first | rfl | trivial⟩, by simp [intOf]; omega⟩
                  · obtain rfl : m1 = j := by omega
                    have hfull : S1.take m1 = S1 := by rw [← HM1.out, List.take_length]
                    rw [hfull]
                    have HPB := Lib.hid (HPE.out b)
                    clear hfull hlj hj
                    by_cases hmem : b ∈ S1
                    · have d4 : decide (b ∈ S1) = true := decide_eq_true hmem
                      rw [d4]
                      have HSK := Lib.hid (sr_skip HSR.out HEX.out (fun _ => ⟨hbt, .inl hmem⟩))
                      clear hmem hbt d4
                      go_wp2_with fail
                      exact ⟨⟨k + 1, S1, T1, d, by omega, by go_num, HSK.out, HM1.out.trans HL1.out, HR1.out.trans HL2.out, by rw [HM1.out]; exact HS1.out, by rw [HR1.out]; exact HT1.out, HD1.out, HCB.out⟩, by simp [intOf]; omega⟩
                    · have d4 : decide (b ∈ S1) = false := decide_eq_false hmem
                      rw [d4]
                      by_cases hlim : lim < 0
                      · have d5 : decide (lim < 0) = true := decide_eq_true hlim
                        have HNEW := Lib.hid (sr_new HSR.out HEX.out hbt hmem (by rw [HPB.out, d5]; rfl))
                        have HCW := Lib.hid HCB.out
                        have hsz := HCB.out.size
                        clear hmem hbt d4 hlim
                        go_wp2_with (first
                          | (at_builtin
                             refine wpList_append_off _ rfl (.tmp 72) (.tmp 75) _ rfl w.heap.size 3 i1 _ 1 8 Tryd.underlying31 hi1 hy0 hy1 hy2 rfl (by omega) (.slice As1 m1 cs1) m1 (ints S1) rfl
                               (HS1.out.ch ((Ch.refl (fun _ => False) _).alloc _) (fun _ _ h => h)) ⟨wr.heap.size, 0, none⟩ 1 1 [.int .i64 b] rfl rfl (new_at (vs := #[.int .i64 b])) (by simp [Value.oneCell']) (by simp only [maxLen]; omega) (by omega) (by simp; omega) ?_
                             intro v7 w7 hown7 hg7 hat7
                             have z7 : w7.cell? ⟨bx, 1, none⟩ = some (.int .i64 b) := by rw [((BX.out.alloc _).grown hg7 (fun e => rowAt.blk_ne HS1.out BX.out (by decide) e.symm)).cell]; rfl
                             have HF7 := Lib.hid (app_far HS1.out HT1.out HD1.out _ hown7 hg7 hat7)
                             obtain ⟨A7, c7, rfl⟩ := hown7.form_
                             have hs7 := HF7.out.2.2.size
                             have HO7 := Lib.hid hown7
                             clear hown7 hg7 hat7)
                          | (at_builtin
                             refine wpList_append_off _ rfl (.tmp 77) (.tmp 80) _ rfl w.heap.size 3 i1 _ 1 8 Tryd.underlying31 hi1 hy0 hy1 hy2 rfl (by omega) (.slice At1 r1 ct1) r1 (ints T1) rfl
                               (HF7.out.1.ch ((Ch.refl (fun _ => False) _).alloc _) (fun _ _ h => h)) ⟨w7.heap.size, 0, none⟩ 1 1 [.int .i64 b] rfl rfl (new_at (vs := #[.int .i64 b])) (by simp [Value.oneCell']) (by simp only [maxLen]; omega) (by omega) (by simp; omega) ?_
                             intro v8 w8 hown8 hg8 hat8
                             have HF8 := Lib.hid (app_far HF7.out.1 HO7.out (fun k hk hk' => HF7.out.2.1 k hk' hk) _ hown8 hg8 hat8)
                             have HO8 := Lib.hid hown8
                             clear hown8 hg8 hat8))
                        refine ⟨⟨k + 1, S1 ++ [b], T1 ++ [b], d + 1, by omega, by go_num, HNEW.out, by rw [List.length_append, HM1.out, List.length_singleton]; have := HL1.out; omega, by rw [List.length_append, HR1.out, List.length_singleton]; have := HL2.out; omega, ?_, ?_, fun k hk hk' => HF8.out.2.1 k hk' hk, ?_⟩, by simp [intOf]; omega⟩
                        · rw [List.length_append, HM1.out, List.length_singleton, ints_snoc]; exact HF8.out.1
                        · rw [List.length_append, HR1.out, List.length_singleton, ints_snoc]; exact HO8.out
                        · exact (HCW.out.trans HF7.out.2.2 (fun k hk => .inr (HS1.out.lt hk).1)).trans HF8.out.2.2 (fun k hk => .inr (HT1.out.lt hk).1)
                      · have d5 : decide (lim < 0) = false := decide_eq_false hlim
                        have HE5 := Lib.hid (HEL.out _ HCB.out b)
                        obtain ⟨R, hR⟩ : ∃ R, elderN N b lim = R := ⟨_, rfl⟩
                        rw [hR] at HE5
                        have HPR := Lib.hid (show P b = R from by rw [HPB.out, d5, hR]; rfl)
                        clear d4 hlim hR HPB
                        go_wp2_with fail
                        refine HE5.out.mono ?_
                        rintro e w5 ⟨rfl, hN⟩
                        dsimp only
                        have HCW := Lib.hid (HCB.out.trans' hN)
                        have HS5 := Lib.hid (HS1.out.ch hN (fun _ _ h => h))
                        have HT5 := Lib.hid (HT1.out.ch hN (fun _ _ h => h))
                        have BX5 := Lib.hid (BX.out.ch hN (fun h => h))
                        have z5 : w5.cell? ⟨bx, 1, none⟩ = some (.int .i64 b) := by rw [BX5.out.cell]; rfl
                        have hsz := HCW.out.size
                        clear hN HE5
                        cases R
                        · have HSK := Lib.hid (sr_skip HSR.out HEX.out (fun _ => ⟨hbt, .inr HPR.out⟩))
                          clear hmem hbt
                          go_wp2_with fail
                          exact ⟨⟨k + 1, S1, T1, d, by omega, by go_num, HSK.out, HM1.out.trans HL1.out, HR1.out.trans HL2.out, by rw [HM1.out]; exact HS5.out, by rw [HR1.out]; exact HT5.out, HD1.out, HCW.out⟩, by simp [intOf]; omega⟩
                        · have HNEW := Lib.hid (sr_new HSR.out HEX.out hbt hmem HPR.out)
                          clear hmem hbt
                          go_wp2_with (first
                            | (at_builtin
                               refine wpList_append_off _ rfl (.tmp 72) (.tmp 75) _ rfl w.heap.size 3 i1 _ 1 8 Tryd.underlying31 hi1 hy0 hy1 hy2 rfl (by omega) (.slice As1 m1 cs1) m1 (ints S1) rfl
                                 (HS5.out.ch ((Ch.refl (fun _ => False) _).alloc _) (fun _ _ h => h)) ⟨w5.heap.size, 0, none⟩ 1 1 [.int .i64 b] rfl rfl (new_at (vs := #[.int .i64 b])) (by simp [Value.oneCell']) (by simp only [maxLen]; omega) (by omega) (by simp; omega) ?_
                               intro v7 w7 hown7 hg7 hat7
                               have z7 : w7.cell? ⟨bx, 1, none⟩ = some (.int .i64 b) := by rw [((BX5.out.alloc _).grown hg7 (fun e => rowAt.blk_ne HS5.out BX5.out (by decide) e.symm)).cell]; rfl
                               have HF7 := Lib.hid (app_far HS5.out HT5.out HD1.out _ hown7 hg7 hat7)
                               obtain ⟨A7, c7, rfl⟩ := hown7.form_
                               have hs7 := HF7.out.2.2.size
                               have HO7 := Lib.hid hown7
                               clear hown7 hg7 hat7)
                            | (at_builtin
                               refine wpList_append_off _ rfl (.tmp 77) (.tmp 80) _ rfl w.heap.size 3 i1 _ 1 8 Tryd.underlying31 hi1 hy0 hy1 hy2 rfl (by omega) (.slice At1 r1 ct1) r1 (ints T1) rfl
                                 (HF7.out.1.ch ((Ch.refl (fun _ => False) _).alloc _) (fun _ _ h => h)) ⟨w7.heap.size, 0, none⟩ 1 1 [.int .i64 b] rfl rfl (new_at (vs := #[.int .i64 b])) (by simp [Value.oneCell']) (by simp only [maxLen]; omega) (by omega) (by simp; omega) ?_
                               intro v8 w8 hown8 hg8 hat8
                               have HF8 := Lib.hid (app_far HF7.out.1 HO7.out (fun k hk hk' => HF7.out.2.1 k hk' hk) _ hown8 hg8 hat8)
                               have HO8 := Lib.hid hown8
                               clear hown8 hg8 hat8))
                          refine ⟨⟨k + 1, S1 ++ [b], T1 ++ [b], d + 1, by omega, by go_num, HNEW.out, by rw [List.length_append, HM1.out, List.length_singleton]; have := HL1.out; omega, by rw [List.length_append, HR1.out, List.length_singleton]; have := HL2.out; omega, ?_, ?_, fun k hk hk' => HF8.out.2.1 k hk' hk, ?_⟩, by simp [intOf]; omega⟩
                          · rw [List.length_append, HM1.out, List.length_singleton, ints_snoc]; exact HF8.out.1
                          · rw [List.length_append, HR1.out, List.length_singleton, ints_snoc]; exact HO8.out
                          · exact (HCW.out.trans HF7.out.2.2 (fun k hk => .inr (HS1.out.lt hk).1)).trans HF8.out.2.2 (fun k hk => .inr (HT1.out.lt hk).1)
            · have d1 : (a != x) = true := by simp [hax]
              have d1' : decide (a = x) = false := by simp [hax]
              have d1'' : (a == x) = false := by simp [hax]
              have HSK := Lib.hid (sr_skip HSR.out HEK.out (fun e => absurd e hax))
              clear hax HEK
              go_wp2_with fail
              exact ⟨⟨k + 1, S1, T1, d, by omega, by go_num, HSK.out, HM1.out.trans HL1.out, HR1.out.trans HL2.out, by rw [HM1.out]; exact HS1.out, by rw [HR1.out]; exact HT1.out, HD1.out, HCB.out⟩, by simp [intOf]; omega⟩
          · obtain rfl : k = n := by omega
            have hse : Sr E P f t S1 T1 x E.length := by rw [HN.out]; exact hSr
            have HSW := Lib.hid (sr_end hse)
            have HS1 := Lib.hid hs1
            have HT1 := Lib.hid ht1
            have HD1 := Lib.hid hd1
            have HC1 := Lib.hid hC1
            clear hSr hs1 ht1 hd1 hC1 hse
            go_wp2_with fail
            exact ⟨⟨S1, T1, HSW.out, by omega, HS1.out, HT1.out, HD1.out, HC1.out⟩, by simp [lenV]; omega⟩
end Go.Proofs.YtfcdplfnhjbdnabDoor
