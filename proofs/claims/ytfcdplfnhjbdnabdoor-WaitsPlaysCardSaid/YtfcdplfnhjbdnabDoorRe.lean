/- The reference's Edge and Drop. -/
import Derived.Test.YtfcdplfnhjbdnabDoorRn
namespace Go.Proofs.YtfcdplfnhjbdnabDoor
open Go.RowKit Go.Sort
set_option linter.unusedVariables false

theorem redge_info : (Tryd.prog.info? 41).map (fun i => (i.zero, i.size, i.bytes)) = some (some (.agg #[.int .i64 0, .int .i64 0]), 2, 16) := by kernel_rfl
def dropRN (N : List (Int × Int)) (id : Int) : List (Int × Int) := if stB N id = true then N.filter (fun p => p.1 != id) else N
def dropRE (N E : List (Int × Int)) (id : Int) : List (Int × Int) := if stB N id = true then E.filter (fun e => e.1 != id && e.2 != id) else E
theorem filt_step {L : List (Int × Int)} {P : Int × Int → Bool} {k : Nat} {x : Int × Int} (hx : L[k]? = some x) : (L.take (k + 1)).filter P = (L.take k).filter P ++ (if P x then [x] else []) := by
  rw [List.take_add_one, hx, List.filter_append]
  congr 1
  cases h : P x <;> simp [h]
section
variable {w0 w : World} {rb : Nat} {N E : List (Int × Int)}
set_option maxHeartbeats 2000000 in
theorem edge_r (h : RG w0 rb N E w) (hE : E.length < 1000) (a b : Int) :
    Calls Tryd.prog 22 #[.pointer (some ⟨rb, 0, none⟩), .int .i64 a, .int .i64 b] w fun e w' => e = .returned (.int .i64 (edgeRE N a b)) ∧ RG w0 rb N (edgeRL N E a b) w' ∧ KpR w w' := by
  obtain ⟨X, hX⟩ : ∃ X, edgeRE N a b = X := ⟨_, rfl⟩
  obtain ⟨L, hL⟩ : ∃ L, edgeRL N E a b = L := ⟨_, rfl⟩
  rw [hX, hL]
  unfold edgeRL at hL
  rw [hX] at hL
  unfold edgeRE at hX
  obtain ⟨vn, ve, hm⟩ := h.rm
  obtain ⟨A, q, rfl⟩ := own_form hm.oe
  have HSA := Lib.hid (stamp_r hm a)
  have HSB := Lib.hid (fun w' (hc : NewW w w') => stamp_r (hm.new_ hc) b)
  have HHA := Lib.hid (fun w' (hc : NewW w w') => has_r (hm.new_ hc) a b)
  have HH := Lib.hid h
  have HM := Lib.hid hm
  have hszw := h.size
  clear h hm
  by_cases hab : a = b
  · rw [if_pos hab] at hX
    subst hX
    rw [if_neg (by simp)] at hL
    subst hL
    have d : (a == b) = true := by simpa using hab
    have d' : decide (a = b) = true := by simpa using hab
    clear hab
    go_enter Tryd.func22, Tryd.ntmps22
    go_wp2_with fail
    go_ret
    exact ⟨rfl, HH.out, KpR.new_ (Ch.refl _ _)⟩
  · rw [if_neg hab] at hX
    have d : (a == b) = false := by simpa using hab
    have d' : decide (a = b) = false := by simpa using hab
    clear hab
    generalize stS N a = s at *
    generalize stS N b = t at *
    generalize stB N a = ba at *
    generalize stB N b = bb at *
    by_cases hboth : ba = true ∧ bb = true
    · obtain ⟨rfl, rfl⟩ := hboth
      rw [if_pos ⟨rfl, rfl⟩] at hX
      subst hX
      by_cases hin : (a, b) ∈ E
      · rw [if_neg (fun hh => hh.2 hin)] at hL
        subst hL
        have d4 : decide ((a, b) ∈ E) = true := decide_eq_true hin
        rw [d4] at HHA
        clear hin d4
        go_enter Tryd.func22, Tryd.ntmps22
        go_wp2_with fail
        refine HSA.out.mono ?_
        rintro e w2 ⟨rfl, hN⟩
        have HN2 := Lib.hid hN
        clear hN HSA
        dsimp only
        go_wp2_with fail
        refine (HSB.out _ HN2.out).mono ?_
        rintro e w3 ⟨rfl, hN⟩
        have HN3 := Lib.hid (HN2.out.trans' hN)
        clear hN HSB HN2
        dsimp only
        go_wp2_with fail
        refine (HHA.out _ HN3.out).mono ?_
        rintro e w4 ⟨rfl, hN⟩
        have HN4 := Lib.hid (HN3.out.trans' hN)
        clear hN HHA HN3
        dsimp only
        go_wp2_with fail
        go_ret
        exact ⟨rfl, HH.out.new_ HN4.out, KpR.new_ HN4.out⟩
      · rw [if_pos ⟨rfl, hin⟩] at hL
        subst hL
        have d4 : decide ((a, b) ∈ E) = false := decide_eq_false hin
        rw [d4] at HHA
        clear hin d4
        obtain ⟨i1, hi1, hy0, hy1, hy2⟩ := info_parts redge_info
        generalize hn : E.length = n at *
        have HN := Lib.hid hn
        clear hn
        go_enter Tryd.func22, Tryd.ntmps22
        go_wp2_with fail
        refine HSA.out.mono ?_
        rintro e w2 ⟨rfl, hN⟩
        have HN2 := Lib.hid hN
        clear hN HSA
        dsimp only
        go_wp2_with fail
        refine (HSB.out _ HN2.out).mono ?_
        rintro e w3 ⟨rfl, hN⟩
        have HN3 := Lib.hid (HN2.out.trans' hN)
        clear hN HSB HN2
        dsimp only
        go_wp2_with fail
        refine (HHA.out _ HN3.out).mono ?_
        rintro e w4 ⟨rfl, hN⟩
        have hN4 : NewW w w4 := HN3.out.trans' hN
        have HN4 := Lib.hid hN4
        have c1 := (HM.out.new_ hN4).c1
        have HM4 := Lib.hid (HM.out.new_ hN4)
        have hsz4 := (HH.out.new_ hN4).size
        clear hN HHA HN3 hN4
        dsimp only
        go_wp2_with (first
          | (at_builtin
             refine wpList_append_any _ rfl (.tmp 41) (.tmp 45) _ rfl w0.heap.size 41 i1 _ 2 16 Tryd.underlying23 hi1 hy0 hy1 hy2 rfl (by omega) _ n (flatE E) rfl
               (by have := HM4.out.oe; rw [HN.out] at this; exact own_ch this ((Ch.refl (fun _ => False) _).alloc _) (fun _ _ h => h)) (w4.heap.size + 1) (some ⟨w4.heap.size, 0, none⟩) 1 1 [.int .i64 a, .int .i64 b] rfl (reads_new w4 41 #[.int .i64 a, .int .i64 b] 1 2 rfl) (by simp [Value.oneCell']) (by simp only [maxLen]; omega) (by omega) (by simp; omega) ?_
             intro v7 w7 hown7 hg7 hat7
             have hb7 := (HM4.out.blk.alloc (.cells #[.int .i64 a, .int .i64 b] 41)).grown hg7 (fun e => own_blk_ne HM4.out.oe HM4.out.blk (by decide) e.symm)
             have f7 := hb7.frozen 1
             have e7 := hb7.cell 1
             simp at e7
             have HO7 := Lib.hid hown7
             have HG7 := Lib.hid hg7
             have HB7 := Lib.hid hb7
             obtain ⟨A7, c7, rfl⟩ := own_form hown7
             clear hown7 hg7 hat7 hb7))
        go_ret
        have h7 : Ch (fun g => (Value.slice A n q).ownBlock = some g) w4 w7 := ((Ch.refl _ w4).alloc _).grown HG7.out (fun g hg => .inl hg)
        have hch : Ch (Foot rb vn (.slice A n q)) w (w7.setCell ⟨rb, 1, none⟩ (.slice A7 (n + 1) c7)) :=
          ((HN4.out.mono (fun _ h => h.elim)).trans' (h7.mono (fun g hg => .inr (.inr hg)))).setCell (p := ⟨rb, 1, none⟩) (.inl (.inl rfl)) _
        obtain ⟨f1, f2⟩ := rg_frame HM.out HH.out.below hch
        refine ⟨rfl, ⟨⟨vn, .slice A7 (n + 1) c7, ?_, ?_, ?_, HM.out.bB, HM.out.nl, by rw [List.length_append, HN.out, List.length_singleton]; omega⟩, f1⟩, f2⟩
        · have := HB7.out.set_ 1 (.slice A7 (n + 1) c7)
          simpa using this
        · have he := own_ch HM4.out.on h7 (fun k hk hk' => by
            have h1 := HM4.out.oe
            rw [HN.out] at h1
            exact own_own_ne HM4.out.on h1 (by decide) k hk hk')
          exact own_set_far he (fun e => own_blk_ne he HB7.out (by decide) e) _
        · rw [List.length_append, HN.out, List.length_singleton, flatE_snoc]
          exact own_set_far HO7.out (fun e => own_blk_ne HO7.out HB7.out (by decide) e) _
    · rw [if_neg hboth] at hX
      subst hX
      rw [if_neg (by simp)] at hL
      subst hL
      cases ba <;> cases bb
      case true.true => exact absurd ⟨rfl, rfl⟩ hboth
      all_goals
        clear hboth
        go_enter Tryd.func22, Tryd.ntmps22
        go_wp2_with fail
        refine HSA.out.mono ?_
        rintro e w2 ⟨rfl, hN⟩
        have HN2 := Lib.hid hN
        clear hN HSA
        dsimp only
        go_wp2_with fail
        refine (HSB.out _ HN2.out).mono ?_
        rintro e w3 ⟨rfl, hN⟩
        have HN3 := Lib.hid (HN2.out.trans' hN)
        clear hN HSB HN2
        dsimp only
        go_wp2_with fail
        go_ret
        exact ⟨rfl, HH.out.new_ HN3.out, KpR.new_ HN3.out⟩
set_option maxHeartbeats 4000000 in
theorem drop_r (h : RG w0 rb N E w) (id : Int) :
    Calls Tryd.prog 23 #[.pointer (some ⟨rb, 0, none⟩), .int .i64 id] w fun e w' => e = .returned (.int .i64 (if stB N id = true then 0 else 6)) ∧ RG w0 rb (dropRN N id) (dropRE N E id) w' ∧ KpR w w' := by
  unfold dropRN dropRE
  obtain ⟨vn, ve, hm⟩ := h.rm
  obtain ⟨An, qn, rfl⟩ := own_form hm.on
  obtain ⟨Ae, qe, rfl⟩ := own_form hm.oe
  have HST := Lib.hid (stamp_r hm id)
  have HH := Lib.hid h
  have HM := Lib.hid hm
  have hszw := h.size
  have h64 := hm.nl
  have h1k := hm.el
  clear h hm
  generalize stS N id = s at *
  generalize stB N id = bb at *
  cases bb
  case false =>
    rw [if_neg (by simp), if_neg (by simp), if_neg (by simp)]
    go_enter Tryd.func23, Tryd.ntmps23
    go_wp2_with fail
    refine HST.out.mono ?_
    rintro e w2 ⟨rfl, hN⟩
    have HN2 := Lib.hid hN
    clear hN HST
    dsimp only
    go_wp2_with fail
    go_ret
    exact ⟨rfl, HH.out.new_ HN2.out, KpR.new_ HN2.out⟩
  case true =>
    rw [if_pos rfl, if_pos rfl, if_pos rfl]
    obtain ⟨i1, hi1, hy0, hy1, hy2⟩ := info_parts redge_info
    obtain ⟨i2, hi2, hz0, hz1, hz2⟩ := info_parts rnode_info
    obtain ⟨P1, hP1⟩ : ∃ P : Int × Int → Bool, (fun p : Int × Int => p.1 != id) = P := ⟨_, rfl⟩
    obtain ⟨P2, hP2⟩ : ∃ P : Int × Int → Bool, (fun p : Int × Int => p.1 != id && p.2 != id) = P := ⟨_, rfl⟩
    rw [hP1, hP2]
    have HP1 := Lib.hid hP1
    have HP2 := Lib.hid hP2
    clear hP1 hP2
    generalize hnn : N.length = n at *
    have HN := Lib.hid hnn
    generalize hee : E.length = m at *
    have HE := Lib.hid hee
    clear hnn hee
    have hnI : (n : Int) ≤ 64 := by omega
    have hmI : (m : Int) ≤ 1000 := by omega
    go_enter Tryd.func23, Tryd.ntmps23
    go_wp2_with fail
    refine HST.out.mono ?_
    rintro e w2 ⟨rfl, hN⟩
    have HN2 := Lib.hid hN
    have HM2 := Lib.hid (HM.out.new_ hN)
    have c0 := (HM.out.new_ hN).c0
    clear hN HST
    dsimp only
    go_wp2_with fail
    go_loopw [7, 26] (fun nv i w' => ∃ k : Nat, k ≤ n ∧ i = .int .i64 k ∧ w'.ownsRow w2.heap.size 69 2 nv ((N.take k).filter P1).length (flatE ((N.take k).filter P1)) ∧ NewW w2 w') (fun _ i _ => n - (intOf i).toNat)
    case atStart => exact ⟨0, by omega, rfl, ⟨by simp [flatE], .inl ⟨by simp, by simp⟩⟩, Ch.refl _ _⟩
    case round =>
      obtain ⟨k, hk, rfl, hO, hC⟩ := hrel
      obtain ⟨A7, q7, rfl⟩ := own_form hO
      have HO := Lib.hid hO
      have HC := Lib.hid hC
      have hsz := hC.size
      by_cases hlt : k < n
      · obtain ⟨⟨a, t⟩, hx⟩ := some_of_lt (L := N) (i := k) (by rw [HN.out]; exact hlt)
        obtain ⟨g, rfl, x0, x1⟩ := pair_cells (by have := (HM2.out.new_ hC).on; rw [HN.out] at this; exact this) HN.out (Ch.refl _ _) hx
        dsimp only at x0 x1
        have HF := Lib.hid (filt_step (P := P1) hx)
        have hfl : ((N.take k).filter P1).length ≤ 64 := Nat.le_trans (List.length_filter_le _ _) (by rw [List.length_take]; omega)
        generalize hfn : (N.take k).filter P1 = F at *
        generalize hfl' : F.length = fl at *
        have HFL := Lib.hid hfl'
        by_cases hai : a = id
        · have d : (a != id) = false := by simp [hai]
          have d' : decide (a = id) = true := by simp [hai]
          have hp : P1 (a, t) = false := by rw [← HP1.out]; exact d
          rw [hp] at HF
          have hcb : NewW wr (wr.alloc (.cells #[.int .i64 a, .int .i64 t] 69)) := (Ch.refl _ wr).alloc _
          have HOB := Lib.hid (own_ch hO hcb (fun _ _ h => h))
          have HCB := Lib.hid (hC.trans' hcb)
          clear hO hC hx hai hfn hfl' hp hcb
          go_wp2_with fail
          refine ⟨⟨k + 1, by omega, by go_num, ?_, HCB.out⟩, by simp [intOf]; omega⟩
          rw [HF.out]
          simp only [Bool.false_eq_true, if_false, List.append_nil]
          rw [HFL.out]
          exact HOB.out
        · have d : (a != id) = true := by simp [hai]
          have d' : decide (a = id) = false := by simp [hai]
          have hp : P1 (a, t) = true := by rw [← HP1.out]; exact d
          rw [hp] at HF
          clear hO hC hx hai hfn hfl' hp
          go_wp2_with (first
            | (at_builtin
               refine wpList_append_any _ rfl (.tmp 34) (.tmp 36) _ rfl w2.heap.size 69 i2 _ 2 16 Tryd.underlying45 hi2 hz0 hz1 hz2 rfl (by omega) _ fl (flatE F) rfl
                 (own_ch HO.out (((Ch.refl (fun _ => False) _).alloc _).alloc _) (fun _ _ h => h)) (wr.heap.size + 1 + 1) (some ⟨wr.heap.size + 1, 0, none⟩) 1 1 [.int .i64 a, .int .i64 t] rfl (by
                   have := reads_new (wr.alloc (.cells #[.int .i64 a, .int .i64 t] 69)) 69 #[.int .i64 a, .int .i64 t] 1 2 rfl
                   simpa using this) (by simp [Value.oneCell']) (by simp only [maxLen]; omega) (by omega) (by simp; omega) ?_
               intro v8 w8 hown8 hg8 hat8
               have HO8 := Lib.hid hown8
               have HG8 := Lib.hid hg8
               clear hown8 hg8 hat8))
          refine ⟨⟨k + 1, by omega, by go_num, ?_, (((HC.out : Ch (fun _ => False) w2 wr).alloc _).alloc _).grown HG8.out (fun g hg => .inr (own_lt HO.out hg).1)⟩, by simp [intOf]; omega⟩
          rw [HF.out, if_pos rfl, flatE_snoc, List.length_append, HFL.out]
          exact HO8.out
      · obtain rfl : n = k := by omega
        have hft : (N.take n).filter P1 = N.filter P1 := by rw [← HN.out, List.take_length]
        rw [hft] at hO ⊢
        have c1 := (HM2.out.new_ hC).c1
        have HON := Lib.hid hO
        have HM3 := Lib.hid (HM2.out.new_ hC)
        obtain ⟨F1, hF1⟩ : ∃ F, N.filter P1 = F := ⟨_, rfl⟩
        have HFL := Lib.hid (show F1.length ≤ 64 from by rw [← hF1]; exact Nat.le_trans (List.length_filter_le _ _) (by rw [HN.out]; exact h64))
        rw [hF1] at HON ⊢
        have HFN1 := Lib.hid hF1
        generalize hf1 : F1.length = f1 at *
        have HF1 := Lib.hid hf1
        clear hO hC hft hlt hk HO hF1 hf1
        obtain ⟨w3, hw3⟩ : ∃ w3, w3 = wr := ⟨_, rfl⟩
        subst hw3
        go_wp2_with fail
        go_loopw [10, 44] (fun ev i w' => ∃ k : Nat, k ≤ m ∧ i = .int .i64 k ∧ w'.ownsRow w3.heap.size 41 2 ev ((E.take k).filter P2).length (flatE ((E.take k).filter P2)) ∧ NewW w3 w') (fun _ i _ => m - (intOf i).toNat)
        case atStart => exact ⟨0, by omega, rfl, ⟨by simp [flatE], .inl ⟨by simp, by simp⟩⟩, Ch.refl _ _⟩
        case round =>
          obtain ⟨k, hk, rfl, hO, hC⟩ := hrel
          obtain ⟨A8, q8, rfl⟩ := own_form hO
          have HO := Lib.hid hO
          have HC2 := Lib.hid hC
          have hsz3 := hC.size
          by_cases hlt : k < m
          · obtain ⟨⟨a, t⟩, hx⟩ := some_of_lt (L := E) (i := k) (by rw [HE.out]; exact hlt)
            obtain ⟨g, rfl, x0, x1⟩ := pair_cells (by have := (HM3.out.new_ hC).oe; rw [HE.out] at this; exact this) HE.out (Ch.refl _ _) hx
            dsimp only at x0 x1
            have HF := Lib.hid (filt_step (P := P2) hx)
            have hfl : ((E.take k).filter P2).length ≤ 1000 := Nat.le_trans (List.length_filter_le _ _) (by rw [List.length_take]; omega)
            generalize hfn : (E.take k).filter P2 = F at *
            generalize hfl' : F.length = fl at *
            have HFL2 := Lib.hid hfl'
            have hcb : NewW wr (wr.alloc (.cells #[.int .i64 a, .int .i64 t] 41)) := (Ch.refl _ wr).alloc _
            have HOB := Lib.hid (own_ch hO hcb (fun _ _ h => h))
            have HCB := Lib.hid (hC.trans' hcb)
            have hpe : P2 (a, t) = (a != id && t != id) := by rw [← HP2.out]
            by_cases hai : a = id
            · have d : (a != id) = false := by simp [hai]
              have d' : decide (a = id) = true := by simp [hai]
              have hp : P2 (a, t) = false := by rw [hpe, d]; rfl
              rw [hp] at HF
              clear hO hC hx hai hfn hfl' hp hcb hpe
              go_wp2_with fail
              refine ⟨⟨k + 1, by omega, by go_num, ?_, HCB.out⟩, by simp [intOf]; omega⟩
              rw [HF.out]
              simp only [Bool.false_eq_true, if_false, List.append_nil]
              rw [HFL2.out]
              exact HOB.out
            · have d : (a != id) = true := by simp [hai]
              have d' : decide (a = id) = false := by simp [hai]
              by_cases hti : t = id
              · have d2 : (t != id) = false := by simp [hti]
                have d2' : decide (t = id) = true := by simp [hti]
                have hp : P2 (a, t) = false := by rw [hpe, d, d2]; rfl
                rw [hp] at HF
                clear hO hC hx hai hti hfn hfl' hp hcb hpe
                go_wp2_with fail
                refine ⟨⟨k + 1, by omega, by go_num, ?_, HCB.out⟩, by simp [intOf]; omega⟩
                rw [HF.out]
                simp only [Bool.false_eq_true, if_false, List.append_nil]
                rw [HFL2.out]
                exact HOB.out
              · have d2 : (t != id) = true := by simp [hti]
                have d2' : decide (t = id) = false := by simp [hti]
                have hp : P2 (a, t) = true := by rw [hpe, d, d2]; rfl
                rw [hp] at HF
                clear hO hC hx hai hti hfn hfl' hp hcb hpe
                go_wp2_with (first
                  | (at_builtin
                     refine wpList_append_any _ rfl (.tmp 58) (.tmp 60) _ rfl w3.heap.size 41 i1 _ 2 16 Tryd.underlying23 hi1 hy0 hy1 hy2 rfl (by omega) _ fl (flatE F) rfl
                       (own_ch HO.out (((Ch.refl (fun _ => False) _).alloc _).alloc _) (fun _ _ h => h)) (wr.heap.size + 1 + 1) (some ⟨wr.heap.size + 1, 0, none⟩) 1 1 [.int .i64 a, .int .i64 t] rfl (by
                         have := reads_new (wr.alloc (.cells #[.int .i64 a, .int .i64 t] 41)) 41 #[.int .i64 a, .int .i64 t] 1 2 rfl
                         simpa using this) (by simp [Value.oneCell']) (by simp only [maxLen]; omega) (by omega) (by simp; omega) ?_
                     intro v8 w8 hown8 hg8 hat8
                     have HO8 := Lib.hid hown8
                     have HG8 := Lib.hid hg8
                     clear hown8 hg8 hat8))
                refine ⟨⟨k + 1, by omega, by go_num, ?_, (((HC2.out : Ch (fun _ => False) w3 wr).alloc _).alloc _).grown HG8.out (fun g hg => .inr (own_lt HO.out hg).1)⟩, by simp [intOf]; omega⟩
                rw [HF.out, if_pos rfl, flatE_snoc, List.length_append, HFL2.out]
                exact HO8.out
          · obtain rfl : m = k := by omega
            have hft : (E.take m).filter P2 = E.filter P2 := by rw [← HE.out, List.take_length]
            rw [hft] at hO ⊢
            have HOE := Lib.hid hO
            have HON2 := Lib.hid (own_ch HON.out hC (fun _ _ h => h))
            have hM4 := HM3.out.new_ hC
            have f0 := hM4.blk.frozen 0
            have f1_ := hM4.blk.frozen 1
            have c0' := hM4.c0
            have c1' := hM4.c1
            have HM4 := Lib.hid hM4
            have HN4 := Lib.hid ((HN2.out.trans' HC.out).trans' hC)
            obtain ⟨F2, hF2⟩ : ∃ F, E.filter P2 = F := ⟨_, rfl⟩
            have HFL2 := Lib.hid (show F2.length ≤ 1000 from by rw [← hF2]; exact Nat.le_trans (List.length_filter_le _ _) (by rw [HE.out]; exact h1k))
            rw [hF2] at HOE ⊢
            have HFN2 := Lib.hid hF2
            generalize hf2 : F2.length = f2 at *
            have HF2 := Lib.hid hf2
            clear hO hC hft hlt hk HO hF2 hf2 hM4
            go_wp2_with fail
            go_ret
            have hch : Ch (Foot rb (.slice An n qn) (.slice Ae m qe)) w ((wr.setCell ⟨rb, 0, none⟩ (.slice A7 f1 q7)).setCell ⟨rb, 1, none⟩ (.slice A8 f2 q8)) :=
              ((HN4.out.mono (fun _ h => h.elim)).setCell (p := ⟨rb, 0, none⟩) (.inl (.inl rfl)) _).setCell (p := ⟨rb, 1, none⟩) (.inl (.inl rfl)) _
            obtain ⟨g1, g2⟩ := rg_frame HM.out HH.out.below hch
            have hbk : Blk ((wr.setCell ⟨rb, 0, none⟩ (.slice A7 f1 q7)).setCell ⟨rb, 1, none⟩ (.slice A8 f2 q8)) rb 47 #[.slice A7 f1 q7, .slice A8 f2 q8] := by
              have := (HM4.out.blk.set_ 0 (.slice A7 f1 q7)).set_ 1 (.slice A8 f2 q8)
              simpa using this
            refine ⟨rfl, ⟨⟨_, _, hbk, ?_, ?_, HM.out.bB, by rw [HFN1.out, HF1.out]; exact HFL.out, by rw [HFN2.out, HF2.out]; exact HFL2.out⟩, g1⟩, g2⟩
            · rw [HFN1.out, HF1.out]
              have hb0 := HM4.out.blk
              have h1 := own_set_far HON2.out (a := ⟨rb, 0, none⟩) (fun e => own_blk_ne HON2.out hb0 (by decide) e) (.slice A7 f1 q7)
              have h2 := own_set_far h1 (a := ⟨rb, 1, none⟩) (fun e => own_blk_ne h1 (hb0.set_ 0 _) (by decide) e) (.slice A8 f2 q8)
              exact own_mono h2 (Nat.le_trans hszw HN2.out.size)
            · rw [HFN2.out, HF2.out]
              have hb0 := HM4.out.blk
              have h1 := own_set_far HOE.out (a := ⟨rb, 0, none⟩) (fun e => own_blk_ne HOE.out hb0 (by decide) e) (.slice A7 f1 q7)
              have h2 := own_set_far h1 (a := ⟨rb, 1, none⟩) (fun e => own_blk_ne h1 (hb0.set_ 0 _) (by decide) e) (.slice A8 f2 q8)
              exact own_mono h2 (Nat.le_trans hszw (Nat.le_trans HN2.out.size HC.out.size))
end
end Go.Proofs.YtfcdplfnhjbdnabDoor
