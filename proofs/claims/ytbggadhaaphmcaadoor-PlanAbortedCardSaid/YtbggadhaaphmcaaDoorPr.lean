/- PlanRuns: the law's walk. -/
import Derived.Test.YtbggadhaaphmcaaDoorKc
namespace Go.Proofs.YtbggadhaaphmcaaDoor
open Go.Lib Go.RowKit
set_option linter.unusedVariables false

theorem key_small {ps : List (List OpD)} {k j : Nat} {p : List OpD} {o : OpD} (h : fewB ps = true) (hp : ps[k]? = some p) (ho : p[j]? = some o) : o.key.size ≤ 1000 := by
  unfold fewB at h
  simp only [Bool.and_eq_true, List.all_eq_true] at h
  have h1 := h.1 p (mem_of_some hp)
  unfold okP at h1
  simp only [Bool.and_eq_true, List.all_eq_true] at h1
  have h2 := h1.2 o (mem_of_some ho)
  unfold okO at h2
  simp at h2
  omega
theorem few_len {ps : List (List OpD)} (h : fewB ps = true) : ps.length ≤ 20 := by
  unfold fewB at h
  simp only [Bool.and_eq_true, decide_eq_true_eq] at h
  exact h.2
theorem part_len {ps : List (List OpD)} {k : Nat} {p : List OpD} (h : fewB ps = true) (hp : ps[k]? = some p) : p.length ≤ 30 := by
  unfold fewB at h
  simp only [Bool.and_eq_true, List.all_eq_true] at h
  have h1 := h.1 p (mem_of_some hp)
  unfold okP at h1
  simp at h1
  omega
set_option maxRecDepth 100000 in
set_option maxHeartbeats 8000000 in
theorem runs_walk (A : Option Addr) (n c : Nat) (ps : List (List OpD)) (w : World) (hE : Env w) (hP : Plans w A n ps) :
    Calls Tryd.prog 3 #[.slice A n c] w fun e w' => e = .returned (.bool true) ∧ Below w.heap.size w w' := by
  have HFX := Lib.hid (fixed_any hE)
  have HE := Lib.hid hE
  have H := Lib.hid hP
  have HL := Lib.hid hP.1
  clear hE hP
  go_enter Tryd.func3, Tryd.ntmps3
  go_wp2_with fail
  refine HFX.out.mono ?_
  rintro e w1 ⟨rfl, hb⟩
  dsimp only
  have HB1 := Lib.hid hb
  have HFE := Lib.hid (few_any (c := c) (H.out.below hb))
  clear hb HFX
  obtain ⟨R, hR⟩ : ∃ R, fewB ps = R := ⟨_, rfl⟩
  have HR := Lib.hid hR
  rw [hR] at HFE
  clear hR
  go_wp2_with fail
  refine HFE.out.mono ?_
  rintro e w2 ⟨rfl, hN⟩
  dsimp only
  have HB2 := Lib.hid (show Below w.heap.size w w2 from Ch.below HB1.out hN (fun _ h => h.elim) HB1.out.size)
  clear hN HFE HB1
  cases R
  · go_wp2_with fail
    go_ret
    exact ⟨rfl, HB2.out⟩
  have HNE := Lib.hid (km_new w w2 HB2.out)
  go_wp2_with fail
  refine HNE.out.mono ?_
  rintro e w3 ⟨rfl, hk, hN⟩
  dsimp only
  have hI : RI w (w3.alloc (.cells #[.slice none 0 0] 30)) (w2.heap.size + 1) w3.heap.size 0 none0 :=
    ⟨hk.new_ ((Ch.refl (fun _ => False) w3).alloc _), ⟨[], kf_new w w3 hk.below, sorted_nil, by simp⟩, sm_zero⟩
  have HI := Lib.hid hI
  have hn20 : (n : Int) ≤ 20 := by have := few_len HR.out; rw [HL.out] at this; omega
  clear hk hN HNE hI
  generalize w2.heap.size + 1 = pb at *
  go_wp2_with fail
  generalize w3.heap.size = rb at *
  go_loopw [26] (fun i wr => ∃ k : Nat, k ≤ n ∧ i = .int .i64 k ∧ ∃ f, RI w wr pb rb k f) (fun i _ => n - (intOf i).toNat)
  case atStart => exact ⟨0, by omega, rfl, none0, HI.out⟩
  case round =>
    obtain ⟨k, hk, rfl, f, hI⟩ := hrel
    have HI := Lib.hid hI
    clear hI
    by_cases hlt : k < n
    · obtain ⟨p, hp⟩ := some_of_lt (show k < ps.length by rw [HL.out]; exact hlt)
      have hlen30 := part_len HR.out hp
      have HKS := Lib.hid (fun (j : Nat) (o : OpD) (ho : p[j]? = some o) => key_small HR.out hp ho)
      obtain ⟨b, off, rfl, ⟨A2, c2, x0, hO⟩, _⟩ := H.out.at_ hp
      replace x0 := (HI.out.km.below.cell (p := ⟨b, off + k, none⟩) (block_lt_of_cell x0)).trans x0
      have HO := Lib.hid hO
      have HPL := Lib.hid (show p.length = p.length from rfl)
      have HRA := Lib.hid (Right_any (c := c2) (hO.below HI.out.km.below))
      have HRR := Lib.hid (fun w' (hb : Below w.heap.size w w') => Right_ref (c := c2) (hO.below hb))
      obtain ⟨E, hE⟩ : ∃ E, rightE p = E := ⟨_, rfl⟩
      rw [hE] at HRA HRR
      have hee : (E != E) = false := by simp
      have hm30 : (p.length : Int) ≤ 30 := by omega
      have hk20 : k < 20 := by omega
      clear hp hO hE hlen30
      obtain ⟨m, hm⟩ : ∃ m, p.length = m := ⟨_, rfl⟩
      have HM := Lib.hid hm
      rw [hm] at x0 HO HRA HRR hm30
      clear hm
      go_wp2_with fail
      refine HRA.out.mono ?_
      rintro e w4 ⟨rfl, hN⟩
      dsimp only
      have HI4 := Lib.hid (HI.out.new_ hN)
      clear hN HRA
      go_wp2_with fail
      refine (HRR.out _ HI4.out.km.below).mono ?_
      rintro e w5 ⟨rfl, hN⟩
      dsimp only
      have HI5 := Lib.hid (HI4.out.new_ hN)
      clear hN HRR HI4 x0
      have HRU := Lib.hid (Run_any (c := c2) HI5.out.km (by omega) (HE.out.below HI5.out.km.below) HI5.out.sm (HO.out.below HI5.out.km.below))
      go_wp2_with fail
      refine HRU.out.mono ?_
      rintro e w6 ⟨⟨A3, c3, rfl, hr3⟩, hk6, hc6⟩
      dsimp only
      obtain ⟨L, hf5, hs5, hl5⟩ := HI5.out.kf
      obtain ⟨cs5, hb5⟩ := HI5.out.km.blk
      have hf6 := hf5.other hb5 HI5.out.km.pB hc6
      obtain ⟨cs6, hb6⟩ := hf6.blk
      have HK6 := Lib.hid hk6
      have HR3 := Lib.hid hr3
      have HB6 := Lib.hid hb6
      have HF6 := Lib.hid hf6
      have HRQ := Lib.hid (Run_ref (c := c2) hf6 hs5 hl5 (by omega) HI5.out.sm (HO.out.below hk6.below))
      have HSM := Lib.hid (sm_run HI5.out.sm p)
      have HGL := Lib.hid (runO_le f p)
      clear hf5 hs5 hl5 hb5 hf6 hb6 hr3 hk6 hc6 HRU HI5
      go_wp2_with fail
      refine HRQ.out.mono ?_
      rintro e w7 ⟨⟨A4, c4, rfl, hr4⟩, ⟨L7, hf7, hs7, hl7⟩, hc7⟩
      dsimp only
      have HK7 := Lib.hid (HK6.out.other HB6.out HF6.out.rB hc7)
      have HR37 := Lib.hid (own_ch HR3.out hc7 (fun g hg e => by subst e; exact own_blk_ne HR3.out HB6.out (by decide) hg))
      have HR47 := Lib.hid hr4
      have HS7 := Lib.hid hs7
      have HL7 := Lib.hid hl7
      have HF7 := Lib.hid hf7
      clear hr4 hf7 hs7 hl7 hc7 HRQ HK6 HR3 HB6 HF6
      obtain ⟨vv, hm7⟩ := HF7.out.fm
      obtain ⟨A5, q5, rfl⟩ := own_form hm7.row
      have HM7 := Lib.hid hm7
      clear hm7
      have HSR := Lib.hid (fun w' (hc : NewW w7 w') => sres_same HR37.out HR47.out HGL.out hc)
      have HAL := Lib.hid (fun w' (hc : NewW w7 w') => all_same HK7.out (by omega) HS7.out hc)
      have HSW := Lib.hid (fun w1 w' A c (h1 : Wrs w1 A L7.length L7) (hc1 : NewW w1 w') (hc : NewW w7 w') => swr_same (A1 := A) h1 HM7.out.row (by have := HL7.out; omega) c hc1 hc)
      have HRB := Lib.hid (fun w' (hc : NewW w7 w') => (HM7.out.new_ hc).c0)
      obtain ⟨G, hG⟩ : ∃ G, goodB p = G := ⟨_, rfl⟩
      rw [hG]
      have hgg : (G != G) = false := by simp
      generalize (runO f p).length = l3 at HSR ⊢
      clear hG
      go_upto_region 13 with (fail)
      go_cut [65] (fun s65 wx => s65 = .bool false ∧ NewW w7 wx)
      case first =>
        have l0 := HRB.out w7 (Ch.refl _ _)
        go_region_held3 (fun w' => w'.cell? ⟨rb, 0, none⟩ = some (.slice A5 L7.length q5)) (exact HRB.out _ (show Ch (fun _ => False) _ _ from by repeat (first | with_reducible exact hQc | with_reducible exact hQb | with_reducible exact hQa | with_reducible exact Ch.refl _ _ | with_reducible refine Ch.drew ?_ | with_reducible refine Ch.drewN ?_ _)))
          (first
            | (go_at_call 20; refine (HSR.out _ (show Ch (fun _ => False) _ _ from by repeat (first | with_reducible exact hQc | with_reducible exact hQb | with_reducible exact hQa | with_reducible exact Ch.refl _ _ | with_reducible refine Ch.drew ?_ | with_reducible refine Ch.drewN ?_ _))).mono ?_; rintro e wa ⟨rfl, hNa⟩; have hQa : Ch (fun _ => False) w7 wa := Ch.trans' (show Ch (fun _ => False) _ _ from by repeat (first | with_reducible exact hQc | with_reducible exact hQb | with_reducible exact hQa | with_reducible exact Ch.refl _ _ | with_reducible refine Ch.drew ?_ | with_reducible refine Ch.drewN ?_ _)) hNa)
            | (go_at_call 22; refine (HAL.out _ (show Ch (fun _ => False) _ _ from by repeat (first | with_reducible exact hQc | with_reducible exact hQb | with_reducible exact hQa | with_reducible exact Ch.refl _ _ | with_reducible refine Ch.drew ?_ | with_reducible refine Ch.drewN ?_ _))).mono ?_; rintro e wb ⟨A6, c6, rfl, hW, hNb⟩; have hQb : Ch (fun _ => False) w7 wb := Ch.trans' (show Ch (fun _ => False) _ _ from by repeat (first | with_reducible exact hQc | with_reducible exact hQb | with_reducible exact hQa | with_reducible exact Ch.refl _ _ | with_reducible refine Ch.drew ?_ | with_reducible refine Ch.drewN ?_ _)) hNb)
            | (go_at_call 21; refine (HSW.out _ _ _ _ hW (show Ch (fun _ => False) _ _ from by repeat (first | with_reducible exact Ch.refl _ _ | with_reducible refine Ch.drew ?_ | with_reducible refine Ch.drewN ?_ _)) (show Ch (fun _ => False) _ _ from by repeat (first | with_reducible exact hQc | with_reducible exact hQb | with_reducible exact hQa | with_reducible exact Ch.refl _ _ | with_reducible refine Ch.drew ?_ | with_reducible refine Ch.drewN ?_ _))).mono ?_; rintro e wd ⟨rfl, hNd⟩; have hQc : Ch (fun _ => False) w7 wd := Ch.trans' (show Ch (fun _ => False) _ _ from by repeat (first | with_reducible exact hQc | with_reducible exact hQb | with_reducible exact hQa | with_reducible exact Ch.refl _ _ | with_reducible refine Ch.drew ?_ | with_reducible refine Ch.drewN ?_ _)) hNd))
        all_goals
          go_wp2_with fail
          go_meet
          exact ⟨rfl, hQc⟩
      case rest =>
        obtain ⟨rfl, hQ⟩ := hcut
        obtain ⟨wx, rfl⟩ : ∃ wx : World, wx = wc := ⟨_, rfl⟩
        obtain ⟨f2, hI8⟩ : ∃ f2, RI w wx pb rb (k + 1) f2 := ⟨_, HK7.out.new_ hQ, ⟨L7, HF7.out.new_ hQ, HS7.out, by have := HL7.out; omega⟩, HSM.out⟩
        have HI8 := Lib.hid hI8
        clear hI8 hQ HRB HSW HAL HSR HM7 HF7 HL7 HS7 HR47 HR37 HK7 HGL HSM HI
        go_wp2_with fail
        go_loopw [68] (fun i wr => ∃ j : Nat, j ≤ m ∧ i = .int .i64 j ∧ RI w wr pb rb (k + 1) f2) (fun i _ => m - (intOf i).toNat)
        case atStart => exact ⟨0, by omega, rfl, HI8.out⟩
        case round =>
          obtain ⟨j, hj, rfl, hI⟩ := hrel
          have HI9 := Lib.hid hI
          clear hI HI8
          by_cases hjm : j < m
          · obtain ⟨o, ho⟩ := some_of_lt (show j < p.length by rw [HM.out]; exact hjm)
            have hks := HKS.out j o ho
            obtain ⟨b2, off2, rfl, y0, y1, y2, y3⟩ := (HO.out.below HI9.out.km.below).at_ ho
            obtain ⟨K, key, val, N⟩ := o
            dsimp only at y0 y1 y2 y3 hks
            have HBX := Lib.hid (Blk.new wr 41 #[.int .i64 K, .string key, .string val, .int .i64 N])
            have HI10 := Lib.hid (HI9.out.new_ ((Ch.refl (fun _ => False) wr).alloc (.cells #[.int .i64 K, .string key, .string val, .int .i64 N] 41)))
            have HG := Lib.hid (get_any (key := key) HI10.out.km hks)
            have HGR := Lib.hid (fun w' hc => getr_ri (w2 := w') HI10.out (by omega) hc key)
            obtain ⟨V, hV⟩ : ∃ V, vOf (f2 key.data.toList) = V := ⟨_, rfl⟩
            obtain ⟨B, hB⟩ : ∃ B, hOf (f2 key.data.toList) = B := ⟨_, rfl⟩
            rw [hV, hB] at HG HGR
            have e1 : (V.toList == V.toList) = true := by simp
            have e2 : (B != B) = false := by simp
            clear ho hks hV hB
            go_wp2_with fail
            refine HG.out.mono ?_
            rintro e wa ⟨rfl, hN⟩
            dsimp only
            have z0 := (HBX.out.ch hN (fun h => h)).cell 0
            have z1 := (HBX.out.ch hN (fun h => h)).cell 1
            have HNA := Lib.hid hN
            have HI11 := Lib.hid (HI10.out.new_ hN)
            clear hN HG y0 y1 y2 y3
            go_wp2_with fail
            refine (HGR.out _ HNA.out).mono ?_
            rintro e wb ⟨rfl, hN⟩
            dsimp only
            have HI12 := Lib.hid (HI11.out.new_ (hN.alloc (.cells #[.string V, .bool B] 45)))
            clear hN HGR z0 z1 HBX
            go_wp2_with fail
            exact ⟨⟨j + 1, by omega, by go_num, HI12.out⟩, by simp [intOf]; omega⟩
          · obtain rfl : j = m := by omega
            clear hjm
            go_wp2_with fail
            exact ⟨⟨k + 1, by omega, by go_num, _, HI9.out⟩, by simp [intOf]; omega⟩
    · obtain rfl : k = n := by omega
      clear hlt hk
      have HB := Lib.hid HI.out.km.below
      go_wp2_with fail
      go_ret
      exact ⟨rfl, HB.out⟩
end Go.Proofs.YtbggadhaaphmcaaDoor
