/- The walk of SessionPlays. -/
import Derived.Test.YtekibpfpkbgjkacTwo
import Derived.Test.YtekibpfpkbgjkacOn
import Derived.Test.YtekibpfpkbgjkacLibArgs
import Derived.Deep.RegionHeld3
import Derived.Deep.DeepCutAuto
import Derived.OpenShut
namespace Go.Proofs.Ytekibpfpkbgjkac
open Go.RowKit
set_option linter.unusedVariables false

def PlR (w0 : World) (b r : Nat) (win : Int) (k : Nat) (wr : World) : Prop :=
  ∃ (sum : Int) (P : List PS) (R : List RS), Two w0 b r win sum sum P R wr ∧ Fine win sum P k ∧ Rel win P R
theorem Two.drew {w0 w : World} {b r : Nat} {win psum rsum : Int} {P : List PS} {R : List RS} (h : Two w0 b r win psum rsum P R w) : Two w0 b r win psum rsum P R w.drew := h.drewN 1

set_option maxRecDepth 100000 in
set_option maxHeartbeats 8000000 in
theorem plays_walk (win : Int) (A : Option Addr) (n cc : Nat) (w : World) (hA : Acts w A n) :
    Calls Try.prog 3 #[.int .i64 win, .slice A n cc] w fun e w' => e = .returned (.bool true) ∧ Below w.heap.size w w' := by
  have hml : (n : Int) ≤ 9223372036854775807 := by have := hA.1; unfold maxLen at this; omega
  have HA := Lib.hid hA; clear hA
  by_cases hn : n ≤ 100
  · by_cases hw : win < 1 ∨ 64 < win
    · have HN := Lib.hid (new_out win hw)
      by_cases h1 : win < 1
      · clear hw
        go_enter Try.func3, Try.ntmps3
        go_wp2_with fail
        with_reducible refine (fixed_true _).mono ?_
        rintro e W1 ⟨rfl, b1⟩
        go_wp2_with fail
        with_reducible refine (HN.out _).mono ?_
        rintro e W2 ⟨rfl, rfl⟩
        go_wp2_with fail
        go_ret
        exact ⟨rfl, b1⟩
      · have h2 : 64 < win := by omega
        clear hw
        go_enter Try.func3, Try.ntmps3
        go_wp2_with fail
        with_reducible refine (fixed_true _).mono ?_
        rintro e W1 ⟨rfl, b1⟩
        go_wp2_with fail
        with_reducible refine (HN.out _).mono ?_
        rintro e W2 ⟨rfl, rfl⟩
        go_wp2_with fail
        go_ret
        exact ⟨rfl, b1⟩
    · have w0 : 1 ≤ win := by omega
      have w1 : win ≤ 64 := by omega
      clear hw
      go_enter Try.func3, Try.ntmps3
      go_wp2_with fail
      with_reducible refine (fixed_true _).mono ?_
      rintro e W1 ⟨rfl, b1⟩
      go_wp2_with fail
      with_reducible refine (new_in win w0 w1 _).mono ?_
      rintro e W2 ⟨rfl, hW2⟩
      have HP := Lib.hid (show Two w W1.heap.size W2.heap.size win 0 0 [] [] (W2.alloc (.cells #[.int .i64 win, .int .i64 0, .slice none 0 0] 29)) by
        have hb2 : Below w.heap.size w W2 := by rw [hW2]; exact b1.alloc b1.size _
        refine ⟨.slice none 0 0, .slice none 0 0, ⟨?_, World.ownsRow_nil _ _ _ _, by simp⟩, ⟨Blk.new _ _ _, World.ownsRow_nil _ _ _ _, by simp, fun i j si sj _ h => by simp at h, hb2.size⟩, hb2.alloc hb2.size _, b1.size⟩
        rw [hW2]
        exact (Blk.new _ _ _).alloc _)
      clear hW2 b1
      generalize W1.heap.size = b at *
      go_wp2_with fail
      generalize W2.alloc (.cells #[.int .i64 win, .int .i64 0, .slice none 0 0] 29) = W3 at *
      generalize W2.heap.size = r at *
      go_loopw [34] (fun i wr => ∃ k : Nat, k ≤ n ∧ i = .int .i64 k ∧ PlR w b r win k wr) (fun i _ => n - (intOf i).toNat)
      case atStart => exact ⟨0, Nat.zero_le _, rfl, 0, [], [], HP.out, fine_new win w0 w1, rel_nil win⟩
      case round =>
        clear HP
        obtain ⟨k, hk, rfl, sum, P, R, htwo, hfin, hrl⟩ := hrel
        by_cases hlt : k < n
        · obtain ⟨_, hac⟩ := HA.out
          obtain ⟨b0, off, rfl, hblt, hc⟩ := hac (by omega)
          obtain ⟨KD, S, Q, M, hK0, hK1, wS, wQ, wM, a0, a1, a2, a3⟩ := hc k hlt
          have hbw := htwo.below
          have k0 := (hbw.cell (p := ⟨b0, off + k * 4, none⟩) hblt).trans a0
          have k1 := (hbw.cell (p := ⟨b0, off + k * 4 + 1, none⟩) hblt).trans a1
          have k2 := (hbw.cell (p := ⟨b0, off + k * 4 + 2, none⟩) hblt).trans a2
          have k3 := (hbw.cell (p := ⟨b0, off + k * 4 + 3, none⟩) hblt).trans a3
          have hk1 : (k : Int) + 1 ≤ 1000 := by omega
          have HOR := Lib.hid (htwo.box #[.int .u8 KD, .int .i64 S, .int .i64 Q, .int .i64 M] 31); clear htwo
          have HFP := Lib.hid hfin; clear hfin
          have HRP := Lib.hid hrl; clear hrl
          have hbx := Blk.new wr 31 #[.int .u8 KD, .int .i64 S, .int .i64 Q, .int .i64 M]
          clear hac hc a0 a1 a2 a3 wS wQ wM hbw
          by_cases z0 : KD % 5 = 0
          · go_wp2_with fail
            generalize wr.alloc (.cells #[.int .u8 KD, .int .i64 S, .int .i64 Q, .int .i64 M] 31) = w4 at *
            generalize wr.heap.size = ab at *
            by_cases hf : P.length < 64
            · have HC2 := Lib.hid (fun w' (h : Two w b r win sum sum (P ++ [fresh]) R w') => by have := two_open_r h (by have := HRP.out.len; omega); rw [← HRP.out.len] at this; exact this)
              with_reducible refine (two_open_p HOR.out hf).mono ?_
              rintro e w6 ⟨rfl, ht6, hk6⟩
              have H6 := Lib.hid ht6; clear ht6
              have hb6 := hk6 _ _ hbx; clear hk6
              go_wp2_with fail
              with_reducible refine (HC2.out _ H6.out).mono ?_
              rintro e w7 ⟨rfl, ht7, hk7⟩
              have HT := Lib.hid ht7; clear ht7
              have HBX := Lib.hid (hk7 _ _ hb6); clear hk7 hb6
              have HRl := Lib.hid (rel_open HRP.out)
              have HFI := Lib.hid (show Fine win sum (P ++ [fresh]) ((k + 1 : Nat) : Int) from (fine_open HFP.out hf).mono (by omega) (by omega))
              generalize (P.length : Int) = pl at *
              generalize P ++ [fresh] = P' at *
              generalize R ++ [rfresh] = R' at *
              clear H6 HOR HC2 HRP HFP hbx
              go_wp2_with fail
              have S1 := Lib.hid (fun n => two_sum (HT.out.drewN n))
              have S2 := Lib.hid (fun n => by have := two_sessions (HT.out.drewN n); rw [HRl.out.len] at this; exact this)
              obtain ⟨A', c', q1, q2, q3⟩ := HT.out.cells
              have hRl := HFI.out.len
              rw [HRl.out.len] at hRl
              have d1 := HBX.out.cell 1
              simp at d1
              go_quiet ((first | (go_at_call 16; exact quiet_left (S1.out _)) | (go_at_call 17; exact quiet_left (S2.out _))))
              clear S1 S2 q1
              by_cases hS : S < 0 ∨ R'.length ≤ S
              · have hnx : nextR P' S = 0 := by unfold nextR; rw [if_pos (by have := HRl.out.len; omega)]
                have HNX := Lib.hid hnx; clear hnx q3
                by_cases hS0 : S < 0
                · have hS1 : decide (0 ≤ S) = false := by rw [decide_eq_false_iff_not]; omega
                  clear hS
                  go_wp2_with fail
                  go_quiet (fail)
                  go_wp2_with fail
                  with_reducible refine (two_next HNX.out (HT.out.drewN _)).mono ?_
                  rintro e W9 ⟨rfl, rfl⟩
                  go_wp2_with fail
                  go_roundw
                  case rel => exact ⟨k + 1, by omega, by go_num, _, _, _, HT.out.drewN _, HFI.out, HRl.out⟩
                  case measure => simp [intOf]; omega
                · have hS1 : 0 ≤ S := by omega
                  have hS2 : ¬ S < R'.length := by omega
                  clear hS
                  go_wp2_with fail
                  go_quiet (fail)
                  go_wp2_with fail
                  with_reducible refine (two_next HNX.out (HT.out.drewN _)).mono ?_
                  rintro e W9 ⟨rfl, rfl⟩
                  go_wp2_with fail
                  go_roundw
                  case rel => exact ⟨k + 1, by omega, by go_num, _, _, _, HT.out.drewN _, HFI.out, HRl.out⟩
                  case measure => simp [intOf]; omega
              · obtain ⟨J, rfl⟩ := Int.eq_ofNat_of_zero_le (show 0 ≤ S by omega)
                obtain ⟨s, hs⟩ := some_of_lt (show J < R'.length by omega)
                have hltJ := lt_of_some hs
                have hltI : (J : Int) < (R'.length : Int) := by omega
                have HNX := Lib.hid (rel_next HRl.out J hs)
                have hsl := rel_len HRl.out HFI.out s (mem_of_some hs)
                obtain ⟨lb, A2, c2, rfl, q4⟩ := q3 J s hs
                have ew : IntKind.i64.wrap ((s.ans.length : Int) + 1) = (s.ans.length : Int) + 1 := IntWalk.i64_in _ (by omega)
                clear q3 hs hS
                go_wp2_with fail
                go_quiet (fail)
                go_wp2_with fail
                go_quiet (fail)
                go_wp2_with fail
                with_reducible refine (two_next HNX.out (HT.out.drewN _)).mono ?_
                rintro e W9 ⟨rfl, rfl⟩
                go_wp2_with fail
                go_roundw
                case rel => exact ⟨k + 1, by omega, by go_num, _, _, _, HT.out.drewN _, HFI.out, HRl.out⟩
                case measure => simp [intOf]; omega
            · have HC2 := Lib.hid (two_full_r HOR.out (by have := HRP.out.len; omega))
              with_reducible refine (two_full_p HOR.out (by omega)).mono ?_
              rintro e w6 ⟨rfl, rfl⟩
              go_wp2_with fail
              with_reducible refine HC2.out.mono ?_
              rintro e w7 ⟨rfl, rfl⟩
              have HT := HOR
              have HBX := Lib.hid hbx
              have HRl := HRP
              have HFI := Lib.hid (show Fine win sum P ((k + 1 : Nat) : Int) from HFP.out.mono (by omega) (by omega))
              clear HOR HC2 HRP HFP hbx hf
              generalize P = P' at *
              generalize R = R' at *
              go_wp2_with fail
              have S1 := Lib.hid (fun n => two_sum (HT.out.drewN n))
              have S2 := Lib.hid (fun n => by have := two_sessions (HT.out.drewN n); rw [HRl.out.len] at this; exact this)
              obtain ⟨A', c', q1, q2, q3⟩ := HT.out.cells
              have hRl := HFI.out.len
              rw [HRl.out.len] at hRl
              have d1 := HBX.out.cell 1
              simp at d1
              go_quiet ((first | (go_at_call 16; exact quiet_left (S1.out _)) | (go_at_call 17; exact quiet_left (S2.out _))))
              clear S1 S2 q1
              by_cases hS : S < 0 ∨ R'.length ≤ S
              · have hnx : nextR P' S = 0 := by unfold nextR; rw [if_pos (by have := HRl.out.len; omega)]
                have HNX := Lib.hid hnx; clear hnx q3
                by_cases hS0 : S < 0
                · have hS1 : decide (0 ≤ S) = false := by rw [decide_eq_false_iff_not]; omega
                  clear hS
                  go_wp2_with fail
                  go_quiet (fail)
                  go_wp2_with fail
                  with_reducible refine (two_next HNX.out (HT.out.drewN _)).mono ?_
                  rintro e W9 ⟨rfl, rfl⟩
                  go_wp2_with fail
                  go_roundw
                  case rel => exact ⟨k + 1, by omega, by go_num, _, _, _, HT.out.drewN _, HFI.out, HRl.out⟩
                  case measure => simp [intOf]; omega
                · have hS1 : 0 ≤ S := by omega
                  have hS2 : ¬ S < R'.length := by omega
                  clear hS
                  go_wp2_with fail
                  go_quiet (fail)
                  go_wp2_with fail
                  with_reducible refine (two_next HNX.out (HT.out.drewN _)).mono ?_
                  rintro e W9 ⟨rfl, rfl⟩
                  go_wp2_with fail
                  go_roundw
                  case rel => exact ⟨k + 1, by omega, by go_num, _, _, _, HT.out.drewN _, HFI.out, HRl.out⟩
                  case measure => simp [intOf]; omega
              · obtain ⟨J, rfl⟩ := Int.eq_ofNat_of_zero_le (show 0 ≤ S by omega)
                obtain ⟨s, hs⟩ := some_of_lt (show J < R'.length by omega)
                have hltJ := lt_of_some hs
                have hltI : (J : Int) < (R'.length : Int) := by omega
                have HNX := Lib.hid (rel_next HRl.out J hs)
                have hsl := rel_len HRl.out HFI.out s (mem_of_some hs)
                obtain ⟨lb, A2, c2, rfl, q4⟩ := q3 J s hs
                have ew : IntKind.i64.wrap ((s.ans.length : Int) + 1) = (s.ans.length : Int) + 1 := IntWalk.i64_in _ (by omega)
                clear q3 hs hS
                go_wp2_with fail
                go_quiet (fail)
                go_wp2_with fail
                go_quiet (fail)
                go_wp2_with fail
                with_reducible refine (two_next HNX.out (HT.out.drewN _)).mono ?_
                rintro e W9 ⟨rfl, rfl⟩
                go_wp2_with fail
                go_roundw
                case rel => exact ⟨k + 1, by omega, by go_num, _, _, _, HT.out.drewN _, HFI.out, HRl.out⟩
                case measure => simp [intOf]; omega
          by_cases z1 : KD % 5 = 1
          · go_wp2_with fail
            generalize wr.alloc (.cells #[.int .u8 KD, .int .i64 S, .int .i64 Q, .int .i64 M] 31) = w4 at *
            generalize wr.heap.size = ab at *
            have e1 := hbx.cell 1
            have e2 := hbx.cell 2
            have e3 := hbx.cell 3
            simp at e1 e2 e3
            have HC1 := Lib.hid (two_close_p S HOR.out.drew)
            obtain ⟨hce, hcl⟩ := rel_close HRP.out S
            have HC2 := Lib.hid (fun w' (h : Two w b r win sum sum (closeL P S) R w') => by have := two_close_r S h; rw [← hce] at this; exact this)
            have HRl := Lib.hid hcl; clear hcl hce
            have HFI := Lib.hid (show Fine win sum (closeL P S) ((k + 1 : Nat) : Int) from (fine_close HFP.out S).mono (by omega) (by omega))
            generalize closeE P S = ce at *
            generalize closeL P S = P' at *
            generalize rcloseL R S = R' at *
            have hbxd := hbx.drew
            go_region_held3 (fun w' => w'.cell? ⟨ab, 1, none⟩ = some (.int .i64 S)) (first | exact e1 | exact e6 | exact e7)
              (first
                | (go_at_call 10; refine HC1.out.mono ?_; rintro e w6 ⟨rfl, ht6, hk6⟩; have hb6 := hk6 _ _ hbxd; have e6 := hb6.cell 1; simp at e6)
                | (go_at_call 11; refine (HC2.out _ ht6).mono ?_; rintro e w7 ⟨rfl, ht7, hk7⟩; have hb7 := hk7 _ _ hb6; have e7 := hb7.cell 1; simp at e7))
            have HT := Lib.hid ht7
            have HBX := Lib.hid hb7
            clear HC1 HC2 HOR HRP HFP ht6 hk6 hb6 e6 ht7 hk7 hb7 e7 hbx hbxd e1 e2 e3
            go_wp2_with fail
            have S1 := Lib.hid (fun n => two_sum (HT.out.drewN n))
            have S2 := Lib.hid (fun n => by have := two_sessions (HT.out.drewN n); rw [HRl.out.len] at this; exact this)
            obtain ⟨A', c', q1, q2, q3⟩ := HT.out.cells
            have hRl := HFI.out.len
            rw [HRl.out.len] at hRl
            have d1 := HBX.out.cell 1
            simp at d1
            go_quiet ((first | (go_at_call 16; exact quiet_left (S1.out _)) | (go_at_call 17; exact quiet_left (S2.out _))))
            clear S1 S2 q1
            by_cases hS : S < 0 ∨ R'.length ≤ S
            · have hnx : nextR P' S = 0 := by unfold nextR; rw [if_pos (by have := HRl.out.len; omega)]
              have HNX := Lib.hid hnx; clear hnx q3
              by_cases hS0 : S < 0
              · have hS1 : decide (0 ≤ S) = false := by rw [decide_eq_false_iff_not]; omega
                clear hS
                go_wp2_with fail
                go_quiet (fail)
                go_wp2_with fail
                with_reducible refine (two_next HNX.out (HT.out.drewN _)).mono ?_
                rintro e W9 ⟨rfl, rfl⟩
                go_wp2_with fail
                go_roundw
                case rel => exact ⟨k + 1, by omega, by go_num, _, _, _, HT.out.drewN _, HFI.out, HRl.out⟩
                case measure => simp [intOf]; omega
              · have hS1 : 0 ≤ S := by omega
                have hS2 : ¬ S < R'.length := by omega
                clear hS
                go_wp2_with fail
                go_quiet (fail)
                go_wp2_with fail
                with_reducible refine (two_next HNX.out (HT.out.drewN _)).mono ?_
                rintro e W9 ⟨rfl, rfl⟩
                go_wp2_with fail
                go_roundw
                case rel => exact ⟨k + 1, by omega, by go_num, _, _, _, HT.out.drewN _, HFI.out, HRl.out⟩
                case measure => simp [intOf]; omega
            · obtain ⟨J, rfl⟩ := Int.eq_ofNat_of_zero_le (show 0 ≤ S by omega)
              obtain ⟨s, hs⟩ := some_of_lt (show J < R'.length by omega)
              have hltJ := lt_of_some hs
              have hltI : (J : Int) < (R'.length : Int) := by omega
              have HNX := Lib.hid (rel_next HRl.out J hs)
              have hsl := rel_len HRl.out HFI.out s (mem_of_some hs)
              obtain ⟨lb, A2, c2, rfl, q4⟩ := q3 J s hs
              have ew : IntKind.i64.wrap ((s.ans.length : Int) + 1) = (s.ans.length : Int) + 1 := IntWalk.i64_in _ (by omega)
              clear q3 hs hS
              go_wp2_with fail
              go_quiet (fail)
              go_wp2_with fail
              go_quiet (fail)
              go_wp2_with fail
              with_reducible refine (two_next HNX.out (HT.out.drewN _)).mono ?_
              rintro e W9 ⟨rfl, rfl⟩
              go_wp2_with fail
              go_roundw
              case rel => exact ⟨k + 1, by omega, by go_num, _, _, _, HT.out.drewN _, HFI.out, HRl.out⟩
              case measure => simp [intOf]; omega
          by_cases z4 : KD % 5 = 4
          · go_wp2_with fail
            generalize wr.alloc (.cells #[.int .u8 KD, .int .i64 S, .int .i64 Q, .int .i64 M] 31) = w4 at *
            generalize wr.heap.size = ab at *
            have e1 := hbx.cell 1
            have e2 := hbx.cell 2
            have e3 := hbx.cell 3
            simp at e1 e2 e3
            have HC2 := Lib.hid (fun w' (h : Two w b r win sum sum P R w') => by have := two_ask_r S Q h w0 w1; rw [← rel_ask HRP.out S Q] at this; exact this)
            have HC1 := Lib.hid (two_ask_p k S Q HOR.out HFP.out)
            generalize (askR win P S Q).1 = ax at *
            generalize (askR win P S Q).2 = ae at *
            have HFI := Lib.hid (show Fine win sum P ((k + 1 : Nat) : Int) from HFP.out.mono (by omega) (by omega))
            with_reducible refine HC1.out.mono ?_
            rintro e w6 ⟨rfl, ht6, hk6⟩
            have H6 := Lib.hid ht6; clear ht6
            have hb6 := hk6 _ _ hbx; clear hk6
            have g1 := hb6.cell 1
            have g2 := hb6.cell 2
            simp at g1 g2
            go_wp2_with fail
            with_reducible refine (HC2.out _ H6.out).mono ?_
            rintro e w7 ⟨rfl, ht7, hk7⟩
            have HT := Lib.hid ht7; clear ht7
            have HBX := Lib.hid (hk7 _ _ hb6); clear hk7 hb6
            have HRl := HRP
            clear HC1 HC2 HOR HRP HFP H6 hbx e1 e2 e3 g1 g2
            generalize P = P' at *
            generalize R = R' at *
            go_wp2_with fail
            have S1 := Lib.hid (fun n => two_sum (HT.out.drewN n))
            have S2 := Lib.hid (fun n => by have := two_sessions (HT.out.drewN n); rw [HRl.out.len] at this; exact this)
            obtain ⟨A', c', q1, q2, q3⟩ := HT.out.cells
            have hRl := HFI.out.len
            rw [HRl.out.len] at hRl
            have d1 := HBX.out.cell 1
            simp at d1
            go_quiet ((first | (go_at_call 16; exact quiet_left (S1.out _)) | (go_at_call 17; exact quiet_left (S2.out _))))
            clear S1 S2 q1
            by_cases hS : S < 0 ∨ R'.length ≤ S
            · have hnx : nextR P' S = 0 := by unfold nextR; rw [if_pos (by have := HRl.out.len; omega)]
              have HNX := Lib.hid hnx; clear hnx q3
              by_cases hS0 : S < 0
              · have hS1 : decide (0 ≤ S) = false := by rw [decide_eq_false_iff_not]; omega
                clear hS
                go_wp2_with fail
                go_quiet (fail)
                go_wp2_with fail
                with_reducible refine (two_next HNX.out (HT.out.drewN _)).mono ?_
                rintro e W9 ⟨rfl, rfl⟩
                go_wp2_with fail
                go_roundw
                case rel => exact ⟨k + 1, by omega, by go_num, _, _, _, HT.out.drewN _, HFI.out, HRl.out⟩
                case measure => simp [intOf]; omega
              · have hS1 : 0 ≤ S := by omega
                have hS2 : ¬ S < R'.length := by omega
                clear hS
                go_wp2_with fail
                go_quiet (fail)
                go_wp2_with fail
                with_reducible refine (two_next HNX.out (HT.out.drewN _)).mono ?_
                rintro e W9 ⟨rfl, rfl⟩
                go_wp2_with fail
                go_roundw
                case rel => exact ⟨k + 1, by omega, by go_num, _, _, _, HT.out.drewN _, HFI.out, HRl.out⟩
                case measure => simp [intOf]; omega
            · obtain ⟨J, rfl⟩ := Int.eq_ofNat_of_zero_le (show 0 ≤ S by omega)
              obtain ⟨s, hs⟩ := some_of_lt (show J < R'.length by omega)
              have hltJ := lt_of_some hs
              have hltI : (J : Int) < (R'.length : Int) := by omega
              have HNX := Lib.hid (rel_next HRl.out J hs)
              have hsl := rel_len HRl.out HFI.out s (mem_of_some hs)
              obtain ⟨lb, A2, c2, rfl, q4⟩ := q3 J s hs
              have ew : IntKind.i64.wrap ((s.ans.length : Int) + 1) = (s.ans.length : Int) + 1 := IntWalk.i64_in _ (by omega)
              clear q3 hs hS
              go_wp2_with fail
              go_quiet (fail)
              go_wp2_with fail
              go_quiet (fail)
              go_wp2_with fail
              with_reducible refine (two_next HNX.out (HT.out.drewN _)).mono ?_
              rintro e W9 ⟨rfl, rfl⟩
              go_wp2_with fail
              go_roundw
              case rel => exact ⟨k + 1, by omega, by go_num, _, _, _, HT.out.drewN _, HFI.out, HRl.out⟩
              case measure => simp [intOf]; omega
          go_wp2_with fail
          generalize wr.alloc (.cells #[.int .u8 KD, .int .i64 S, .int .i64 Q, .int .i64 M] 31) = w4 at *
          generalize wr.heap.size = ab at *
          have e1 := hbx.cell 1
          have e2 := hbx.cell 2
          have e3 := hbx.cell 3
          simp at e1 e2 e3
          have HC2 := Lib.hid (fun w' (h : Two w b r win (doR win sum P S Q M).sum sum (doR win sum P S Q M).L R w') =>
            (two_do_r S Q M h w0 w1 (by have := HFP.out.sum0; omega) (by have := HFP.out.sum1; omega) (rel_len HRP.out HFP.out)))
          have HC1 := Lib.hid (two_do_p k S Q M HOR.out HFP.out)
          have HRD := Lib.hid (fun v => rel_do (sum := sum) HRP.out w0 w1 HOR.out.p64 S Q M v)
          have HFI := Lib.hid (show Fine win (doR win sum P S Q M).sum (doR win sum P S Q M).L ((k + 1 : Nat) : Int) from fine_do HFP.out (by omega) S Q M)
          with_reducible refine HC1.out.mono ?_
          rintro e w6 ⟨rfl, ht6, hk6⟩
          have H6 := Lib.hid ht6; clear ht6
          have hb6 := hk6 _ _ hbx; clear hk6
          have g1 := hb6.cell 1
          have g2 := hb6.cell 2
          have g3 := hb6.cell 3
          simp at g1 g2 g3
          go_wp2_with fail
          with_reducible refine (HC2.out _ H6.out).mono ?_
          rintro e w7 ⟨v7, rfl, ht7, hk7⟩
          obtain ⟨r1, r2, r3, r4⟩ := HRD.out v7
          rw [← r3] at ht7
          rw [← r1, ← r2]
          have HT := Lib.hid ht7; clear ht7
          have HBX := Lib.hid (hk7 _ _ hb6); clear hk7 hb6
          have HRl := Lib.hid r4; clear r1 r2 r3 r4
          clear HC1 HC2 HOR HRP HFP H6 HRD hbx e1 e2 e3 g1 g2 g3
          generalize (doR win sum P S Q M).sum = sum' at *
          generalize (doR win sum P S Q M).L = P' at *
          generalize (doR win sum P S Q M).x = dx at *
          generalize (doR win sum P S Q M).e = de at *
          generalize (rdoR win sum R S Q M v7).L = R' at *
          go_wp2_with fail
          have S1 := Lib.hid (fun n => two_sum (HT.out.drewN n))
          have S2 := Lib.hid (fun n => by have := two_sessions (HT.out.drewN n); rw [HRl.out.len] at this; exact this)
          obtain ⟨A', c', q1, q2, q3⟩ := HT.out.cells
          have hRl := HFI.out.len
          rw [HRl.out.len] at hRl
          have d1 := HBX.out.cell 1
          simp at d1
          go_quiet ((first | (go_at_call 16; exact quiet_left (S1.out _)) | (go_at_call 17; exact quiet_left (S2.out _))))
          clear S1 S2 q1
          by_cases hS : S < 0 ∨ R'.length ≤ S
          · have hnx : nextR P' S = 0 := by unfold nextR; rw [if_pos (by have := HRl.out.len; omega)]
            have HNX := Lib.hid hnx; clear hnx q3
            by_cases hS0 : S < 0
            · have hS1 : decide (0 ≤ S) = false := by rw [decide_eq_false_iff_not]; omega
              clear hS
              go_wp2_with fail
              go_quiet (fail)
              go_wp2_with fail
              with_reducible refine (two_next HNX.out (HT.out.drewN _)).mono ?_
              rintro e W9 ⟨rfl, rfl⟩
              go_wp2_with fail
              go_roundw
              case rel => exact ⟨k + 1, by omega, by go_num, _, _, _, HT.out.drewN _, HFI.out, HRl.out⟩
              case measure => simp [intOf]; omega
            · have hS1 : 0 ≤ S := by omega
              have hS2 : ¬ S < R'.length := by omega
              clear hS
              go_wp2_with fail
              go_quiet (fail)
              go_wp2_with fail
              with_reducible refine (two_next HNX.out (HT.out.drewN _)).mono ?_
              rintro e W9 ⟨rfl, rfl⟩
              go_wp2_with fail
              go_roundw
              case rel => exact ⟨k + 1, by omega, by go_num, _, _, _, HT.out.drewN _, HFI.out, HRl.out⟩
              case measure => simp [intOf]; omega
          · obtain ⟨J, rfl⟩ := Int.eq_ofNat_of_zero_le (show 0 ≤ S by omega)
            obtain ⟨s, hs⟩ := some_of_lt (show J < R'.length by omega)
            have hltJ := lt_of_some hs
            have hltI : (J : Int) < (R'.length : Int) := by omega
            have HNX := Lib.hid (rel_next HRl.out J hs)
            have hsl := rel_len HRl.out HFI.out s (mem_of_some hs)
            obtain ⟨lb, A2, c2, rfl, q4⟩ := q3 J s hs
            have ew : IntKind.i64.wrap ((s.ans.length : Int) + 1) = (s.ans.length : Int) + 1 := IntWalk.i64_in _ (by omega)
            clear q3 hs hS
            go_wp2_with fail
            go_quiet (fail)
            go_wp2_with fail
            go_quiet (fail)
            go_wp2_with fail
            with_reducible refine (two_next HNX.out (HT.out.drewN _)).mono ?_
            rintro e W9 ⟨rfl, rfl⟩
            go_wp2_with fail
            go_roundw
            case rel => exact ⟨k + 1, by omega, by go_num, _, _, _, HT.out.drewN _, HFI.out, HRl.out⟩
            case measure => simp [intOf]; omega
        · go_wp2_with fail
          go_ret
          exact ⟨rfl, htwo.below⟩
  · have hn' : (100 : Int) < n := by omega
    go_enter Try.func3, Try.ntmps3
    go_wp2_with fail
    with_reducible refine (fixed_true _).mono ?_
    rintro e W1 ⟨rfl, b1⟩
    go_wp2_with fail
    go_ret
    exact ⟨rfl, b1⟩
end Go.Proofs.Ytekibpfpkbgjkac
