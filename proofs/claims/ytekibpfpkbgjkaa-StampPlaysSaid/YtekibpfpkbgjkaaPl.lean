/- The main walk of kissinggatelaw29.StampPlays: where there can be such a source, the program's and the reference's answer alike at every act. -/
import Derived.Test.YtekibpfpkbgjkaaRef

import Derived.Deep.RegionHeld3
namespace Go.Proofs.Ytekibpfpkbgjkaa
open Go.RowKit
set_option linter.unusedVariables false

/-- A slice of acts. -/
def Acts (w : World) (A : Option Addr) (n : Nat) (acts : List (Int × Bool)) : Prop :=
  acts.length = n ∧ n ≤ maxLen ∧ (0 < n → ∃ b off, A = some ⟨b, off, none⟩ ∧ b < w.heap.size ∧ ∀ i a, acts[i]? = some a → w.cell? ⟨b, off + i * 2, none⟩ = some (.int .i64 a.1) ∧ w.cell? ⟨b, off + i * 2 + 1, none⟩ = some (.bool a.2))

def PRel (w : World) (bs br : Nat) (node nodes : Int) (k : Nat) (wr : World) : Prop :=
  ∃ taken known v, Src wr bs node nodes (lastOf known + 1) taken ∧ Ref wr w.heap.size br node nodes taken known v ∧ known.length ≤ k ∧ 0 ≤ taken ∧ taken ≤ k ∧ lastOf known ≤ 1099511627776 ∧ Below w.heap.size w wr

theorem last_src (b : Nat) (node nodes L taken : Int) (w : World) (h : Src w b node nodes (L + 1) taken) (h3 : -1 ≤ L) (h4 : L ≤ 1099511627776) :
    Calls Try.prog 12 #[.pointer (some ⟨b, 0, none⟩)] w fun e w' => e = .returned (.int .i64 L) ∧ w = w' := by
  have := last_any b node nodes (L + 1) taken w h (by omega) (by omega)
  rwa [show L + 1 - 1 = L by omega] at this

theorem sawB_last (known : List Int) (N : Int) (h0 : 0 ≤ N) (h1 : N ≤ 1099511627776) : sawB (lastOf known + 1) N = lastOf (known ++ [N]) + 1 := by
  unfold sawB
  rw [if_neg (by omega), lastOf_snoc]
  split <;> split <;> omega

theorem RFoot.not_src {w : World} {B br : Nat} {node nodes taken : Int} {known : List Int} {v : Value} (hr : Ref w B br node nodes taken known v) {g t : Nat} {cs : Array Value} (h : Blk w g t cs) (h1 : t ≠ 29) (h2 : t ≠ 3) : ¬ RFoot br v g := by
  rintro (e | e)
  · exact (h.ne_ hr.1 h1) e
  · exact own_blk_ne hr.2 h (fun e => h2 e.symm) e

theorem Ref.ch {w w' : World} {S : Nat → Prop} {B br : Nat} {node nodes taken : Int} {known : List Int} {v : Value} (hr : Ref w B br node nodes taken known v) (hc : Ch S w w') (hS : ∀ k, RFoot br v k → ¬ S k) : Ref w' B br node nodes taken known v :=
  ⟨hr.1.ch hc (hS _ (.inl rfl)), own_ch hr.2 hc fun k hk => hS k (.inr hk)⟩

theorem RFoot.ge {w : World} {B br : Nat} {node nodes taken : Int} {known : List Int} {v : Value} (hr : Ref w B br node nodes taken known v) (hB : B ≤ br) : ∀ k, RFoot br v k → B ≤ k := by
  rintro k (rfl | hk)
  · exact hB
  · exact (hr.2.lt k hk).1

theorem aft_gt (node nodes L now : Int) (h0 : 0 ≤ node) (h1 : node < nodes) (hL : -1 ≤ L) (hn : 0 ≤ now) : L < aft node nodes (L + 1) now := by
  unfold aft
  by_cases hl : 0 < L + 1
  · rw [if_pos hl, show L + 1 - 1 = L by omega]
    have hm : (L / nodes + 1) * nodes ≤ max now (L / nodes + 1) * nodes := Int.mul_le_mul_of_nonneg_right (Int.le_max_right _ _) (by omega)
    have h2 : L / nodes * nodes + L % nodes = L := Int.ediv_mul_add_emod L nodes
    have h3 : L % nodes < nodes := Int.emod_lt_of_pos _ (by omega)
    have h4 : (L / nodes + 1) * nodes = L / nodes * nodes + nodes := by rw [Int.add_mul, Int.one_mul]
    omega
  · rw [if_neg hl]
    have := Int.mul_nonneg hn (show 0 ≤ nodes by omega)
    omega

theorem lastOf_push (known : List Int) (x : Int) (h : lastOf known < x) : lastOf (known ++ [x]) = x := by rw [lastOf_snoc, if_pos h]

set_option maxHeartbeats 4000000 in
theorem plays_main (node nodes : Int) (A : Option Addr) (n c : Nat) (acts : List (Int × Bool)) (w : World) (hA : Acts w A n acts) (hn : n ≤ 100)
    (h0 : 0 ≤ node) (h1 : node < nodes) (h2 : nodes ≤ 7) :
    Calls Try.prog 3 #[.int .i64 node, .int .i64 nodes, .slice A n c] w fun e w' => e = .returned (.bool true) ∧ Below w.heap.size w w' := by
  have n1 : ¬ nodes < 1 := by omega
  have n2 : ¬ 7 < nodes := by omega
  have n3 : ¬ nodes ≤ node := by omega
  have n4 : ¬ node < 0 := by omega
  have HA := Lib.hid hA; clear hA
  go_enter Try.func3, Try.ntmps3
  go_wp2_with fail
  refine (fixed_true _).mono ?_
  rintro e w1 ⟨rfl, b1⟩
  go_wp2_with fail
  refine (new_in node nodes h0 h1 h2 _).mono ?_
  rintro e w2 ⟨rfl, hw2⟩
  have s2 : Src w2 w1.heap.size node nodes 0 0 := by rw [hw2]; exact Blk.new _ _ _
  have b2 : Below w.heap.size w w2 := by rw [hw2]; exact b1.alloc b1.size _
  have hbs := b1.size
  clear hw2 b1
  generalize w1.heap.size = bs at *
  go_wp2_with fail
  have s3 := s2.alloc (.cells #[.int .i64 node, .int .i64 nodes, .int .i64 0, .slice none 0 0] 29)
  have r3 : Ref (w2.alloc (.cells #[.int .i64 node, .int .i64 nodes, .int .i64 0, .slice none 0 0] 29)) w.heap.size w2.heap.size node nodes 0 [] (.slice none 0 0) :=
    ⟨Blk.new _ _ _, World.ownsRow_nil _ _ _ _⟩
  have b3 := b2.alloc b2.size (.cells #[.int .i64 node, .int .i64 nodes, .int .i64 0, .slice none 0 0] 29)
  have hbr := b2.size
  generalize w2.alloc (.cells #[.int .i64 node, .int .i64 nodes, .int .i64 0, .slice none 0 0] 29) = w3 at *
  generalize w2.heap.size = br at *
  clear s2 b2
  go_loopw [46] (fun i wr => ∃ k : Nat, k ≤ n ∧ i = .int .i64 k ∧ PRel w bs br node nodes k wr) (fun i _ => n - (intOf i).toNat)
  case atStart => exact ⟨0, Nat.zero_le _, rfl, 0, [], _, s3, r3, by simp, by omega, by omega, by decide, b3⟩
  case round =>
    obtain ⟨k, hk, rfl, taken, known, v, hs, hr, hkn, ht0, ht1, hl, hb⟩ := hrel
    clear s3 r3 b3
    by_cases hlt : k < n
    · obtain ⟨hal, _, hac⟩ := HA.out
      obtain ⟨b0, off, rfl, hblt, hc⟩ := hac (by omega)
      obtain ⟨N, sw, hcN, hcS⟩ : ∃ N sw, wr.cell? ⟨b0, off + k * 2, none⟩ = some (.int .i64 N) ∧ wr.cell? ⟨b0, off + k * 2 + 1, none⟩ = some (.bool sw) := by
        have := hc k acts[k] (List.getElem?_eq_getElem (by omega))
        exact ⟨_, _, (hb.cell (p := ⟨b0, _, none⟩) hblt).trans this.1, (hb.cell (p := ⟨b0, _, none⟩) hblt).trans this.2⟩
      clear hal hac hc
      have hl0 : -1 ≤ lastOf known := lastOf_ge _ _
      cases sw
      · go_wp2_with fail
        have hbox := Blk.new wr 31 #[.int .i64 N, .bool false]
        have hs4 := hs.alloc (.cells #[.int .i64 N, .bool false] 31)
        have hr4 : Ref (wr.alloc (.cells #[.int .i64 N, .bool false] 31)) _ _ _ _ _ _ _ := ⟨hr.1.alloc (.cells #[.int .i64 N, .bool false] 31), hr.2.alloc _⟩
        have hb4 := hb.alloc hb.size (.cells #[.int .i64 N, .bool false] 31)
        clear hs hr hb hcN hcS
        generalize wr.alloc (.cells #[.int .i64 N, .bool false] 31) = w4 at *
        generalize wr.heap.size = ab at *
        have d4 := hbox.cell 0
        simp at d4
        have hs5 : Src w4.drew bs node nodes (lastOf known + 1) taken := hs4
        have hr5 : Ref w4.drew w.heap.size br node nodes taken known v := hr4
        have hbox5 := hbox.drew
        have hb5 := hb4.drew
        have nab : ¬ ab = bs := hbox.ne_ hs4 (by decide)
        have nbr : ¬ br = bs := hr4.1.ne_ hs4 (by decide)
        have nf1 := RFoot.not_src hr4 hbox (by decide) (by decide)
        have nf2 := RFoot.not_src hr4 hs4 (by decide) (by decide)
        have ge1 := RFoot.ge hr4 hbr
        by_cases hx : N < 0 ∨ 1099511627776 < N
        · have hR : nextR node nodes (lastOf known + 1) taken N = ⟨0, 1, lastOf known + 1, taken⟩ := by unfold nextR; rw [if_pos hx]
          have HX := Lib.hid hx; clear hx
          refine (next_at _ _ _ _ _ _ _ _ _ hR h0 h1 h2 (by omega) (by omega) ht0 (by omega) bs _ hs4).mono ?_
          rintro e w6 ⟨rfl, hs6, hg6⟩
          have c6 := Ch.of_grown hg6
          have d6 := (hbox.ch c6 (by simp; omega)).cell 0
          simp at d6
          have hr6 : Ref w6 w.heap.size br node nodes taken known v := hr4.ch c6 (by rintro k hk e; injection e with e; subst e; exact nf2 hk)
          have hb6 := Ch.below hb4 c6 (by rintro k e; injection e with e; omega) hb4.size
          clear hR hg6 hs5 hr5 hbox5 hb5
          go_wp2_with fail
          refine (rnext_arg br N _ HX.out).mono ?_
          rintro e w7 ⟨rfl, rfl⟩
          have hl7 := hl
          have hkn7 : known.length ≤ k + 1 := by omega
          have q2 := hr6.1.cell 2
          simp at q2
          have LS := Lib.hid (fun n => last_src bs node nodes (lastOf known) taken (w6.drewN n) (hs6.drewN n) (lastOf_ge _ _) hl7)
          have LR := Lib.hid (fun n => rlast_any _ br node nodes taken known _ (w6.drewN n) ⟨hr6.1.drewN n, own_drewN hr6.2 n⟩)
          have LT := Lib.hid (fun n => taken_any bs node nodes (lastOf known + 1) taken (w6.drewN n) (hs6.drewN n) (by omega) (by omega))
          have HK := Lib.hid hkn7; clear hkn7
          have HB := Lib.hid hb6; clear hb6
          have HR := Lib.hid hr6; clear hr6
          go_wp2_with fail
          go_quiet ((first | (go_at_call 12; exact quiet_left (LS.out _)) | (go_at_call 13; exact quiet_left (LR.out _)) | (go_at_call 14; exact quiet_left (LT.out _))))
          go_wp2_with fail
          go_roundw
          case rel => exact ⟨k + 1, by omega, by go_num, taken, known, _, hs6.drewN _, ⟨HR.out.1.drewN _, own_drewN HR.out.2 _⟩, HK.out, by omega, by omega, hl7, below_drewN HB.out _⟩
          case measure => simp [intOf]; omega
        · have x0 : 0 ≤ N := by omega
          have x1 : N ≤ 1099511627776 := by omega
          have hgt := aft_gt node nodes (lastOf known) N h0 h1 hl0 x0
          by_cases hf : 1099511627776 < aft node nodes (lastOf known + 1) N
          · have hR : nextR node nodes (lastOf known + 1) taken N = ⟨0, 7, lastOf known + 1, taken⟩ := by unfold nextR; rw [if_neg hx, if_pos hf]
            refine (next_at _ _ _ _ _ _ _ _ _ hR h0 h1 h2 (by omega) (by omega) ht0 (by omega) bs _ hs4).mono ?_
            rintro e w6 ⟨rfl, hs6, hg6⟩
            have c6 := Ch.of_grown hg6
            have d6 := (hbox.ch c6 (by simp; omega)).cell 0
            simp at d6
            have hr6 : Ref w6 w.heap.size br node nodes taken known v := hr4.ch c6 (by rintro k hk e; injection e with e; subst e; exact nf2 hk)
            have hb6 := Ch.below hb4 c6 (by rintro k e; injection e with e; omega) hb4.size
            have HF := Lib.hid hf
            clear hR hg6 hs5 hr5 hbox5 hb5 hf hgt hx
            go_wp2_with fail
            refine (rnext_in _ br node nodes taken N known v _ hr6 hb6.size (by omega) x0 x1 h0 h1 h2 hl ht0 (by omega)).mono ?_
            rintro e w7 hw7
            unfold RNext at hw7
            rw [if_pos HF.out] at hw7
            obtain ⟨rfl, kk, hw7⟩ := hw7
            have hs7 : Src w7 bs node nodes (lastOf known + 1) taken := by rw [hw7]; exact hs6.drewN _
            have hr7 : Ref w7 w.heap.size br node nodes taken known v := by rw [hw7]; exact ⟨hr6.1.drewN _, own_drewN hr6.2 _⟩
            have hb7 := below_drewN hb6 kk
            rw [← hw7] at hb7
            have hl7 := hl
            have hkn7 : known.length ≤ k + 1 := by omega
            clear hw7
            have q2 := hr7.1.cell 2
            simp at q2
            have LS := Lib.hid (fun n => last_src bs node nodes (lastOf known) taken (w7.drewN n) (hs7.drewN n) (lastOf_ge _ _) hl7)
            have LR := Lib.hid (fun n => rlast_any _ br node nodes taken known _ (w7.drewN n) ⟨hr7.1.drewN n, own_drewN hr7.2 n⟩)
            have LT := Lib.hid (fun n => taken_any bs node nodes (lastOf known + 1) taken (w7.drewN n) (hs7.drewN n) (by omega) (by omega))
            have HK := Lib.hid hkn7; clear hkn7
            have HB := Lib.hid hb7; clear hb7
            have HR := Lib.hid hr7; clear hr7
            go_wp2_with fail
            go_quiet ((first | (go_at_call 12; exact quiet_left (LS.out _)) | (go_at_call 13; exact quiet_left (LR.out _)) | (go_at_call 14; exact quiet_left (LT.out _))))
            go_wp2_with fail
            go_roundw
            case rel => exact ⟨k + 1, by omega, by go_num, taken, known, _, hs7.drewN _, ⟨HR.out.1.drewN _, own_drewN HR.out.2 _⟩, HK.out, by omega, by omega, hl7, below_drewN HB.out _⟩
            case measure => simp [intOf]; omega
          · have hR : nextR node nodes (lastOf known + 1) taken N = ⟨aft node nodes (lastOf known + 1) N, 0, aft node nodes (lastOf known + 1) N + 1, taken + 1⟩ := by unfold nextR; rw [if_neg hx, if_neg hf]
            refine (next_at _ _ _ _ _ _ _ _ _ hR h0 h1 h2 (by omega) (by omega) ht0 (by omega) bs _ hs4).mono ?_
            rintro e w6 ⟨rfl, hs6, hg6⟩
            have c6 := Ch.of_grown hg6
            have d6 := (hbox.ch c6 (by simp; omega)).cell 0
            simp at d6
            have hr6 : Ref w6 w.heap.size br node nodes taken known v := hr4.ch c6 (by rintro k hk e; injection e with e; subst e; exact nf2 hk)
            have hb6 := Ch.below hb4 c6 (by rintro k e; injection e with e; omega) hb4.size
            have HF := Lib.hid hf
            clear hR hg6 hs5 hr5 hbox5 hb5 hf hx
            go_wp2_with fail
            refine (rnext_in _ br node nodes taken N known v _ hr6 hb6.size (by omega) x0 x1 h0 h1 h2 hl ht0 (by omega)).mono ?_
            rintro e w7 hw7
            unfold RNext at hw7
            rw [if_neg (by have := HF.out; omega)] at hw7
            obtain ⟨rfl, v7, hr7, c7, f7⟩ := hw7
            have hs7 := Blk.ch hs6 c7 nf2
            change Src w7 bs node nodes (aft node nodes (lastOf known + 1) N + 1) (taken + 1) at hs7
            have hb7 := Ch.below hb6 c7 ge1 hb6.size
            have hp := lastOf_push known _ hgt
            have hl7 : lastOf (known ++ [aft node nodes (lastOf known + 1) N]) ≤ 1099511627776 := by rw [hp]; have := HF.out; omega
            have hs8 : Src w7 bs node nodes (lastOf (known ++ [aft node nodes (lastOf known + 1) N]) + 1) (taken + 1) := by rw [hp]; exact hs7
            have hkn7 : (known ++ [aft node nodes (lastOf known + 1) N]).length ≤ k + 1 := by simp; omega
            clear hs7 hp HF hgt
            have q2 := hr7.1.cell 2
            simp at q2
            have LS := Lib.hid (fun n => last_src bs node nodes (lastOf (known ++ [aft node nodes (lastOf known + 1) N])) (taken + 1) (w7.drewN n) (hs8.drewN n) (lastOf_ge _ _) hl7)
            have LR := Lib.hid (fun n => rlast_any _ br node nodes (taken + 1) (known ++ [aft node nodes (lastOf known + 1) N]) _ (w7.drewN n) ⟨hr7.1.drewN n, own_drewN hr7.2 n⟩)
            have LT := Lib.hid (fun n => taken_any bs node nodes (lastOf (known ++ [aft node nodes (lastOf known + 1) N]) + 1) (taken + 1) (w7.drewN n) (hs8.drewN n) (by omega) (by omega))
            have HK := Lib.hid hkn7; clear hkn7
            have HB := Lib.hid hb7; clear hb7
            have HR := Lib.hid hr7; clear hr7
            go_wp2_with fail
            go_quiet ((first | (go_at_call 12; exact quiet_left (LS.out _)) | (go_at_call 13; exact quiet_left (LR.out _)) | (go_at_call 14; exact quiet_left (LT.out _))))
            go_wp2_with fail
            go_roundw
            case rel => exact ⟨k + 1, by omega, by go_num, (taken + 1), (known ++ [aft node nodes (lastOf known + 1) N]), _, hs8.drewN _, ⟨HR.out.1.drewN _, own_drewN HR.out.2 _⟩, HK.out, by omega, by omega, hl7, below_drewN HB.out _⟩
            case measure => simp [intOf]; omega
      · go_wp2_with fail
        have hbox := Blk.new wr 31 #[.int .i64 N, .bool true]
        have hs4 := hs.alloc (.cells #[.int .i64 N, .bool true] 31)
        have hr4 : Ref (wr.alloc (.cells #[.int .i64 N, .bool true] 31)) _ _ _ _ _ _ _ := ⟨hr.1.alloc (.cells #[.int .i64 N, .bool true] 31), hr.2.alloc _⟩
        have hb4 := hb.alloc hb.size (.cells #[.int .i64 N, .bool true] 31)
        clear hs hr hb hcN hcS
        generalize wr.alloc (.cells #[.int .i64 N, .bool true] 31) = w4 at *
        generalize wr.heap.size = ab at *
        have d4 := hbox.cell 0
        simp at d4
        have hs5 : Src w4.drew bs node nodes (lastOf known + 1) taken := hs4
        have hr5 : Ref w4.drew w.heap.size br node nodes taken known v := hr4
        have hbox5 := hbox.drew
        have hb5 := hb4.drew
        have nab : ¬ ab = bs := hbox.ne_ hs4 (by decide)
        have nbr : ¬ br = bs := hr4.1.ne_ hs4 (by decide)
        have nf1 := RFoot.not_src hr4 hbox (by decide) (by decide)
        have nf2 := RFoot.not_src hr4 hs4 (by decide) (by decide)
        have ge1 := RFoot.ge hr4 hbr
        by_cases hx : N < 0 ∨ 1099511627776 < N
        · have hE : sawE N = 1 := by unfold sawE; rw [if_pos hx]
          have hB : sawB (lastOf known + 1) N = lastOf known + 1 := by unfold sawB; rw [if_pos hx]
          have HX := Lib.hid hx; clear hx
          have HS := Lib.hid (saw_at node nodes _ taken N 1 _ hE hB (by omega) (by omega) bs)
          clear hE hB
          go_region_held3 (fun w' => w'.cell? ⟨ab, 0, none⟩ = some (.int .i64 N)) (first | exact d4 | exact d6)
            (first
              | (go_at_call 8; refine (HS.out _ hs5).mono ?_; rintro e w6 ⟨rfl, hs6, hg6⟩; have c6 := Ch.of_grown hg6; have d6 := ((hbox5.ch c6 (by simp; omega)).cell 0); simp at d6)
              | (go_at_call 9; refine (rsaw_out br N _ HX.out).mono ?_; rintro e w7 ⟨rfl, rfl⟩))
          have hr6 : Ref w6 w.heap.size br node nodes taken known v := hr5.ch c6 (by rintro k hk e; injection e with e; subst e; exact nf2 hk)
          have hb6 := Ch.below hb5 c6 (by rintro k e; injection e with e; omega) hb5.size
          have hl7 := hl
          have hkn7 : known.length ≤ k + 1 := by omega
          clear hs4 hr4 hs5 hr5 hbox5 hb5 hb4 HS hg6
          have q2 := hr6.1.cell 2
          simp at q2
          have LS := Lib.hid (fun n => last_src bs node nodes (lastOf known) taken (w6.drewN n) (hs6.drewN n) (lastOf_ge _ _) hl7)
          have LR := Lib.hid (fun n => rlast_any _ br node nodes taken known _ (w6.drewN n) ⟨hr6.1.drewN n, own_drewN hr6.2 n⟩)
          have LT := Lib.hid (fun n => taken_any bs node nodes (lastOf known + 1) taken (w6.drewN n) (hs6.drewN n) (by omega) (by omega))
          have HK := Lib.hid hkn7; clear hkn7
          have HB := Lib.hid hb6; clear hb6
          have HR := Lib.hid hr6; clear hr6
          go_wp2_with fail
          go_quiet ((first | (go_at_call 12; exact quiet_left (LS.out _)) | (go_at_call 13; exact quiet_left (LR.out _)) | (go_at_call 14; exact quiet_left (LT.out _))))
          go_wp2_with fail
          go_roundw
          case rel => exact ⟨k + 1, by omega, by go_num, taken, known, _, hs6.drewN _, ⟨HR.out.1.drewN _, own_drewN HR.out.2 _⟩, HK.out, by omega, by omega, hl7, below_drewN HB.out _⟩
          case measure => simp [intOf]; omega
        · have x0 : 0 ≤ N := by omega
          have x1 : N ≤ 1099511627776 := by omega
          have hE : sawE N = 0 := by unfold sawE; rw [if_neg hx]
          have hB := sawB_last known N x0 x1
          have HS := Lib.hid (saw_at node nodes _ taken N 0 _ hE hB (by omega) (by omega) bs)
  
          clear hE hB hx
          have HR := Lib.hid (fun W (hr : Ref W w.heap.size br node nodes taken known v) hB => rsaw_in w.heap.size br node nodes taken N known v W hr hB (by omega) x0 x1)
          go_region_held3 (fun w' => w'.cell? ⟨ab, 0, none⟩ = some (.int .i64 N)) (first | exact d4 | exact d6 | exact d7)
            (first
              | (go_at_call 8; refine (HS.out _ hs5).mono ?_; rintro e w6 ⟨rfl, hs6, hg6⟩; have c6 := Ch.of_grown hg6; have hbox6 := (hbox5.ch c6 (by simp; omega)); have d6 := hbox6.cell 0; simp at d6; have hr6 : Ref w6 w.heap.size br node nodes taken known v := hr5.ch c6 (by rintro k hk e; injection e with e; subst e; exact nf2 hk); have hb6 := Ch.below hb5 c6 (by rintro k e; injection e with e; omega) hb5.size)
              | (go_at_call 9; refine (HR.out _ hr6 hb6.size).mono ?_; rintro e w7 ⟨rfl, v7, hr7, c7, f7⟩; have d7 := (hbox6.ch c7 nf1).cell 0; simp at d7))
          have hs7 := Blk.ch hs6 c7 nf2
          change Src w7 bs node nodes (lastOf (known ++ [N]) + 1) taken at hs7
          have hb7 := Ch.below hb6 c7 ge1 hb6.size
          have hl7 : lastOf (known ++ [N]) ≤ 1099511627776 := by rw [lastOf_snoc]; split <;> omega
          have hkn7 : (known ++ [N]).length ≤ k + 1 := by simp; omega
          clear hs4 hr4 hs5 hr5 hbox5 hb5 hb4 HS HR hg6 hs6 hr6 hb6 hbox6
          have q2 := hr7.1.cell 2
          simp at q2
          have LS := Lib.hid (fun n => last_src bs node nodes (lastOf (known ++ [N])) taken (w7.drewN n) (hs7.drewN n) (lastOf_ge _ _) hl7)
          have LR := Lib.hid (fun n => rlast_any _ br node nodes taken (known ++ [N]) _ (w7.drewN n) ⟨hr7.1.drewN n, own_drewN hr7.2 n⟩)
          have LT := Lib.hid (fun n => taken_any bs node nodes (lastOf (known ++ [N]) + 1) taken (w7.drewN n) (hs7.drewN n) (by omega) (by omega))
          have HK := Lib.hid hkn7; clear hkn7
          have HB := Lib.hid hb7; clear hb7
          have HR := Lib.hid hr7; clear hr7
          go_wp2_with fail
          go_quiet ((first | (go_at_call 12; exact quiet_left (LS.out _)) | (go_at_call 13; exact quiet_left (LR.out _)) | (go_at_call 14; exact quiet_left (LT.out _))))
          go_wp2_with fail
          go_roundw
          case rel => exact ⟨k + 1, by omega, by go_num, taken, (known ++ [N]), _, hs7.drewN _, ⟨HR.out.1.drewN _, own_drewN HR.out.2 _⟩, HK.out, by omega, by omega, hl7, below_drewN HB.out _⟩
          case measure => simp [intOf]; omega
    · clear hs hr
      go_wp2_with fail
      go_ret
      exact ⟨rfl, hb⟩
end Go.Proofs.Ytekibpfpkbgjkaa
