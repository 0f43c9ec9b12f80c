/- bank: Share. -/
import Derived.Test.YtbggadhaaphmcaaDoorBg
import Derived.Test.YtbggadhaaphmcaaDoorBx
namespace Go.Proofs.YtbggadhaaphmcaaDoor
open Go.Lib Go.RowKit
set_option linter.unusedVariables false

def shareP (k : Nat) (f s part rest : Int) : List OpD := addsL (giftsOf (shRun f s part rest k).2)
theorem shareP_len (k : Nat) (f s part rest : Int) : (shareP k f s part rest).length = k := by
  unfold shareP
  rw [addsL_len, gifts_len, shRun_len]
theorem shareP_from {k : Nat} {f s part rest : Int} (h : (k : Int) = f) : shareP (k + 1) f s part rest = shareP k f s part rest ++ [addO k (-s)] ∧ (shRun f s part rest (k + 1)).1 = (shRun f s part rest k).1 := by
  unfold shareP
  rw [shRun_succ]
  unfold shStep
  rw [if_pos h, gifts_snoc, addsL_snoc, shRun_len]
  exact ⟨rfl, rfl⟩
theorem shareP_else {k : Nat} {f s part rest : Int} (h : ¬ (k : Int) = f) : shareP (k + 1) f s part rest = shareP k f s part rest ++ [addO k (gX part (shRun f s part rest k).1)] ∧ (shRun f s part rest (k + 1)).1 = gR (shRun f s part rest k).1 := by
  unfold shareP
  rw [shRun_succ]
  unfold shStep gX gR
  rw [if_neg h]
  split
  · rw [gifts_snoc, addsL_snoc, shRun_len]
    exact ⟨rfl, rfl⟩
  · split
    · rw [gifts_snoc, addsL_snoc, shRun_len]
      exact ⟨rfl, rfl⟩
    · rw [gifts_snoc, addsL_snoc, shRun_len]
      exact ⟨rfl, rfl⟩
theorem rest_bound {s m : Int} (hm : 0 < m) (hm2 : m ≤ 16) (f part : Int) (k : Nat) : -1048576 ≤ (shRun f s part (s.tmod m) k).1 ∧ (shRun f s part (s.tmod m) k).1 ≤ 1048576 := by
  have h1 := Int.tmod_lt_of_pos s hm
  have h2 := Int.lt_tmod_of_pos s hm
  have h3 := shRun_rest f s part (s.tmod m) k
  rcases Int.le_total 0 (s.tmod m) with h | h
  · have := h3.1 h; omega
  · have := h3.2 h; omega
def CutS (w : World) (PA RE : Int) (s9 s10 : Value) (wx : World) : Prop :=
  ∃ pb rb, s9 = .pointer (some ⟨pb, 0, none⟩) ∧ s10 = .pointer (some ⟨rb, 0, none⟩) ∧ Blk wx pb 3 #[.int .i64 PA] ∧ Blk wx rb 3 #[.int .i64 RE] ∧ pb ≠ rb ∧ w.heap.size ≤ pb ∧ w.heap.size ≤ rb ∧ NewW w wx
theorem cuts_a (w : World) (PA RE : Int) : CutS w PA RE (.pointer (some ⟨w.heap.size, 0, none⟩)) (.pointer (some ⟨w.heap.size + 1, 0, none⟩)) ((w.alloc (.cells #[.int .i64 PA] 3)).alloc (.cells #[.int .i64 RE] 3)).drew :=
  ⟨w.heap.size, w.heap.size + 1, rfl, rfl, ((Blk.new w 3 #[.int .i64 PA]).alloc _).drew, by
    have := (Blk.new (w.alloc (.cells #[.int .i64 PA] 3)) 3 #[.int .i64 RE]).drew
    rwa [World.size_alloc] at this, by omega, by omega, by omega, (((Ch.refl _ w).alloc _).alloc _).drew⟩
theorem cuts_b (w : World) (PA RE : Int) : CutS w PA RE (.pointer (some ⟨w.heap.size + 1, 0, none⟩)) (.pointer (some ⟨w.heap.size, 0, none⟩)) ((w.alloc (.cells #[.int .i64 RE] 3)).alloc (.cells #[.int .i64 PA] 3)).drew :=
  ⟨w.heap.size + 1, w.heap.size, rfl, rfl, by
    have := (Blk.new (w.alloc (.cells #[.int .i64 RE] 3)) 3 #[.int .i64 PA]).drew
    rwa [World.size_alloc] at this, ((Blk.new w 3 #[.int .i64 RE]).alloc _).drew, by omega, by omega, by omega, (((Ch.refl _ w).alloc _).alloc _).drew⟩
/-- Behind an appending of Share's own. -/
theorem sh_start {wx : World} {B pb rb : Nat} {PA RE : Int} (hp : Blk wx pb 3 #[.int .i64 PA]) (hr : Blk wx rb 3 #[.int .i64 RE]) (hne : pb ≠ rb) (h1 : B ≤ pb) (h2 : B ≤ rb) :
    SH (wx.alloc (.cells #[.slice none 0 0] 31)) B pb rb wx.heap.size PA RE (.slice none 0 0) [] :=
  ⟨hp.alloc _, hr.alloc _, Blk.new _ _ _, own_nil, hne, h1, h2, by have := hp.lt; omega⟩
def ShareP (w : World) (n f : Nat) (s : Int) (e : Ending) (w' : World) : Prop :=
  ∃ (A : Option Addr) (c : Nat), e = .returned (.tuple #[.slice A n c, .int .i64 0]) ∧ Ops w' A n (addsL (giftsOf (shareI n f s))) ∧ NewW w w'
set_option maxRecDepth 100000 in
set_option maxHeartbeats 8000000 in
theorem Share_any (n f : Nat) (s : Int) (h2 : n ≤ 16) (hf : f < n) (hs : -1048576 ≤ s ∧ s ≤ 1048576) (w : World) :
    Calls Tryd.prog 32 #[.int .i64 n, .int .i64 f, .int .i64 s] w (ShareP w n f s) := by
  have hfI : (f : Int) < (n : Int) := by omega
  have hnI : (n : Int) ≤ 16 := by omega
  have hmay : mayE n f s = 0 := by
    unfold mayE isB amB
    rw [if_pos (by simp; omega), if_neg (by omega)]
  have HM := Lib.hid (fun w' => may_any n f s w')
  rw [hmay] at HM
  clear hmay
  have dz : ((0 : Int) != 0) = false := rfl
  by_cases e1 : n = 1
  · have d : decide ((n : Int) = 1) = true := by simp; omega
    have d' : ((n : Int) == 1) = true := by simp; omega
    have hf0 : f = 0 := by omega
    have HSH := Lib.hid (show addsL (giftsOf (shareI n f s)) = [addO f 0] by unfold shareI; rw [if_pos e1, hf0]; rfl)
    have HADD := Lib.hid (fun w' => add_any f 0 (by omega) (by omega) w')
    have HOP := Lib.hid (fun w' => ops_new w' [addO f 0])
    have HN1 := Lib.hid e1
    obtain ⟨K, hK⟩ : ∃ K, keyT f = K := ⟨_, rfl⟩
    have HK := Lib.hid hK
    rw [hK] at HADD
    clear e1 hf0 hK
    go_enter Tryd.func32, Tryd.ntmps32
    go_wp2_with fail
    refine (HM.out _).mono ?_
    rintro e w2 ⟨rfl, rfl⟩
    dsimp only
    go_wp2_with fail
    refine (HADD.out _).mono ?_
    rintro e w2 ⟨rfl, hN⟩
    dsimp only
    have HN := Lib.hid hN
    clear hN
    go_wp2_with fail
    go_ret2
    refine ⟨some ⟨w2.heap.size, 0, none⟩, 1, by rw [HN1.out]; rfl, ?_, HN.out.alloc _⟩
    rw [HSH.out, ← HK.out, HN1.out]
    exact HOP.out w2
  have d : decide ((n : Int) = 1) = false := by simp; omega
  have d' : ((n : Int) == 1) = false := by simp; omega
  have hn2 : (2 : Int) ≤ (n : Int) := by omega
  have HSH := Lib.hid (show addsL (giftsOf (shareI n f s)) = shareP n f s (s.tdiv ((n : Int) - 1)) (s.tmod ((n : Int) - 1)) by unfold shareI shareP; rw [if_neg e1])
  have hpb := part_bound (M := 1048576) (show (0 : Int) < (n : Int) - 1 by omega) hs
  have HRB := Lib.hid (fun k => rest_bound (s := s) (show (0 : Int) < (n : Int) - 1 by omega) (by omega) f (s.tdiv ((n : Int) - 1)) k)
  have hng : IntKind.i64.wrap (-s) = -s := IntWalk.i64_in _ ⟨by omega, by omega⟩
  obtain ⟨hs0, hs1⟩ := hs
  clear e1
  go_enter Tryd.func32, Tryd.ntmps32
  go_upto_region 6 with ((go_at_call 66; refine (HM.out _).mono ?_; rintro e w2 ⟨rfl, rfl⟩))
  go_cut [9, 10] (fun s9 s10 wx => CutS w (s.tdiv ((n : Int) - 1)) (s.tmod ((n : Int) - 1)) s9 s10 wx)
  case first =>
    go_region
    all_goals
      go_wp2_with fail
      go_meet
      first
        | exact cuts_a _ _ _
        | exact cuts_b _ _ _
  case rest =>
    obtain ⟨pb, rb, rfl, rfl, hbp, hbr, hne, hp0, hr0, hN⟩ := hcut
    have HST := Lib.hid (sh_start hbp hbr hne hp0 hr0)
    have HC0 := Lib.hid (show Ch (fun g => w.heap.size ≤ g) w (wc.alloc (.cells #[.slice none 0 0] 31)) from ((hN.mono fun _ h => h.elim) : Ch (fun g => w.heap.size ≤ g) w wc).alloc _)
    obtain ⟨lb, hlb⟩ : ∃ lb, wc.heap.size = lb := ⟨_, rfl⟩
    rw [hlb] at HST
    obtain ⟨i1, hi1, hy0, hy1, hy2⟩ := info_parts op_info
    generalize s.tdiv ((n : Int) - 1) = PA at *
    generalize s.tmod ((n : Int) - 1) = RE at *
    obtain ⟨B, hBB⟩ : ∃ B, w.heap.size = B := ⟨_, rfl⟩
    rw [hBB] at HST HC0
    have HBB := Lib.hid hBB
    clear hbp hbr hN hp0 hr0 hBB
    go_wp2_with fail
    try simp only [hlb]
    generalize wc.alloc (.cells #[.slice none 0 0] 31) = w1 at *
    clear hlb
    go_loopw [38] (fun i wr => ∃ (k : Nat) (A : Option Addr) (q : Nat), k ≤ n ∧ i = .int .i64 k ∧ SH wr B pb rb lb PA (shRun f s PA RE k).1 (.slice A k q) (shareP k f s PA RE) ∧ Ch (fun g => B ≤ g) w wr) (fun i _ => n - (intOf i).toNat)
    case atStart => exact ⟨0, none, 0, by omega, rfl, HST.out, HC0.out⟩
    case round =>
      obtain ⟨k, A, q, hk, rfl, hS, hC⟩ := hrel
      have HS := Lib.hid hS
      have HC := Lib.hid hC
      have hlen := shareP_len k f s PA RE
      have HLEN := Lib.hid hlen
      clear hC
      by_cases hlt : k < n
      · have hk16 : k < 16 := by omega
        have hB1 : B ≤ wr.heap.size := hS.hB
        by_cases ekf : k = f
        · have t1 : decide ((k : Int) = (f : Int)) = true := by simp; omega
          have t2 : ((k : Int) == (f : Int)) = true := by simp; omega
          have HNX := Lib.hid (shareP_from (k := k) (f := f) (s := s) (part := PA) (rest := RE) (by rw [ekf]))
          have HA1 := Lib.hid (fun w' => add_any k (-s) (by omega) (by omega) w')
          have y0 := hS.s.cell 0
          have yl := hS.s.lt
          obtain ⟨KT, hKT⟩ : ∃ KT, keyT k = KT := ⟨_, rfl⟩
          have HKT := Lib.hid hKT
          rw [hKT] at HA1
          obtain ⟨L, hL⟩ : ∃ L, shareP k f s PA RE = L := ⟨_, rfl⟩
          obtain ⟨RK, hRK⟩ : ∃ RK, (shRun f s PA RE k).1 = RK := ⟨_, rfl⟩
          rw [hL] at HS HLEN HNX
          rw [hRK] at HS HNX
          clear hKT hS hL hRK hlen ekf
          go_upto_region 13 with (fail)
          go_region_law (first
            | (refine step_append_any _ rfl (.tmp 44) (.tmp 49) _ rfl B 41 i1 _ 4 48 Tryd.underlying31 hi1 hy0 hy1 hy2 rfl (by omega) (.slice A k q) k (flatO L) rfl
                 (own_ch (HLEN.out ▸ HS.out.o : wr.ownsRow B 41 4 (.slice A k q) k (flatO L)) ((show NewW wr w2 from HN2.out).alloc _) (fun _ _ h => h)) _ (some ⟨_, 0, none⟩) 1 1 [.int .i64 5, .string KT, .string emp, .int .i64 (-s)] rfl (reads_new _ _ #[.int .i64 5, .string KT, .string emp, .int .i64 (-s)] 1 4 rfl) (by simp [Value.oneCell']) (by simp only [maxLen]; omega) (by omega) (by have := HN2.out.size; simp; omega) ?_
               intro v7 w7 hown7 hg7 hat7
               obtain ⟨A7, c7, rfl⟩ := own_form hown7
               have HF := Lib.hid (sh_app (o := addO k (-s)) HS.out HLEN.out HN2.out (by rw [← HKT.out] at hown7; exact hown7) rfl hg7)
               have m0 := ((HS.out.s.ch HN2.out (fun h => h)).alloc _).grown hg7 (fun e => own_blk_ne (own_ch (HLEN.out ▸ HS.out.o : wr.ownsRow B 41 4 (.slice A k q) k (flatO L)) HN2.out (fun _ _ h => h)) (HS.out.s.ch HN2.out (fun h => h)) (by decide) e.symm)
               have m1 := m0.frozen 0
               have m2 := m0.cell 0
               clear hown7 hg7 hat7 m0)
            | (go_simp; go_at_call 67; refine (HA1.out _).mono ?_; rintro e w2 ⟨rfl, hN2⟩; have HN2 := Lib.hid (show NewW wr w2 from Ch.trans' ((Ch.refl _ wr).drew) hN2); clear hN2; have y2 := (HS.out.s.ch HN2.out (fun h => h)).cell 0; have yl2 := (HS.out.s.ch HN2.out (fun h => h)).lt))
          all_goals
            go_wp2_with fail
            refine ⟨⟨k + 1, A7, c7, by omega, by go_num, ?_, HC.out.trans' HF.out.2⟩, by simp [intOf]; omega⟩
            rw [HNX.out.1, HNX.out.2]
            exact HF.out.1
        · have t1 : decide ((k : Int) = (f : Int)) = false := by simp; omega
          have t2 : ((k : Int) == (f : Int)) = false := by simp; omega
          have HNX := Lib.hid (shareP_else (k := k) (f := f) (s := s) (part := PA) (rest := RE) (by omega))
          have HG := Lib.hid (gives_any (k : Int) (by omega) (by omega) (show SH wr B pb rb lb PA (shRun f s PA RE k).1 (.slice A (shareP k f s PA RE).length q) (shareP k f s PA RE) from by rw [hlen]; exact hS) (by rw [hlen]; omega) hpb (HRB.out k))
          obtain ⟨L, hL⟩ : ∃ L, shareP k f s PA RE = L := ⟨_, rfl⟩
          obtain ⟨RK, hRK⟩ : ∃ RK, (shRun f s PA RE k).1 = RK := ⟨_, rfl⟩
          rw [hL] at HG HLEN HNX
          rw [hRK] at HG HNX
          clear hS hL hRK hlen ekf HS
          go_wp2_with fail
          refine HG.out.mono ?_
          rintro e w2 ⟨rfl, A2, q2, hs2, hc2⟩
          dsimp only
          have HS2 := Lib.hid hs2
          have HC2 := Lib.hid (HC.out.trans' hc2)
          rw [HLEN.out] at HS2
          clear hs2 hc2 HG
          go_wp2_with fail
          refine ⟨⟨k + 1, A2, q2, by omega, by go_num, ?_, HC2.out⟩, by simp [intOf]; omega⟩
          rw [HNX.out.1, HNX.out.2]
          exact HS2.out
      · obtain rfl : k = n := by omega
        have l0 := hS.s.cell 0
        have HO := Lib.hid hS.o
        rw [hlen] at HO
        clear hlt hk hS hlen HS
        go_wp2_with fail
        go_ret2
        refine ⟨A, q, rfl, ?_, HC.out.os, HC.out.tape, HC.out.output, HC.out.size, fun g hg _ => HC.out.block g hg (by have := HBB.out; omega)⟩
        rw [HSH.out]
        exact ⟨HLEN.out, Rd.own HO.out⟩
end Go.Proofs.YtbggadhaaphmcaaDoor
