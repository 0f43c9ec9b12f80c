/- BankKeeps: the law's walk. -/
import Derived.Test.YtbggadhaaphmcaaDoorBz
namespace Go.Proofs.YtbggadhaaphmcaaDoor
open Go.Lib Go.RowKit
set_option linter.unusedVariables false

/-- Only the map's pointer and the row differ. -/
abbrev ChK (pb g : Nat) (w w' : World) : Prop := Ch (fun x => x = pb ∨ x = g) w w'
/-- What holds ahead of each deal. -/
structure KP (w wS wr : World) (pb g K : Nat) (each : Int) (m : Nat) (M : Int) (row : List Int) : Prop where
  own : wr.ownsRow w.heap.size 3 1 (.slice (some ⟨g, 0, none⟩) K K) K (rowI row)
  bk : BK w pb m row wr
  bnd : Bnd M row
  sum : sumI row = K * each
  ch : ChK pb g wS wr
  gB : w.heap.size ≤ g
section
variable {w wS wr w2 : World} {pb g K m m' : Nat} {each M M' : Int} {row : List Int}
theorem KP.len (h : KP w wS wr pb g K each m M row) : row.length = K := by
  have := h.own.1
  rw [rowI_len] at this
  omega
theorem KP.new_ (h : KP w wS wr pb g K each m M row) (hc : NewW wr w2) : KP w wS w2 pb g K each m M row :=
  ⟨own_ch h.own hc (fun _ _ h => h), h.bk.new_ hc, h.bnd, h.sum, h.ch.trans' (hc.mono fun _ h => h.elim), h.gB⟩
theorem KP.mono (h : KP w wS wr pb g K each m M row) (hm : m ≤ m') (hM : M ≤ M') : KP w wS wr pb g K each m' M' row := by
  obtain ⟨f, h1, h2, h3⟩ := h.bk.f
  obtain ⟨mb, D, hp⟩ := h1.pm
  exact ⟨h.own, ⟨⟨f, ⟨⟨mb, D, hp.blk, hp.mp.mono hm, hp.pB, hp.mB⟩, h1.below⟩, h2, h3⟩, h.bk.len⟩, h.bnd.mono hM, h.sum, h.ch, h.gB⟩
theorem KP.below (h : KP w wS wr pb g K each m M row) : Below w.heap.size w wr := h.bk.below
/-- The map ran something; the row is as it was. -/
theorem KP.ran (h : KP w wS wr pb g K each m M row) {row2 : List Int} {m2 : Nat} (hb : BK w pb m2 row2 w2) (hc : Ch (fun x => x = pb) wr w2) :
    w2.ownsRow w.heap.size 3 1 (.slice (some ⟨g, 0, none⟩) K K) K (rowI row) ∧ ChK pb g wS w2 := by
  obtain ⟨mb, hmb⟩ := h.bk.mblk
  exact ⟨own_ch h.own hc (fun k hk e => by subst e; exact own_blk_ne h.own hmb (by decide) hk), h.ch.trans' (hc.mono fun _ h => .inl h)⟩
end
theorem chk_ops {pb g ab ao n : Nat} {wS wr : World} {l : List OpD} (h : Ops wS (some ⟨ab, ao, none⟩) n l) (hc : ChK pb g wS wr) (h1 : ab ≠ pb) (h2 : ab ≠ g) : Ops wr (some ⟨ab, ao, none⟩) n l :=
  ⟨h.1, h.2.ch hc (fun b off e hs => by
    injection e with e
    injection e with e1 _ _
    subst e1
    exact hs.elim h1 h2)⟩
theorem ops_pbne {w : World} {pb ab ao n : Nat} {mb : Option Nat} {l : List OpD} (h : Ops w (some ⟨ab, ao, none⟩) n l) (hl : l ≠ []) (hb : Blk w pb 94 #[.map mb]) : ab ≠ pb := by
  rintro rfl
  obtain ⟨o, ho⟩ : ∃ o, l[0]? = some o := by
    rcases l with _ | ⟨o, r⟩
    · exact absurd rfl hl
    · exact ⟨o, rfl⟩
  obtain ⟨b, off, hA, h0, _⟩ := h.at_ ho
  injection hA with hA
  injection hA with e1 e2 _
  subst e1 e2
  rw [hb.cell] at h0
  rcases ao with _ | ao
  · simp at h0
  · simp at h0
theorem audit_ne {k : Nat} (h : 1 ≤ k) : auditL k ≠ [] := fun e => by
  have := auditL_len k
  rw [e] at this
  simp at this
  omega
/-- Behind 'if d.Share': the plan, its error, whether it is right. -/
def CutA (w1 : World) (K : Nat) (d : DealD) (s17 s18 s19 : Value) (wx : World) : Prop :=
  ∃ (A1 : Option Addr) (m1 c1 : Nat) (E : Int), s17 = .slice A1 m1 c1 ∧ s18 = .int .i64 E ∧ s19 = .bool (dealR K d) ∧ (E = 0 ↔ dealR K d = true) ∧ (dealR K d = true → Ops wx A1 m1 (addsL (dealG K d))) ∧ NewW w1 wx
theorem cutA_share {w2 w4 : World} {K c4 : Nat} {fr tt am V : Int} {A4 : Option Addr} (hV : mayE K fr am = V) (hO : Ops w4 A4 (shareL K fr am).length (shareL K fr am)) (hN : NewW w2 w4) :
    CutA w2 K ⟨true, fr, tt, am⟩ (.slice A4 (shareL K fr am).length c4) (.int .i64 V) (.bool (V == 0)) w4 := by
  have e : dealR K ⟨true, fr, tt, am⟩ = (V == 0) := by
    unfold dealR
    dsimp only
    rw [hV, Bool.true_or, Bool.and_true]
    rfl
  refine ⟨A4, _, c4, V, rfl, rfl, by rw [e], ?_, fun h => ?_, hN⟩
  · rw [e]; simp
  · rw [e] at h
    have hs : shareL K fr am = addsL (dealG K ⟨true, fr, tt, am⟩) := by
      unfold shareL dealG
      rw [if_pos (by rw [hV]; simpa using h), if_pos rfl]
    rw [← hs]
    exact hO
theorem cutA_move {w2 w4 : World} {K c4 : Nat} {fr tt am ME : Int} {A4 : Option Addr} {b : Bool} (hM : moveE K fr tt am = ME) (hb : (decide (mayE K fr am = 0) && inB K tt) = b) (hO : Ops w4 A4 (moveL K fr tt am).length (moveL K fr tt am)) (hN : NewW w2 w4) :
    CutA w2 K ⟨false, fr, tt, am⟩ (.slice A4 (moveL K fr tt am).length c4) (.int .i64 ME) (.bool b) w4 := by
  have e : dealR K ⟨false, fr, tt, am⟩ = b := by
    unfold dealR
    dsimp only
    rw [Bool.false_or, hb]
  have h0 : moveE K fr tt am = 0 ↔ dealR K ⟨false, fr, tt, am⟩ = true := by
    rw [e, ← hb, Bool.and_eq_true, decide_eq_true_eq]
    exact move_right
  refine ⟨A4, _, c4, ME, rfl, rfl, by rw [e], by rw [← hM]; exact h0, fun h => ?_, hN⟩
  have hs : moveL K fr tt am = addsL (dealG K ⟨false, fr, tt, am⟩) := move_gifts (d := ⟨false, fr, tt, am⟩) (h0.2 h) rfl
  rw [← hs]
  exact hO
/-- Behind 'if right': the accounts as they are then. -/
def CutB (w wS : World) (pb g K : Nat) (each : Int) (m : Nat) (M : Int) (wx : World) : Prop := ∃ row, KP w wS wx pb g K each m M row
theorem keep_next {w wS w5 w7 wx : World} {pb g K j : Nat} {each : Int} {row : List Int} {d : DealD} {xs : List Value} (hK : KP w wS w5 pb g K each (32 * j + 16) (1048576 + 160000000 * (j : Int)) row)
    (hok : (∀ p ∈ dealG K d, p.1 < K ∧ -10000000 ≤ p.2 ∧ p.2 ≤ 10000000) ∧ (dealG K d).length ≤ 16 ∧ sumI ((dealG K d).map (·.2)) = 0)
    (hB : BK w pb (32 * j + 16 + 16) (addsR row (dealG K d)) w7) (hO7 : w7.ownsRow w.heap.size 3 1 (.slice (some ⟨g, 0, none⟩) K K) K xs) (hO : wx.ownsRow w.heap.size 3 1 (.slice (some ⟨g, 0, none⟩) K K) K (rowI (addsR row (dealG K d))))
    (hC7 : ChK pb g wS w7) (hC : Ch (fun x => x = g) w7 wx) : CutB w wS pb g K each (32 * j + 32) (1048576 + 160000000 * ((j : Int) + 1)) wx := by
  obtain ⟨cur, hcur⟩ := own_blk hO7
  have hb := bnd_addsR (K := 10000000) (by omega) (dealG K d) hK.bnd (fun p hp => (hok.1 p hp).2)
  refine ⟨addsR row (dealG K d), hO, hB.other hcur (by decide) hK.gB hC, hb.mono ?_, ?_, hC7.trans' (hC.mono fun _ h => .inr h), hK.gB⟩
  · have := hok.2.1
    omega
  · rw [sum_addsR (dealG K d) (fun p hp => by rw [hK.len]; exact (hok.1 p hp).1), hok.2.2, hK.sum]
    omega
set_option maxRecDepth 100000 in
set_option maxHeartbeats 16000000 in
theorem keeps_walk (a : Int) (ha0 : 0 ≤ a) (ha1 : a ≤ 255) (each : Int) (A : Option Addr) (n c : Nat) (l : List DealD) (w : World) (hE : Env w) (hD : Deals w A n l) (hn : n ≤ maxLen) :
    Calls Tryd.prog 7 #[.int .u8 a, .int .i64 each, .slice A n c] w fun e w' => e = .returned (.bool true) ∧ Below w.heap.size w w' := by
  have HFX := Lib.hid (fixedB_any hE)
  have HE := Lib.hid hE
  have HD := Lib.hid hD
  have HL := Lib.hid hD.1
  have hnI : (n : Int) ≤ 9223372036854775807 := by unfold maxLen at hn; omega
  obtain ⟨K, hK⟩ : ∃ K : Nat, 1 + a % 16 = (K : Int) := ⟨(1 + a % 16).toNat, by omega⟩
  have hK1 : 1 ≤ K := by omega
  have hK16 : K ≤ 16 := by omega
  have hKI : (K : Int) ≤ 16 := by omega
  obtain ⟨i1, hi1, hy0, hy1, hy2⟩ := info_parts int_info
  clear hE hD hn
  by_cases q1 : each < -1048576
  · have d1 : decide (each < -1048576) = true := by simpa using q1
    clear q1
    go_enter Tryd.func7, Tryd.ntmps7
    go_wp2_with fail
    refine HFX.out.mono ?_
    rintro e w1 ⟨rfl, hb⟩
    dsimp only
    have HB1 := Lib.hid hb
    clear hb HFX
    go_wp2_with fail
    go_ret
    exact ⟨rfl, HB1.out⟩
  have d1 : decide (each < -1048576) = false := by simpa using q1
  by_cases q2 : 1048576 < each
  · have d2 : decide (1048576 < each) = true := by simpa using q2
    clear q1 q2
    go_enter Tryd.func7, Tryd.ntmps7
    go_wp2_with fail
    refine HFX.out.mono ?_
    rintro e w1 ⟨rfl, hb⟩
    dsimp only
    have HB1 := Lib.hid hb
    clear hb HFX
    go_wp2_with fail
    go_ret
    exact ⟨rfl, HB1.out⟩
  have d2 : decide (1048576 < each) = false := by simpa using q2
  by_cases q3 : 100 < n
  · have d3 : decide (100 < (n : Int)) = true := by simp; omega
    have d3' : decide (100 < n) = true := by simpa using q3
    clear q1 q2 q3
    go_enter Tryd.func7, Tryd.ntmps7
    go_wp2_with fail
    refine HFX.out.mono ?_
    rintro e w1 ⟨rfl, hb⟩
    dsimp only
    have HB1 := Lib.hid hb
    clear hb HFX
    go_wp2_with fail
    go_ret
    exact ⟨rfl, HB1.out⟩
  have d3 : decide (100 < (n : Int)) = false := by simp; omega
  have d3' : decide (100 < n) = false := by simpa using q3
  have he : -1048576 ≤ each ∧ each ≤ 1048576 := by omega
  have HEA := Lib.hid he
  obtain ⟨he0, he1⟩ := he
  have hn100 : n ≤ 100 := by omega
  clear q1 q2 q3
  go_enter Tryd.func7, Tryd.ntmps7
  go_wp2_with fail
  refine HFX.out.mono ?_
  rintro e w1 ⟨rfl, hb⟩
  dsimp only
  have HB1 := Lib.hid hb
  have HNE := Lib.hid (km_new w w1 hb)
  clear hb HFX
  go_wp2_with fail
  refine HNE.out.mono ?_
  rintro e w2 ⟨rfl, hk, hN⟩
  dsimp only
  have HK2 := Lib.hid hk
  have HE2 := Lib.hid (HE.out.below hk.below)
  obtain ⟨pb, hpb⟩ : ∃ pb, w1.heap.size + 1 = pb := ⟨_, rfl⟩
  rw [hpb] at HK2
  simp only [hpb]
  have HOP := Lib.hid (Open_any K each hK1 hK16 (by unfold amB; simp; omega) HE2.out)
  clear hk hN HNE hpb
  go_wp2_with fail
  refine HOP.out.mono ?_
  rintro e w3 ⟨A3, c3, rfl, hO, hN⟩
  dsimp only
  have HR1 := Lib.hid (run_open (c := c3) (HK2.out.new_ hN) (by omega) (HE2.out.new_ hN) hK16 HEA.out hO)
  clear hO hN HOP
  go_wp2_with fail
  refine HR1.out.mono ?_
  rintro e w4 ⟨⟨A4, n4, c4, rfl⟩, hb, hc⟩
  dsimp only
  have HB4 := Lib.hid hb
  clear hb hc HR1 HK2 HE2
  have hwB : w.heap.size ≤ w4.heap.size := HB4.out.below.size
  go_wp2_with (first
    | (at_make
       refine wpList_make_full _ rfl _ _ 58 rfl w.heap.size 3 i1 (.int .i64 0) 1 Tryd.underlying58 hi1 hy0 hy1 _ _ _ _ K rfl rfl rfl rfl (by rw [hy2]; omega) (by unfold maxLen; omega) hwB ?_
       intro w5 hown5 hg5
       have HP5 := Lib.hid hown5
       have HC5 := Lib.hid (show NewW w4 w5 from (Ch.refl _ _).grown hg5 (fun x hx => by cases hx))
       clear hown5 hg5))
  obtain ⟨g, hg⟩ : ∃ g, w4.heap.size = g := ⟨_, rfl⟩
  rw [hg] at HP5
  simp only [hg]
  have HPR := Lib.hid (show w5.ownsRow w.heap.size 3 1 (.slice (some ⟨g, 0, none⟩) K K) K (rowI (fillR K each 0)) from by
    have h := HP5.out
    have e : rowI (List.replicate K 0) = List.replicate K (.int .i64 0) := by simp [rowI]
    rw [fill_zero, e]
    rw [show (Value.int .i64 0).cells = #[Value.int .i64 0] from rfl, Nat.mul_one, toList_madeCells_one] at h
    exact h)
  have hgB : w.heap.size ≤ g := by omega
  have HB5 := Lib.hid (HB4.out.new_ HC5.out)
  clear HP5 hg HB4 HC5
  go_loopw [63] (fun i wr => ∃ j : Nat, j ≤ K ∧ i = .int .i64 j ∧ wr.ownsRow w.heap.size 3 1 (.slice (some ⟨g, 0, none⟩) K K) K (rowI (fillR K each j)) ∧ Ch (fun x => x = g) w5 wr) (fun i _ => K - (intOf i).toNat)
  case atStart => exact ⟨0, by omega, rfl, HPR.out, Ch.refl _ _⟩
  case round =>
    obtain ⟨j, hj, rfl, hP, hC⟩ := hrel
    have HC := Lib.hid hC
    by_cases hlt : j < K
    · have x0 := own_cell hP (rowI_get (fill_at hlt))
      have x1 := hP.frozenAt j
      have dk1 : decide ((K : Int) ≤ (j : Int)) = false := by simp; omega
      have dk0 : decide ((j : Int) < 0) = false := by simp
      have HP2 := Lib.hid (show (wr.setCell ⟨g, j, none⟩ (.int .i64 each)).ownsRow w.heap.size 3 1 (.slice (some ⟨g, 0, none⟩) K K) K (rowI (fillR K each (j + 1))) from by
        rw [← fill_step hlt, rowI_set]
        exact (hP.stored j (.int .i64 each)).1)
      have HC2 := Lib.hid (HC.out.setCell (p := ⟨g, j, none⟩) (.inl rfl) (.int .i64 each))
      clear hP hC
      go_wp2_with fail
      exact ⟨⟨j + 1, by omega, by go_num, HP2.out, HC2.out⟩, by simp [intOf]; omega⟩
    · obtain rfl : K = j := by omega
      rw [fill_end] at hP
      obtain ⟨cur, hcur⟩ := own_blk HPR.out
      have HB6 := Lib.hid (HB5.out.other hcur (by decide) hgB hC)
      have HP6 := Lib.hid hP
      have HAU := Lib.hid (Audit_any K hK1 hK16 wr)
      clear hlt hj hP hC hcur HB5 HPR HC
      go_wp2_with fail
      refine HAU.out.mono ?_
      rintro e wS ⟨AS, cS, rfl, hO, hN⟩
      dsimp only
      have HKP := Lib.hid (show KP w wS wS pb g K each 16 1048576 (List.replicate K each) from
        ⟨own_ch HP6.out hN (fun _ _ h => h), HB6.out.new_ hN, fun x hx => by have := List.eq_of_mem_replicate hx; subst this; exact HEA.out, sum_replicate K each, Ch.refl _ _, hgB⟩)
      obtain ⟨ab, ao, rfl, hab⟩ := ops_row hO (audit_ne hK1) HKP.out.own (rowI_str _)
      obtain ⟨mb, hmb⟩ := HKP.out.bk.mblk
      have HPN := Lib.hid (ops_pbne hO (audit_ne hK1) hmb)
      have HAB := Lib.hid hab
      have HOS := Lib.hid hO
      have hPB : -16777216 ≤ (K : Int) * each ∧ (K : Int) * each ≤ 16777216 := by
        have h1 := Int.mul_le_mul_of_nonneg_left he1 (show (0 : Int) ≤ (K : Int) by omega)
        have h2 := Int.mul_le_mul_of_nonneg_left he0 (show (0 : Int) ≤ (K : Int) by omega)
        omega
      obtain ⟨PP, hPP⟩ : ∃ PP, (K : Int) * each = PP := ⟨_, rfl⟩
      have hw1 : IntKind.i64.wrap ((K : Int) * each) = PP := by rw [hPP]; rw [hPP] at hPB; exact IntWalk.i64_in _ ⟨by omega, by omega⟩
      have HPP := Lib.hid hPP
      clear hO hN HAU HB6 HP6 hab hmb hPB hPP
      go_wp2_with fail
      go_loopw [78] (fun i wr => ∃ (j : Nat) (row : List Int), j ≤ n ∧ i = .int .i64 j ∧ KP w wS wr pb g K each (32 * j + 16) (1048576 + 160000000 * (j : Int)) row) (fun i _ => n - (intOf i).toNat)
      case atStart => exact ⟨0, _, by omega, rfl, by simpa using HKP.out⟩
      case round =>
        obtain ⟨j, row, hj, rfl, hKP⟩ := hrel
        have HK := Lib.hid hKP
        clear hKP
        by_cases hlt : j < n
        · have hj100 : j < 100 := by omega
          obtain ⟨d, hd⟩ := some_of_lt (show j < l.length by rw [HL.out]; exact hlt)
          obtain ⟨db, doff, rfl, x0, x1, x2, x3⟩ := (HD.out.below HK.out.below).at_ hd
          have HDD := Lib.hid hd
          obtain ⟨sh, fr, tt, am⟩ := d
          dsimp only at x0 x1 x2 x3
          have HK1 := Lib.hid (HK.out.new_ ((Ch.refl (fun _ => False) wr).alloc (.cells #[.bool sh, .int .i64 fr, .int .i64 tt, .int .i64 am] 63)))
          have hLB := Blk.new wr 63 #[.bool sh, .int .i64 fr, .int .i64 tt, .int .i64 am]
          have HLB := Lib.hid hLB
          have HMV := Lib.hid (fun w' => Move_any K fr tt am w')
          have HMR := Lib.hid (fun w' => may_ref K fr am w')
          obtain ⟨ME, hME⟩ : ∃ ME, moveE K fr tt am = ME := ⟨_, rfl⟩
          have HME := Lib.hid hME
          rw [hME] at HMV
          obtain ⟨V, hV⟩ : ∃ V, mayE K fr am = V := ⟨_, rfl⟩
          have HV := Lib.hid hV
          rw [hV] at HMR
          clear hd hME hV HK hLB
          go_wp2_with fail
          obtain ⟨w1, hw1'⟩ : ∃ w1, wr.alloc (.cells #[.bool sh, .int .i64 fr, .int .i64 tt, .int .i64 am] 63) = w1 := ⟨_, rfl⟩
          rw [hw1'] at HK1 HLB
          obtain ⟨lb, hlb⟩ : ∃ lb, wr.heap.size = lb := ⟨_, rfl⟩
          rw [hlb] at HLB
          try simp only [hw1', hlb]
          clear hw1' hlb x0 x1 x2 x3
          refine (HMV.out _).mono ?_
          rintro e w2 ⟨A2, c2, rfl, hO, hN⟩
          dsimp only
          have HN2 := Lib.hid (show NewW w1 w2 from hN)
          have HO2 := Lib.hid hO
          have z0 := (HLB.out.ch HN2.out (fun h => h)).cell 0
          have z1 := (HLB.out.ch HN2.out (fun h => h)).cell 1
          have z2 := (HLB.out.ch HN2.out (fun h => h)).cell 2
          have z3 := (HLB.out.ch HN2.out (fun h => h)).cell 3
          clear hO hN HMV
          go_wp2_with fail
          refine (HMR.out _).mono ?_
          rintro e w3 ⟨rfl, rfl⟩
          dsimp only
          go_upto_if 101 with (fail)
          go_cut [17, 18, 19] (fun s17 s18 s19 wx => CutA w2 K ⟨sh, fr, tt, am⟩ s17 s18 s19 wx)
          case first => as_aux_lemma =>
            rcases Bool.eq_false_or_eq_true sh with hsh | hsh
            · subst hsh
              have HSH := Lib.hid (fun w' => Share_all K fr am w')
              rw [HV.out] at HSH
              go_wp2_with fail
              refine (HSH.out _).mono ?_
              rintro e w4 ⟨A4, c4, rfl, hO, hN⟩
              dsimp only
              have HO4 := Lib.hid hO
              have HN4 := Lib.hid hN
              clear hO hN
              go_wp2_with fail
              go_meet
              exact cutA_share HV.out HO4.out HN4.out
            · subst hsh
              by_cases h1 : V = 0
              · have dV : (V == 0) = true := by simpa using h1
                have dV2 : decide (mayE K fr am = 0) = true := by rw [HV.out]; simpa using h1
                by_cases h2 : 0 ≤ tt
                · have d4 : decide (0 ≤ tt) = true := by simpa using h2
                  by_cases h3 : tt < K
                  · have d5 : decide (tt < (K : Int)) = true := by simpa using h3
                    have HCA := Lib.hid (cutA_move (c4 := c2) (b := true) HME.out (by rw [dV2]; unfold inB; rw [d4, d5]; rfl) HO2.out (Ch.refl _ _))
                    clear h1 h2 h3 dV2
                    go_wp2_with fail
                    go_meet
                    exact HCA.out
                  · have d5 : decide (tt < (K : Int)) = false := by simpa using h3
                    have HCA := Lib.hid (cutA_move (c4 := c2) (b := false) HME.out (by rw [dV2]; unfold inB; rw [d4, d5]; rfl) HO2.out (Ch.refl _ _))
                    clear h1 h2 h3 dV2
                    go_wp2_with fail
                    go_meet
                    exact HCA.out
                · have d4 : decide (0 ≤ tt) = false := by simpa using h2
                  have HCA := Lib.hid (cutA_move (c4 := c2) (b := false) HME.out (by rw [dV2]; unfold inB; rw [d4]; rfl) HO2.out (Ch.refl _ _))
                  clear h1 h2 dV2
                  go_wp2_with fail
                  go_meet
                  exact HCA.out
              · have dV : (V == 0) = false := by simpa using h1
                have dV2 : decide (mayE K fr am = 0) = false := by rw [HV.out]; simpa using h1
                have HCA := Lib.hid (cutA_move (c4 := c2) (b := false) HME.out (by rw [dV2]; rfl) HO2.out (Ch.refl _ _))
                clear h1 dV2
                go_wp2_with fail
                go_meet
                exact HCA.out
          case rest => as_aux_lemma =>
            obtain ⟨A5, m5, c5, E, rfl, rfl, rfl, hE, hO, hN⟩ := hcut
            obtain ⟨w5, rfl⟩ : ∃ w5 : World, w5 = wc := ⟨_, rfl⟩
            have HK5 := Lib.hid ((HK1.out.new_ HN2.out).new_ hN)
            have HLB5 := Lib.hid ((HLB.out.ch HN2.out (fun h => h)).ch hN (fun h => h))
            have HO5 := Lib.hid hO
            obtain ⟨RT, hRT⟩ : ∃ RT, dealR K ⟨sh, fr, tt, am⟩ = RT := ⟨_, rfl⟩
            have HRT := Lib.hid hRT
            rw [hRT] at hE HO5
            rw [hRT]
            have dE : (E == 0) = RT := by
              cases RT
              · simpa using fun h => absurd (hE.1 h) (by simp)
              · simpa using hE.2 rfl
            have dE2 : decide (E = 0) = RT := dE
            have dR : (RT != RT) = false := by simp
            clear hE hO hN hRT HK1 HLB HN2 HO2 HMR z0 z1 z2 z3
            go_upto_if 127 with (fail)
            go_cut [20] (fun _ wx => CutB w wS pb g K each (32 * j + 32) (1048576 + 160000000 * ((j : Int) + 1)) wx)
            case first => as_aux_lemma =>
              cases RT
              · have HCB := Lib.hid (show CutB w wS pb g K each (32 * j + 32) (1048576 + 160000000 * ((j : Int) + 1)) w5 from ⟨row, HK5.out.mono (by omega) (by omega)⟩)
                go_wp2_with fail
                go_meet
                exact HCB.out
              · have hok := deal_ok HRT.out
                have hlen := HK5.out.len
                have HRU := Lib.hid (run_adds (c := c5) HK5.out.bk (by omega) (HE.out.below HK5.out.below) HK5.out.bnd hok.2.1 (by omega) (fun p hp => by rw [hlen]; exact hok.1 p hp) (HO5.out rfl))
                have HOK := Lib.hid hok
                have HLEN := Lib.hid hlen
                have hmay : mayE K fr am = 0 := by
                  have := HRT.out
                  unfold dealR at this
                  rw [Bool.and_eq_true] at this
                  exact of_decide_eq_true this.1
                obtain ⟨hf0, hf1, _, ham0, ham1⟩ := may_zero hmay
                obtain ⟨F, rfl⟩ : ∃ F : Nat, fr = F := ⟨fr.toNat, by omega⟩
                clear hok hlen hmay HO5
                go_wp2_with fail
                refine HRU.out.mono ?_
                rintro e w6 ⟨⟨A6, n6, c6, rfl⟩, hb, hc⟩
                dsimp only
                obtain ⟨ho6, hch6⟩ := HK5.out.ran hb hc
                obtain ⟨mb, hmb⟩ := HK5.out.bk.mblk
                have HLB6 := Lib.hid (HLB5.out.ch hc (fun e => Blk.ne_ HLB5.out hmb (by decide) e))
                have HB6 := Lib.hid hb
                have HO6 := Lib.hid ho6
                have HCH6 := Lib.hid hch6
                have z0 := HLB6.out.cell 0
                have z1 := HLB6.out.cell 1
                have z2 := HLB6.out.cell 2
                have z3 := HLB6.out.cell 3
                clear hb hc ho6 hch6 hmb HRU
                rcases Bool.eq_false_or_eq_true sh with hsh | hsh
                · as_aux_lemma =>
                  subst hsh
                  have HG := Lib.hid (show dealG K ⟨true, (F : Int), tt, am⟩ = giftsOf (shareI K F am) from rfl)
                  have HPA := Lib.hid (Parts_ref K F am hK1 hK16 (by omega) ⟨ham0, ham1⟩ w6)
                  have hsl : (shareI K (F : Int) am).length = K := shareI_len _ _ hK1
                  go_wp2_with fail
                  refine HPA.out.mono ?_
                  rintro e w7 ⟨gp, rfl, hp, hN⟩
                  dsimp only
                  have HP7 := Lib.hid hp
                  have HB7 := Lib.hid (HB6.out.new_ hN)
                  have HO7 := Lib.hid (own_ch HO6.out hN (fun _ _ h => h))
                  have HCH7 := Lib.hid (HCH6.out.trans' (hN.mono fun _ h => h.elim))
                  have hgp : g < gp := by
                    have h1 := (own_lt hp (g := gp) rfl).1
                    have h2 := (own_lt HO6.out (g := g) rfl).2
                    omega
                  have hsb := share_bound (n := K) (f := (F : Int)) (s := am) hK1 ⟨ham0, ham1⟩
                  have HSB := Lib.hid hsb
                  generalize shareI K (F : Int) am = SL at *
                  have HSL := Lib.hid hsl
                  clear hp hN HPA hsl HO6 HB6 HCH6 HLB6 z0 z1 z2 z3 hsb
                  go_wp2_with fail
                  go_loopw [145] (fun i wx => ∃ q : Nat, q ≤ K ∧ i = .int .i64 q ∧ wx.ownsRow w.heap.size 3 1 (.slice (some ⟨g, 0, none⟩) K K) K (rowI (addsR row (giftsOf (SL.take q)))) ∧ Ch (fun x => x = g) w7 wx) (fun i _ => K - (intOf i).toNat)
                  case atStart => exact ⟨0, by omega, rfl, HO7.out, Ch.refl _ _⟩
                  case round =>
                    obtain ⟨q, hq, rfl, hO, hC⟩ := hrel
                    have HO8 := Lib.hid hO
                    have HC8 := Lib.hid hC
                    clear hC
                    by_cases hqk : q < K
                    · obtain ⟨x, hx⟩ := some_of_lt (show q < SL.length by rw [HSL.out]; exact hqk)
                      obtain ⟨y, hy⟩ := some_of_lt (show q < (addsR row (giftsOf (SL.take q))).length by rw [addsR_len, HLEN.out]; exact hqk)
                      have x0 := own_cell (own_ch HP7.out HC8.out (fun k hk e => by
                        have : gp = k := by simpa [Value.ownBlock] using hk
                        omega)) (rowI_get hx)
                      have y0 := own_cell hO (rowI_get hy)
                      have y1 := hO.frozenAt q
                      have dk1 : decide ((K : Int) ≤ (q : Int)) = false := by simp; omega
                      have dk0 : decide ((q : Int) < 0) = false := by simp
                      have hxb := HSB.out x (mem_of_some hx)
                      have hyb := bnd_addsR (K := 10000000) (by omega) (giftsOf (SL.take q)) HK5.out.bnd (fun p hp => HSB.out _ (List.mem_of_mem_take (gifts_mem hp).2)) y (mem_of_some hy)
                      rw [gifts_len, List.length_take, HSL.out, show min q K = q by omega] at hyb
                      have hst : addsR row (giftsOf (SL.take (q + 1))) = (addsR row (giftsOf (SL.take q))).set q (y + x) := by
                        rw [List.take_succ_eq_append_getElem (lt_of_some hx), gifts_snoc, addsR_snoc]
                        rw [List.getElem?_eq_getElem (lt_of_some hx)] at hx
                        injection hx with hx
                        rw [hx, List.length_take, HSL.out, show min q K = q by omega, addR_set hy]
                      have HO9 := Lib.hid (show (wr.setCell ⟨g, q, none⟩ (.int .i64 (y + x))).ownsRow w.heap.size 3 1 (.slice (some ⟨g, 0, none⟩) K K) K (rowI (addsR row (giftsOf (SL.take (q + 1))))) from by
                        rw [hst, rowI_set]
                        exact (hO.stored q (.int .i64 (y + x))).1)
                      have HC9 := Lib.hid (HC8.out.setCell (p := ⟨g, q, none⟩) (.inl rfl) (.int .i64 (y + x)))
                      have hwx : IntKind.i64.wrap (y + x) = y + x := IntWalk.i64_in _ ⟨by omega, by omega⟩
                      clear hst hx hy hO HO8 HC8
                      go_wp2_with fail
                      exact ⟨⟨q + 1, by omega, by go_num, HO9.out, HC9.out⟩, by simp [intOf]; omega⟩
                    · obtain rfl : K = q := by omega
                      have hall : SL.take K = SL := by rw [← HSL.out, List.take_length]
                      rw [hall, ← HG.out] at HO8
                      have HCB := Lib.hid (show CutB w wS pb g K each (32 * j + 32) (1048576 + 160000000 * ((j : Int) + 1)) wr from keep_next HK5.out HOK.out HB7.out HO7.out HO8.out HCH7.out HC8.out)
                      clear hqk hq hall
                      go_wp2_with fail
                      go_meet
                      exact HCB.out
                · as_aux_lemma =>
                  subst hsh
                  have HG := Lib.hid (show dealG K ⟨false, (F : Int), tt, am⟩ = if (F : Int) = tt then [(F, 0)] else [(F, -am), (tt.toNat, am)] from rfl)
                  have hin : inB K tt = true := by
                    have := HRT.out
                    unfold dealR at this
                    rw [Bool.and_eq_true] at this
                    simpa using this.2
                  unfold inB at hin
                  simp at hin
                  obtain ⟨T, rfl⟩ : ∃ T : Nat, tt = T := ⟨tt.toNat, by omega⟩
                  have hFK : F < K := by omega
                  have hTK : T < K := by omega
                  obtain ⟨y, hy⟩ := some_of_lt (show F < row.length by rw [HLEN.out]; exact hFK)
                  have hyb := HK5.out.bnd y (mem_of_some hy)
                  have HY := Lib.hid hy
                  have y0 := own_cell HO6.out (rowI_get hy)
                  have y1 := HO6.out.frozenAt F
                  have f0 : decide ((F : Int) < 0) = false := by simp
                  have f1 : decide ((K : Int) ≤ (F : Int)) = false := by simp; omega
                  have g0 : decide ((T : Int) < 0) = false := by simp
                  have g1 : decide ((K : Int) ≤ (T : Int)) = false := by simp; omega
                  have fI : (F : Int) < (K : Int) := by omega
                  have gI : (T : Int) < (K : Int) := by omega
                  have hwx : IntKind.i64.wrap (y - am) = y - am := IntWalk.i64_in _ ⟨by omega, by omega⟩
                  clear hy hin hf1 hf0
                  go_upto_region 36 with (fail)
                  go_region
                  have HO7 := Lib.hid (show (w6.setCell ⟨g, F, none⟩ (.int .i64 (y - am))).drew.ownsRow w.heap.size 3 1 (.slice (some ⟨g, 0, none⟩) K K) K (rowI (row.set F (y - am))) from by
                    rw [rowI_set]
                    exact (HO6.out.stored F (.int .i64 (y - am))).1.drew)
                  obtain ⟨cur, hcur⟩ := own_blk HO6.out
                  have HLB7 := Lib.hid (show Blk (w6.setCell ⟨g, F, none⟩ (.int .i64 (y - am))).drew lb 63 _ from (HLB6.out.far (p := ⟨g, F, none⟩) (Blk.ne_ HLB6.out hcur (by decide)) (.int .i64 (y - am))).drew)
                  have HC7 := Lib.hid (show Ch (fun x => x = g) w6 (w6.setCell ⟨g, F, none⟩ (.int .i64 (y - am))).drew from ((Ch.refl (fun x => x = g) w6).setCell (p := ⟨g, F, none⟩) (.inl rfl) (.int .i64 (y - am))).drew)
                  generalize (w6.setCell ⟨g, F, none⟩ (.int .i64 (y - am))).drew = w7 at *
                  obtain ⟨z, hz⟩ := some_of_lt (show T < (row.set F (y - am)).length by rw [List.length_set, HLEN.out]; exact hTK)
                  have hzb : -20000000000 ≤ z ∧ z ≤ 20000000000 := by
                    rcases List.mem_or_eq_of_mem_set (mem_of_some hz) with h | h
                    · have := HK5.out.bnd z h; omega
                    · omega
                  have HZ := Lib.hid hz
                  have y0 := own_cell HO7.out (rowI_get hz)
                  have y1 := HO7.out.frozenAt T
                  have z1 := HLB7.out.cell 1
                  have z2 := HLB7.out.cell 2
                  have z3 := HLB7.out.cell 3
                  have hwz : IntKind.i64.wrap (z + am) = z + am := IntWalk.i64_in _ ⟨by omega, by omega⟩
                  clear hz z0 hwx hcur HLB6
                  go_upto_region 37 with (fail)
                  go_region
                  have HCB := Lib.hid (show CutB w wS pb g K each (32 * j + 32) (1048576 + 160000000 * ((j : Int) + 1)) (w7.setCell ⟨g, T, none⟩ (.int .i64 (z + am))).drew from
                    keep_next HK5.out HOK.out HB6.out HO6.out (by
                      have h := (HO7.out.stored T (.int .i64 (z + am))).1.drew
                      rw [← rowI_set] at h
                      have e : (row.set F (y - am)).set T (z + am) = addsR row (dealG K ⟨false, (F : Int), (T : Int), am⟩) := by
                        rw [HG.out]
                        by_cases e : F = T
                        · subst e
                          rw [if_pos rfl]
                          have hz2 := HZ.out
                          rw [List.getElem?_set_self (lt_of_some HY.out)] at hz2
                          injection hz2 with hz2
                          rw [← hz2]
                          exact adds_same HY.out
                        · rw [if_neg (by omega)]
                          have hz2 := HZ.out
                          rw [List.getElem?_set_ne e] at hz2
                          exact adds_two HY.out e hz2
                      rw [← e]
                      exact h) HCH6.out ((HC7.out.setCell (p := ⟨g, T, none⟩) (.inl rfl) _).drew))
                  go_wp2_with fail
                  go_meet
                  exact HCB.out
            case rest => as_aux_lemma =>
              obtain ⟨rw2, hKP⟩ := hcut
              obtain ⟨w8, rfl⟩ : ∃ w8 : World, w8 = wc := ⟨_, rfl⟩
              have HK8 := Lib.hid hKP
              have hM8 : Bnd 1000000000000 rw2 := hKP.bnd.mono (by omega)
              have HM8 := Lib.hid hM8
              have hl8 := hKP.len
              have HL8 := Lib.hid hl8
              have HRA := Lib.hid (run_audit (c := cS) hKP.bk (by omega) (HE.out.below hKP.below) hl8 hM8 (chk_ops HOS.out hKP.ch HPN.out HAB.out))
              clear hKP hM8 hl8 HK5 HLB5 HO5 HRT HV HME
              go_wp2_with fail
              refine HRA.out.mono ?_
              rintro e w9 ⟨⟨A9, c9, rfl, hp⟩, hb, hc⟩
              dsimp only
              obtain ⟨ho9, hch9⟩ := HK8.out.ran hb hc
              have HK9 := Lib.hid (show KP w wS w9 pb g K each (32 * j + 32 + 16) (1048576 + 160000000 * ((j : Int) + 1)) rw2 from ⟨ho9, hb, HK8.out.bnd, HK8.out.sum, hch9, HK8.out.gB⟩)
              have HP9 := Lib.hid hp
              have hBR := bals_row HM8.out
              have hEV := HE.out.below hb.below
              have HBA := Lib.hid (fun w' (hc : NewW w9 w') => Balances_any (c := c9) (hp.new_ hc) (by omega) (prs_size HM8.out) (hEV.new_ hc))
              have HTO := Lib.hid (fun w' (hc : NewW w9 w') => Total_any (c := c9) (hp.new_ hc) (by omega) (prs_size HM8.out) (hEV.new_ hc))
              have HPO := Lib.hid (fun w' (hc : NewW w9 w') => Poor_any (c := c9) (hp.new_ hc) (by omega) (prs_size HM8.out) (hEV.new_ hc))
              simp only [hBR] at HBA HTO HPO
              rw [HK8.out.sum, HPP.out] at HTO
              clear hb hc ho9 hch9 hp hBR hEV HRA HK8
              go_wp2_with fail
              refine (HBA.out _ (Ch.refl _ _)).mono ?_
              rintro e wa ⟨Aa, ca, rfl, ho, hN⟩
              dsimp only
              have HBR := Lib.hid ho
              have HNa := Lib.hid (show NewW w9 wa from hN)
              have eK : ((K : Int) != (K : Int)) = false := by simp
              have eP : (PP != PP) = false := by simp
              clear ho hN HBA
              go_wp2_with fail
              refine (HTO.out _ HNa.out).mono ?_
              rintro e wb ⟨rfl, hN⟩
              dsimp only
              have HBRb := Lib.hid (own_ch HBR.out hN (fun _ _ h => h))
              have HNb := Lib.hid (HNa.out.trans' hN)
              clear hN HTO HBR HNa
              go_wp2_with fail
              obtain ⟨ga, qa, hva, _, _⟩ := HBRb.out.form (by omega)
              injection hva with hva _ hqa
              subst hva hqa
              go_loopw [27, 28, 202] (fun sp ss i wx => ∃ q : Nat, q ≤ K ∧ i = .int .i64 q ∧ sp = .int .i64 (((poorI (rw2.take q) 0).getD 0 : Nat) : Int) ∧ ss = .bool (poorI (rw2.take q) 0).isSome ∧ NewW wb wx) (fun _ _ i _ => K - (intOf i).toNat)
              case atStart => exact ⟨0, by omega, rfl, rfl, rfl, Ch.refl _ _⟩
              case round =>
                obtain ⟨q, hq, rfl, rfl, rfl, hC⟩ := hrel
                have HC := Lib.hid hC
                clear hC
                by_cases hqk : q < K
                · obtain ⟨X, hX⟩ := some_of_lt (show q < rw2.length by rw [HL8.out]; exact hqk)
                  have x0 := own_cell (own_ch HBRb.out HC.out (fun _ _ h => h)) (rowI_get hX)
                  have x1 := own_cell (HK9.out.new_ (HNb.out.trans' HC.out)).own (rowI_get hX)
                  have eX : (X != X) = false := by simp
                  have dk1 : decide ((K : Int) ≤ (q : Int)) = false := by simp; omega
                  have dk0 : decide ((q : Int) < 0) = false := by simp
                  have qI : (q : Int) < (K : Int) := by omega
                  have HST := Lib.hid (poor_step hX)
                  generalize hPO : poorI (rw2.take q) 0 = PO at *
                  have HPR := Lib.hid hPO
                  clear hX hPO
                  by_cases hneg : X < 0
                  · have dn : decide (X < 0) = true := by simpa using hneg
                    rcases PO with _ | i0
                    · have HS2 := Lib.hid (show poorI (rw2.take (q + 1)) 0 = some q by rw [HST.out, if_pos ⟨hneg, rfl⟩])
                      clear hneg HST
                      go_wp2_with fail
                      go_quiet (fail)
                      go_wp2_with fail
                      exact ⟨⟨q + 1, by omega, by go_num, by rw [HS2.out]; rfl, by rw [HS2.out]; rfl, HC.out.drewN nq⟩, by simp [intOf]; omega⟩
                    · have HS2 := Lib.hid (show poorI (rw2.take (q + 1)) 0 = some i0 by rw [HST.out, if_neg (by simp)])
                      clear hneg HST
                      go_wp2_with fail
                      go_quiet (fail)
                      go_wp2_with fail
                      exact ⟨⟨q + 1, by omega, by go_num, by rw [HS2.out]; rfl, by rw [HS2.out]; rfl, HC.out.drewN nq⟩, by simp [intOf]; omega⟩
                  · have dn : decide (X < 0) = false := by simpa using hneg
                    have HS2 := Lib.hid (show poorI (rw2.take (q + 1)) 0 = PO by rw [HST.out, if_neg (fun h => hneg h.1)])
                    clear hneg HST
                    go_wp2_with fail
                    go_quiet (fail)
                    go_wp2_with fail
                    exact ⟨⟨q + 1, by omega, by go_num, by rw [HS2.out], by rw [HS2.out], HC.out.drewN nq⟩, by simp [intOf]; omega⟩
                · obtain rfl : K = q := by omega
                  have hall : rw2.take K = rw2 := by rw [← HL8.out, List.take_length]
                  rw [hall]
                  have HPX := Lib.hid (HPO.out _ (HNb.out.trans' HC.out))
                  have HKE := Lib.hid (fun w' (hc : NewW w9 w') => (HK9.out.new_ hc).mono (show 32 * j + 32 + 16 ≤ 32 * (j + 1) + 16 by omega) (show (1048576 + 160000000 * ((j : Int) + 1)) ≤ 1048576 + 160000000 * ((j + 1 : Nat) : Int) by push_cast; omega))
                  have HCC := Lib.hid (HNb.out.trans' HC.out)
                  generalize (((poorI rw2 0).getD 0 : Nat) : Int) = P1 at *
                  generalize (poorI rw2 0).isSome = B1 at *
                  have e1 : (P1 != P1) = false := by simp
                  have e2 : (B1 != B1) = false := by simp
                  clear hqk hq hall HPO HK9 HC HBRb HNb
                  go_wp2_with fail
                  refine HPX.out.mono ?_
                  rintro e wc2 ⟨rfl, hN⟩
                  dsimp only
                  have HKF := Lib.hid (HKE.out _ (HCC.out.trans' hN))
                  clear hN HKE HCC HPX
                  go_wp2_with fail
                  exact ⟨⟨j + 1, rw2, by omega, by go_num, HKF.out⟩, by simp [intOf]; omega⟩
        · obtain rfl : n = j := by omega
          have HBE := Lib.hid HK.out.below
          clear hlt hj
          go_wp2_with fail
          go_ret
          exact ⟨rfl, HBE.out⟩
end Go.Proofs.YtbggadhaaphmcaaDoor
