/- WaitsBroken: the law's walk. -/
import Derived.Test.YtfcdplfnhjbdnabDoorCl
namespace Go.Proofs.YtfcdplfnhjbdnabDoor
open Go.RowKit Go.Sort
set_option linter.unusedVariables false

theorem row_kp {w w' : World} {B n c : Nat} {A : Option Addr} {L : List Int} (ho : w.ownsRow B 3 1 (.slice A n c) n (ints L)) (hk : KpT w w') {j : Nat} {x : Int} (hx : L[j]? = some x) : ∃ g, A = some ⟨g, 0, none⟩ ∧ w'.cell? ⟨g, j, none⟩ = some (.int .i64 x) := by
  have hn : L.length = n := by have := ho.1; simpa [ints] using this
  obtain ⟨g, q, hv, _, _⟩ := ho.form (by have := lt_of_some hx; omega)
  injection hv with hv _ _
  subst hv
  obtain ⟨cur, hcur⟩ := own_blk ho
  have hc := ho.cells (g := g) rfl j (.int .i64 x) (by rw [List.getElem?_map, hx]; rfl)
  rw [add_mk, Nat.zero_add] at hc
  exact ⟨g, rfl, by rw [(hk g 3 cur (by decide) (by decide) hcur).cell, ← hcur.cell]; exact hc⟩
theorem reach_self {l : List Nd} (h : Ok l) {i : Nat} {x : Nd} (hx : l[i]? = some x) (hc : cycAt l i = true) : reachB l x.id x.id = true := by
  rcases idx_cases l x.id with ⟨_, hno⟩ | ⟨j, y, hj, hy, hyi⟩
  · exact absurd rfl (hno x (mem_of_some hx))
  · obtain rfl := ids_inj h hx hy hyi.symm
    unfold reachB
    rw [hj, decide_eq_true (show (0 : Int) ≤ (i : Int) by omega), Int.toNat_natCast]
    exact hc
theorem cyc_bool {l : List Nd} (h : Ok l) {r : Bool} (hc : Cyc l r) : r = decide (0 < (vicK l l.length).length) := by
  rcases hc with ⟨rfl, i, hi, hci⟩ | ⟨rfl, hall⟩
  · obtain ⟨y, hy⟩ := cyc_vict h hci
    obtain ⟨x, hx⟩ := some_of_lt (vict_cyc h hy).1
    have := vic_mem.2 ⟨y, x, hx, rfl, hy⟩
    exact (decide_eq_true (List.length_pos_of_mem this)).symm
  · refine (decide_eq_false fun hp => ?_).symm
    obtain ⟨v, hv⟩ := List.exists_mem_of_length_pos hp
    obtain ⟨i, x, hx, _, hvi⟩ := vic_mem.1 hv
    have := vict_cyc h hvi
    rw [hall i this.1] at this
    cases this.2
theorem nodes_len (ss : List Int) (hs : ∀ x, x ∈ ss → 0 ≤ x ∧ x ≤ 255) (h40 : ss.length ≤ 40) : ∀ k, k ≤ ss.length → (nodesF ss k).length = k ∧ ∀ (i : Nat) (x : Nd), (nodesF ss k)[i]? = some x → x.id = i ∧ x.to = 0 ∧ x.st = ss.getD i 0
  | 0, _ => ⟨rfl, fun i x hx => by simp [nodesF] at hx⟩
  | k + 1, hk => by
    obtain ⟨ih1, ih2⟩ := nodes_len ss hs h40 k (by omega)
    obtain ⟨s, hsk⟩ := some_of_lt (show k < ss.length by omega)
    have hsv := hs s (mem_of_some hsk)
    have hg : ss.getD k 0 = s := by rw [List.getD_eq_getElem?_getD, hsk]; rfl
    have hno : ∀ x : Nd, x ∈ nodesF ss k → x.id ≠ (k : Int) := fun x hx e => by
      obtain ⟨i, hi⟩ := List.mem_iff_getElem?.1 hx
      have := (ih2 i x hi).1
      have := lt_of_some hi
      omega
    have hE : nodeE (nodesF ss k) k s = 0 := by
      unfold nodeE
      rw [if_neg (by omega), List.find?_eq_none.2 (fun x hx => by simpa using hno x hx)]
      simp only
      rw [if_neg (by omega)]
    have hL : nodesF ss (k + 1) = nodesF ss k ++ [⟨k, s, 0⟩] := by
      rw [nodesF_succ, hg]
      unfold nodeL
      rw [if_pos ⟨hE, hno⟩]
    rw [hL]
    refine ⟨by rw [List.length_append, ih1]; rfl, fun i x hx => ?_⟩
    by_cases hi : i < k
    · rw [List.getElem?_append_left (by omega)] at hx
      exact ih2 i x hx
    · rw [List.getElem?_append_right (by omega), ih1] at hx
      have hl := lt_of_some hx
      simp at hl
      have : i = k := by omega
      subst this
      rw [Nat.sub_self] at hx
      simp at hx
      subst hx
      exact ⟨rfl, rfl, hg.symm⟩
theorem edgeL_len (l : List Nd) (a b : Int) : (edgeL l a b).length = l.length := by
  unfold edgeL
  split
  · exact setTo_len _ _ _
  · rfl
theorem madeF_len (es : List (Int × Int)) : ∀ l : List Nd, (madeF l es).length = l.length := by
  induction es with
  | nil => exact fun l => rfl
  | cons e r ih =>
    intro l
    show (madeF (edgeL l e.1 e.2) r).length = _
    rw [ih, edgeL_len]
set_option maxRecDepth 100000 in
set_option maxHeartbeats 4000000 in
theorem broken_walk (A1 A2 : Option Addr) (n1 c1 n2 c2 : Nat) (w : World) (hT : Tab w) (h1 : ∃ ss, Ints .u8 w A1 n1 ss) (h2 : ∃ es, EdgesAt w A2 n2 es) :
    Calls Tryd.prog 4 #[.slice A1 n1 c1, .slice A2 n2 c2] w fun e w' => e = .returned (.bool true) ∧ Below w.heap.size w w' := by
  obtain ⟨ss, h1⟩ := h1
  obtain ⟨es, h2⟩ := h2
  have hm1 : (n1 : Int) ≤ 9223372036854775807 := by have := h1.2.1; unfold maxLen at this; omega
  have hm2 : (n2 : Int) ≤ 9223372036854775807 := by have := h2.2.1; unfold maxLen at this; omega
  have HI := Lib.hid h1
  have HE := Lib.hid h2
  have HFX := Lib.hid (fixed_any w hT)
  have HTB := Lib.hid (fun w' (hb : Below w.heap.size w w') => (show Tab w' from fun j hj => (hb.cell (block_lt_of_cell (hT j hj))).trans (hT j hj)))
  clear h1 h2 hT
  go_enter Tryd.func4, Tryd.ntmps4
  go_wp2_with fail
  refine HFX.out.mono ?_
  rintro e w1 ⟨rfl, hb⟩
  dsimp only
  have HB := Lib.hid hb
  clear hb HFX
  by_cases hk1 : 40 < n1
  · have d : decide (40 < (n1 : Int)) = true := by simp; omega
    have d' : decide (40 < n1) = true := by simpa using hk1
    go_wp2_with fail
    go_ret
    exact ⟨rfl, HB.out⟩
  have d1 : decide (40 < (n1 : Int)) = false := by simp; omega
  have d1' : decide (40 < n1) = false := by simp; omega
  by_cases hk2 : 300 < n2
  · have d : decide (300 < (n2 : Int)) = true := by simp; omega
    have d' : decide (300 < n2) = true := by simpa using hk2
    go_wp2_with fail
    go_ret
    exact ⟨rfl, HB.out⟩
  have d2 : decide (300 < (n2 : Int)) = false := by simp; omega
  have d2' : decide (300 < n2) = false := by simp; omega
  have HMD := Lib.hid (made_any HB.out A1 A2 n1 c1 n2 c2 ss es HI.out HE.out)
  have HGL := Lib.hid (show (madeG ss es).length = n1 from by
    unfold madeG
    rw [madeF_len]
    have := (nodes_len ss (fun x hx => bounds_u8 (HI.out.2.2.1 x hx)) (by have := HI.out.1; omega) ss.length (Nat.le_refl _)).1
    rw [this, HI.out.1])
  generalize madeG ss es = G at *
  go_wp2_with fail
  refine HMD.out.mono ?_
  rintro e w2 ⟨gb, rfl, hK⟩
  dsimp only
  have HOK := Lib.hid hK.ok
  have HK2 := Lib.hid hK
  obtain ⟨vv, hm⟩ := hK.gm
  have HVC := Lib.hid (victims_any hm (HTB.out _ hK.below))
  clear hK hm HMD HB
  go_wp2_with fail
  refine HVC.out.mono ?_
  rintro e w3 ⟨A, c, rfl, ho, hN⟩
  dsimp only
  have HO := Lib.hid ho
  have HK3 := Lib.hid (HK2.out.new_ hN)
  obtain ⟨vv, hm⟩ := HK3.out.gm
  have HCY := Lib.hid (cyclic_any hm (HTB.out _ HK3.out.below))
  have hvl : (vicK G G.length).length ≤ n1 := Nat.le_trans (vicK_len G G.length) (Nat.le_of_eq HGL.out)
  obtain ⟨L, hL⟩ : ∃ L, sortI (vicK G G.length) = L := ⟨_, rfl⟩
  have HLP := Lib.hid (show L.Perm (vicK G G.length) from by rw [← hL]; exact List.mergeSort_perm _ _)
  rw [hL] at HO
  have hLn : (vicK G G.length).length = L.length := HLP.out.length_eq.symm
  rw [hLn] at HO hvl
  rw [hLn]
  have HCB := Lib.hid (fun (r : Bool) (hr : Cyc G r) => (cyc_bool HOK.out hr).trans (by rw [hLn]))
  clear ho hN hm hLn hL HVC HK2
  generalize hmn : L.length = m at *
  have HM := Lib.hid hmn
  clear hmn
  have hmI : (m : Int) ≤ 40 := by omega
  go_wp2_with fail
  refine HCY.out.mono ?_
  rintro e w4 ⟨⟨r, rfl, hr⟩, hN⟩
  dsimp only
  have hrr := HCB.out r hr
  have HK4 := Lib.hid (HK3.out.new_ hN)
  have HKP := Lib.hid (KpT.new_ hN)
  have HO4 := Lib.hid (fun (w' : World) (hk : KpT w4 w') {j : Nat} {x : Int} (hx : L[j]? = some x) => row_kp HO.out (HKP.out.trans hk) hx)
  have dm : decide ((0 : Int) < (m : Int)) = r := by rw [hrr]; simp
  have dm' : decide (0 < m) = r := hrr.symm
  have drr : (r != r) = false := by simp
  clear hr hrr hN HCY HCB HK3 HKP
  go_wp2_with fail
  go_loopw [34] (fun i w' => ∃ k : Nat, k ≤ m ∧ i = .int .i64 k ∧ NewW w4 w') (fun i _ => m - (intOf i).toNat)
  case atStart => exact ⟨0, by omega, rfl, Ch.refl _ _⟩
  case round =>
    obtain ⟨k, hk, rfl, hC⟩ := hrel
    have HC := Lib.hid hC
    by_cases hlt : k < m
    · obtain ⟨x, hx⟩ := some_of_lt (L := L) (i := k) (by rw [HM.out]; exact hlt)
      obtain ⟨g, rfl, hcell⟩ := HO4.out wr (KpT.new_ hC) hx
      have hmem := HLP.out.mem_iff.1 (mem_of_some hx)
      obtain ⟨i, y, hy, rfl, hvi⟩ := vic_mem.1 hmem
      obtain ⟨vv, hm⟩ := (HK4.out.new_ hC).gm
      have HRC := Lib.hid (reaches_any hm (HTB.out _ (HK4.out.new_ hC).below) y.id y.id)
      rw [reach_self HOK.out hy (vict_cyc HOK.out hvi).2] at HRC
      generalize y.id = yi at *
      clear hC hx hmem hy hvi hm
      go_wp2_with fail
      refine HRC.out.mono ?_
      rintro e w5 ⟨rfl, hN⟩
      dsimp only
      have HC5 := Lib.hid (HC.out.trans' hN)
      clear hN HRC
      go_wp2_with fail
      exact ⟨⟨k + 1, by omega, by go_num, HC5.out⟩, by simp [intOf]; omega⟩
    · obtain rfl : k = m := by omega
      have HK5 := Lib.hid (HK4.out.new_ hC)
      have HKP5 := Lib.hid (KpT.new_ hC)
      clear hlt hk hC
      go_wp2_with fail
      go_loopw [46] (fun i w' => ∃ (j : Nat) (H : List Nd), j ≤ k ∧ i = .int .i64 j ∧ KG w gb H w' ∧ KpT w4 w' ∧ Sub G H (L.take j)) (fun i _ => k - (intOf i).toNat)
      case atStart => exact ⟨0, G, by omega, rfl, HK5.out, HKP5.out, sub_refl HOK.out⟩
      case round =>
        obtain ⟨j, H, hj, rfl, hK, hkp, hS⟩ := hrel
        by_cases hlt : j < k
        · obtain ⟨x, hx⟩ := some_of_lt (L := L) (i := j) (by rw [HM.out]; exact hlt)
          obtain ⟨g, rfl, hcell⟩ := HO4.out wr hkp hx
          have hmem := HLP.out.mem_iff.1 (mem_of_some hx)
          obtain ⟨i, y, hy, hyx, hvi⟩ := vic_mem.1 hmem
          have hnd : L.Nodup := HLP.out.nodup_iff.2 (vic_nodup HOK.out)
          have hno : x ∉ L.take j := fun hin => by
            obtain ⟨i', hi'⟩ := List.mem_iff_getElem?.1 hin
            have hil := lt_of_some hi'
            rw [List.length_take] at hil
            rw [List.getElem?_take_of_lt (by omega)] at hi'
            have e := nodup_inj hnd (lt_of_some hi') (lt_of_some hx) (by
              have a := hi'
              have b := hx
              rw [List.getElem?_eq_getElem (lt_of_some hi')] at a
              rw [List.getElem?_eq_getElem (lt_of_some hx)] at b
              injection a with a
              injection b with b
              rw [a, b])
            omega
          obtain ⟨hE, hS2⟩ := sub_drop hS (mem_of_some hy) hyx hno
          have HDR := Lib.hid (drop_any hK x)
          rw [hE] at HDR
          have HS2 := Lib.hid (show Sub G (dropI H x) (L.take (j + 1)) from by rw [List.take_add_one, hx]; exact hS2)
          have HKPJ := Lib.hid hkp
          clear hK hkp hS hx hmem hy hyx hvi hnd hno hE hS2
          go_wp2_with fail
          refine HDR.out.mono ?_
          rintro e w5 ⟨rfl, hK, hkp⟩
          dsimp only
          have HK6 := Lib.hid hK
          have HKP6 := Lib.hid (HKPJ.out.trans hkp)
          clear hK hkp HDR
          go_wp2_with fail
          exact ⟨⟨j + 1, _, by omega, by go_num, HK6.out, HKP6.out, HS2.out⟩, by simp [intOf]; omega⟩
        · obtain rfl : j = k := by omega
          rw [← HM.out, List.take_length] at hS
          have hlen := hS.len
          rw [HM.out, HGL.out] at hlen
          have HNC := Lib.hid (fun i => sub_cyc HOK.out hS (fun v hv => HLP.out.mem_iff.2 hv) i)
          obtain ⟨vv, hm⟩ := hK.gm
          have HCY := Lib.hid (cyclic_any hm (HTB.out _ hK.below))
          have HK7 := Lib.hid hK
          clear hlt hj hK hkp hS hm
          go_wp2_with fail
          refine HCY.out.mono ?_
          rintro e w5 ⟨⟨r2, rfl, hr⟩, hN⟩
          dsimp only
          obtain rfl : r2 = false := by
            rcases hr with ⟨_, i, _, hc⟩ | ⟨h', _⟩
            · rw [HNC.out i] at hc; cases hc
            · exact h'
          have HK8 := Lib.hid (HK7.out.new_ hN)
          obtain ⟨vv, hm⟩ := HK8.out.gm
          have HND := Lib.hid (nodes_any hm)
          generalize hHl : H.length = hl at *
          clear hr hN hm HCY HK7
          go_wp2_with fail
          refine HND.out.mono ?_
          rintro e w6 ⟨A6, c6, rfl, _, hN⟩
          dsimp only
          have HE := Lib.hid (HK8.out.new_ hN).below
          have hw1 : IntKind.i64.wrap ((n1 : Int) - (j : Int)) = (hl : Int) := by rw [show (n1 : Int) - (j : Int) = (hl : Int) by omega]; exact IntWalk.i64_in _ (by omega)
          have hw2 : (n1 : Int) - (j : Int) = (hl : Int) := by omega
          have hw3 : ((hl : Int) == (n1 : Int) - (j : Int)) = true := by simp; omega
          clear hN HND
          go_wp2_with fail
          go_ret
          exact ⟨rfl, HE.out⟩
end Go.Proofs.YtfcdplfnhjbdnabDoor
