/- CellsPlays: the law's walk. -/
import Derived.Test.YtfcdplfnhjbdnaaRc
import Derived.Test.YtfcdplfnhjbdnaaFe
import Derived.Deep.DeepCutAuto
import Derived.Deep.RegionHeld3
namespace Go.Proofs.Ytfcdplfnhjbdnaa
open Go.RowKit Go.Maps
set_option linter.unusedVariables false

theorem void_trim {s : CS} (h : Void s) (m : Int) : Void (trimS s m) := fun k v hv => h k v (List.mem_of_mem_drop hv)
theorem void_do {s : CS} (h : Void s) (K V : ByteArray) (H T : Bool) (M : Int) : Void (doS s K V H T M) := by
  unfold doS
  split
  · split
    · exact void_trim h M
    · exact h
  · exact void_put h K V H M
theorem keys_eq {s : CS} {a b : List (List UInt8)} (h : KeysIn s a) (h' : KeysIn s b) : a = b := rise_eq h.1 h'.1 fun k => by rw [h.2, h'.2]
theorem ds_new {w0 w : World} {cb : Nat} (h : KS w0 0 cb emptyS w) : DS w0 0 cb w.heap.size emptyS [] (w.alloc (.cells #[.slice none 0 0, .int .i64 0, .int .i64 0] 30)) :=
  ⟨h.new_ ((Ch.refl _ w).alloc _), ⟨_, Blk.new _ _ _, ⟨rfl, .inl ⟨rfl, rfl⟩⟩, h.size⟩, fun k => rfl, Nat.le_refl _⟩
theorem filter_at {α : Type} (p : α → Bool) {ks : List α} {j : Nat} {k : α} (h : ks[j]? = some k) (hp : p k = true) : (ks.filter p)[((ks.take j).filter p).length]? = some k := by
  have hd : ks.drop j = k :: ks.drop (j + 1) := by
    obtain ⟨hl, he⟩ := List.getElem?_eq_some_iff.1 h
    rw [List.drop_eq_getElem_cons hl, he]
  have : ks.filter p = (ks.take j).filter p ++ (k :: (ks.drop (j + 1)).filter p) := by
    conv => lhs; rw [← List.take_append_drop j ks, List.filter_append, hd]
    rw [List.filter_cons, if_pos hp]
  rw [this, List.getElem?_append_right (Nat.le_refl _), Nat.sub_self]
  rfl
theorem cells_eq {L : List Was} {s : CS} (h : Rel L s) (ks : List (List UInt8)) : cellsOf (rowOf L) ks = cellsOf s.f ks := by
  rw [show rowOf L = s.f from funext h]
section
set_option maxRecDepth 100000 in
set_option maxHeartbeats 8000000 in
theorem plays_walk (A1 : Option Addr) (n1 c1 : Nat) (key : ByteArray) (mo : Int) (w : World) (hA1 : Acts w A1 n1) (hk : key.size ≤ maxLen) :
    Calls Try.prog 3 #[.slice A1 n1 c1, .string key, .int .i64 mo] w fun e w' => e = .returned (.bool true) ∧ Below w.heap.size w w' := by
  have hfx := Lib.hid (fixed_any w)
  have hmax1 : (n1 : Int) ≤ 9223372036854775807 := by have := hA1.1; unfold maxLen at this; omega
  have hkk : (key.size : Int) ≤ 9223372036854775807 := by unfold maxLen at hk; omega
  have HA1 := Lib.hid hA1
  have HKM := Lib.hid hk
  clear hA1 hk
  go_enter Try.func3, Try.ntmps3
  go_wp2_with fail
  refine hfx.out.mono ?_
  rintro e w1 ⟨rfl, hb⟩
  dsimp only
  have HB := Lib.hid hb
  have HF1 := Lib.hid (few_any A1 n1 c1 w1 (HA1.out.below hb))
  clear hb hfx
  go_wp2_with fail
  refine HF1.out.mono ?_
  rintro e w3 ⟨fb1, rfl, h60, hN2⟩
  dsimp only
  have HB3 := Lib.hid (Ch.below HB.out hN2 (fun _ h => h.elim) HB.out.size)
  have H60 := Lib.hid h60
  clear h60 hN2 HF1 HB
  cases fb1
  · go_wp2_with fail
    go_ret
    exact ⟨rfl, HB3.out⟩
  have h60 := H60.out rfl
  clear H60
  by_cases hk100 : 100 < key.size
  · have d : decide (100 < (key.size : Int)) = true := by simp; omega
    go_wp2_with fail
    go_ret
    exact ⟨rfl, HB3.out⟩
  have dk : decide (100 < (key.size : Int)) = false := by simp; omega
  have dk' : decide (100 < key.size) = false := by simp; omega
  have hk100' : (key.size : Int) ≤ 100 := by omega
  have HNW := Lib.hid (ks_new w w3 HB3.out)
  go_wp2_with fail
  refine HNW.out.mono ?_
  rintro e w4 ⟨rfl, hK4, hN4⟩
  dsimp only
  have HD4 := Lib.hid (ds_new hK4)
  clear hK4 hN4 HNW
  generalize w3.heap.size + 1 = ca at *
  go_upto_region 6 with (fail)
  generalize w4.alloc (.cells #[.slice none 0 0, .int .i64 0, .int .i64 0] 30) = w5 at *
  generalize w4.heap.size = rb at *
  go_wp2_with fail
  go_loopw [41] (fun i w' => ∃ (q : Nat) (s : CS) (L : List Was), q ≤ n1 ∧ i = .int .i64 q ∧ Void s ∧ DS w q ca rb s L w') (fun i _ => n1 - (intOf i).toNat)
  case atStart => exact ⟨0, emptyS, [], by omega, rfl, void_empty, HD4.out⟩
  case round =>
    obtain ⟨q, s, L, hq, rfl, hvo, hD⟩ := hrel
    by_cases hlt : q < n1
    · obtain ⟨b0, off, rfl, hb0, hc⟩ := HA1.out.2 (by omega)
      obtain ⟨K, V, H, T, M, hK, hV, hM, hact⟩ := hc q hlt
      obtain ⟨x0, x1, x2, x3, x4⟩ := hact.below hD.ks.below hb0
      have BX := Lib.hid (Blk.new wr 32 #[.string K, .string V, .bool H, .bool T, .int .i64 M])
      have HP := Lib.hid (do_any (hD.new_ ((Ch.refl _ wr).alloc (.cells #[.string K, .string V, .bool H, .bool T, .int .i64 M] 32))) (by omega) K V H T M)
      have HVO := Lib.hid (void_do hvo K V H T M)
      clear hc hact hD hM hK hV hvo
      go_wp2_with fail
      refine HP.out.mono ?_
      rintro e w6 ⟨rfl, hD6⟩
      dsimp only
      have HD6 := Lib.hid hD6
      clear HP BX hD6 x0 x1 x2 x3 x4
      go_wp2_with fail
      exact ⟨⟨q + 1, _, _, by omega, by go_num, HVO.out, HD6.out⟩, by simp [intOf]; omega⟩
    · obtain rfl : q = n1 := by omega
      have hL6 : L.length ≤ 60 := by have := hD.len; omega
      obtain ⟨v, hr⟩ := hD.rm
      have hHS : ∀ w', Ch (fun _ => False) wr w' → w'.cell? ⟨rb, 1, none⟩ = some (.int .i64 s.last) ∧ w'.cell? ⟨rb, 2, none⟩ = some (.int .i64 s.floor) := fun w' hc => ⟨(hr.new_ hc).c1, (hr.new_ hc).c2⟩
      have hLA : ∀ w', Ch (fun _ => False) wr w' → Calls Try.prog 11 #[.pointer (some ⟨ca, 0, none⟩)] w' fun e w'' => e = .returned (.int .i64 s.last) ∧ w' = w'' := fun w' hc => ks_last (hD.new_ hc).ks
      have hFL : ∀ w', Ch (fun _ => False) wr w' → Calls Try.prog 12 #[.pointer (some ⟨ca, 0, none⟩)] w' fun e w'' => e = .returned (.int .i64 s.floor) ∧ w' = w'' := fun w' hc => ks_floor (hD.new_ hc).ks
      have hAL : ∀ w', Ch (fun _ => False) wr w' → Calls Try.prog 14 #[.pointer (some ⟨ca, 0, none⟩)] w' fun e w'' => ∃ A c ks, KeysIn s ks ∧ ks.length ≤ 60 ∧ e = .returned (.slice A ks.length c) ∧ RdC w'' A (cellsOf s.f ks) ∧ Ch (fun _ => False) wr w'' ∧ Ch (fun _ => False) w' w'' :=
        fun w' hc => (ks_all (hD.new_ hc).ks (by omega)).mono fun e w'' ⟨A, c, ks, h1, _, h2, h3, h4, h5⟩ => ⟨A, c, ks, h1, by omega, h3, h4, hc.trans' h5, h5⟩
      have hCL : ∀ w', Ch (fun _ => False) wr w' → Calls Try.prog 15 #[.pointer (some ⟨rb, 0, none⟩)] w' fun e w'' => ∃ A c ks, KeysIn s ks ∧ ks.length ≤ 60 ∧ e = .returned (.slice A ks.length c) ∧ RdC w'' A (cellsOf s.f ks) ∧ Ch (fun _ => False) wr w'' ∧ Ch (fun _ => False) w' w'' :=
        fun w' hc => (rcells_any (hr.new_ hc) (by omega)).mono fun e w'' ⟨A, c, ks, h1, h2, h3, h4, h5⟩ => ⟨A, c, ks, keysR_in hD.rel h1, by omega, h3, by rw [← cells_eq hD.rel]; exact h4, hc.trans' h5, h5⟩
      have hSA : ∀ (ks : List (List UInt8)) (A1 A2 : Option Addr) (c1 c2 : Nat) w', Ch (fun _ => False) wr w' → ks.length ≤ 60 → RdC w' A1 (cellsOf s.f ks) → RdC w' A2 (cellsOf s.f ks) → Calls Try.prog 13 #[.slice A1 ks.length c1, .slice A2 ks.length c2] w' fun e w'' => e = .returned (.bool true) ∧ Ch (fun _ => False) wr w'' :=
        fun ks A1 A2 c1 c2 w' hc hl h1 h2 => (same_any (cellsOf s.f ks) A1 A2 ks.length c1 c2 w' h1 h2 (by simp [cellsOf]) (by omega) (fun x hx => by
          obtain ⟨k, _, rfl⟩ := List.mem_map.1 hx
          have := hD.ks.len k
          show (s.f k).length ≤ _
          omega)).mono fun e w'' ⟨h3, h4⟩ => ⟨h3, hc.trans' h4⟩
      have hAT : ∀ w', Ch (fun _ => False) wr w' → Calls Try.prog 16 #[.pointer (some ⟨ca, 0, none⟩), .string key, .int .i64 mo] w' fun e w'' => e = .returned (.tuple #[.string (atV s key.data.toList mo).1, .bool (atV s key.data.toList mo).2, .int .i64 (atE s mo)]) ∧ Ch (fun _ => False) wr w'' :=
        fun w' hc => (ks_at (hD.new_ hc).ks (by omega) HKM.out mo).mono fun e w'' ⟨h1, _, h3⟩ => ⟨h1, hc.trans' h3⟩
      have hRA : ∀ (K : ByteArray) (m : Int) w', Ch (fun _ => False) wr w' → Calls Try.prog 17 #[.pointer (some ⟨rb, 0, none⟩), .string K, .int .i64 m] w' fun e w'' => e = .returned (.tuple #[.string (valOf (s.f K.data.toList) m).1, .bool (valOf (s.f K.data.toList) m).2]) ∧ Ch (fun _ => False) wr w'' ∧ Ch (fun _ => False) w' w'' :=
        fun K m w' hc => (rat_any (hr.new_ hc) (by omega) K m).mono fun e w'' ⟨h1, h3⟩ => ⟨by rw [← rel_at hD.rel hD.ks.good]; exact h1, hc.trans' h3, h3⟩
      have hGE : ∀ w', Ch (fun _ => False) wr w' → Calls Try.prog 18 #[.pointer (some ⟨ca, 0, none⟩), .string key] w' fun e w'' => e = .returned (.tuple #[.string (valOf (s.f key.data.toList) maxClock).1, .bool (valOf (s.f key.data.toList) maxClock).2]) ∧ Ch (fun _ => False) wr w'' :=
        fun w' hc => (ks_get (hD.new_ hc).ks (by omega) HKM.out).mono fun e w'' ⟨h1, _, h3⟩ => ⟨h1, hc.trans' h3⟩
      have hKA : ∀ w', Ch (fun _ => False) wr w' → Calls Try.prog 19 #[.pointer (some ⟨ca, 0, none⟩), .int .i64 mo] w' fun e w'' => ∃ A c ks, KeysIn s ks ∧ e = .returned (.slice A (keysAt s mo ks).length c) ∧ w''.ownsRow 0 9 1 (.slice A (keysAt s mo ks).length c) (keysAt s mo ks).length ((keysAt s mo ks).map encStr) ∧ Ch (fun _ => False) wr w'' :=
        fun w' hc => (ks_keys (hD.new_ hc).ks (by omega) mo).mono fun e w'' ⟨A, c, ks, h1, h2, h3, _, h5⟩ => ⟨A, c, ks, h1, h2, own_mono h3 (Nat.zero_le _), hc.trans' h5⟩
      have hKE : ∀ w', Ch (fun _ => False) wr w' → Calls Try.prog 20 #[.pointer (some ⟨rb, 0, none⟩)] w' fun e w'' => ∃ A c ks, KeysIn s ks ∧ ks.length ≤ 60 ∧ e = .returned (.slice A ks.length c) ∧ w''.ownsRow 0 9 1 (.slice A ks.length c) ks.length (ks.map encStr) ∧ Ch (fun _ => False) wr w'' ∧ Ch (fun _ => False) w' w'' :=
        fun w' hc => (rkeys_any (hr.new_ hc) (by omega)).mono fun e w'' ⟨A, c, ks, h1, h2, h3, h4, h5⟩ => ⟨A, c, ks, keysR_in hD.rel h1, by omega, h3, own_mono h4 (Nat.zero_le _), hc.trans' h5, h5⟩
      have hBW : ∀ w', Ch (fun _ => False) wr w' → Below w.heap.size w w' := fun w' hc => (hD.new_ hc).ks.below
      obtain ⟨LL, hLL⟩ : ∃ LL, s.last = LL := ⟨_, rfl⟩
      obtain ⟨FF, hFF⟩ : ∃ FF, s.floor = FF := ⟨_, rfl⟩
      rw [hLL] at hLA
      rw [hFF] at hFL
      rw [hLL, hFF] at hHS
      have hll : (LL != LL) = false := by simp
      have hff : (FF != FF) = false := by simp
      obtain ⟨cl, cf⟩ := hHS wr (Ch.refl _ _)
      have HHS := Lib.hid hHS
      have HLA := Lib.hid hLA
      have HFL := Lib.hid hFL
      have HAL := Lib.hid hAL
      have HCL := Lib.hid hCL
      have HSA := Lib.hid hSA
      have HRA := Lib.hid hRA
      have HKA := Lib.hid hKA
      have HKE := Lib.hid hKE
      have HBW := Lib.hid hBW
      have hRK := hRA key mo
      have hRG := hRA key 1099511627776
      obtain ⟨VO, hVO⟩ : ∃ VO, atV s key.data.toList mo = VO := ⟨_, rfl⟩
      obtain ⟨EE, hEE⟩ : ∃ EE, atE s mo = EE := ⟨_, rfl⟩
      obtain ⟨RV, hRV⟩ : ∃ RV, valOf (s.f key.data.toList) mo = RV := ⟨_, rfl⟩
      obtain ⟨GV, hGV⟩ : ∃ GV, valOf (s.f key.data.toList) maxClock = GV := ⟨_, rfl⟩
      rw [hVO, hEE] at hAT
      rw [hRV] at hRK
      rw [hGV] at hGE
      rw [show (1099511627776 : Int) = maxClock from rfl, hGV] at hRG
      have HAT := Lib.hid hAT
      have HRK := Lib.hid hRK
      have HGE := Lib.hid hGE
      have HRG := Lib.hid hRG
      have HVE := Lib.hid hVO
      have HEE := Lib.hid hEE
      have HRV := Lib.hid hRV
      obtain ⟨va, ha⟩ := VO
      obtain ⟨ra, rh⟩ := RV
      obtain ⟨ga, gh⟩ := GV
      clear hRA hKA hKE hBW hAT hRK hGE hRG hVO hEE hRV hGV
      have HFF := Lib.hid hFF
      have HVO := Lib.hid hvo
      have HD := Lib.hid hD
      clear hHS hLA hFL hAL hCL hSA hFF hLL hD hr hvo hlt hq HD4
      go_wp2_with fail
      go_region_held3 (fun w' => w'.cell? ⟨rb, 1, none⟩ = some (.int .i64 LL) ∧ w'.cell? ⟨rb, 2, none⟩ = some (.int .i64 FF)) (exact HHS.out _ (by repeat (first | with_reducible exact hNc | with_reducible exact hNb | with_reducible exact hNa | with_reducible exact Ch.refl _ _ | with_reducible refine Ch.drew ?_ | with_reducible refine Ch.drewN ?_ _)))
        (first
          | (go_at_call 11; refine (HLA.out _ (by repeat (first | with_reducible exact hNc | with_reducible exact hNb | with_reducible exact hNa | with_reducible exact Ch.refl _ _ | with_reducible refine Ch.drew ?_ | with_reducible refine Ch.drewN ?_ _))).mono ?_; rintro e wl ⟨rfl, rfl⟩)
          | (go_at_call 12; refine (HFL.out _ (by repeat (first | with_reducible exact hNc | with_reducible exact hNb | with_reducible exact hNa | with_reducible exact Ch.refl _ _ | with_reducible refine Ch.drew ?_ | with_reducible refine Ch.drewN ?_ _))).mono ?_; rintro e wl ⟨rfl, rfl⟩)
          | (go_at_call 14; refine (HAL.out _ (by repeat (first | with_reducible exact hNc | with_reducible exact hNb | with_reducible exact hNa | with_reducible exact Ch.refl _ _ | with_reducible refine Ch.drew ?_ | with_reducible refine Ch.drewN ?_ _))).mono ?_; rintro e wa ⟨Aa, qa, ka, hka, hla, rfl, hra, hNa, hSa⟩)
          | (go_at_call 15; refine (HCL.out _ (by repeat (first | with_reducible exact hNc | with_reducible exact hNb | with_reducible exact hNa | with_reducible exact Ch.refl _ _ | with_reducible refine Ch.drew ?_ | with_reducible refine Ch.drewN ?_ _))).mono ?_; rintro e wb ⟨Ab, qb, kb, hkb, hlb, rfl, hrb, hNb, hSb⟩)
          | (go_at_call 13; obtain rfl := keys_eq hkb hka; refine (HSA.out kb Aa Ab qa qb _ (by repeat (first | with_reducible exact hNc | with_reducible exact hNb | with_reducible exact hNa | with_reducible exact Ch.refl _ _ | with_reducible refine Ch.drew ?_ | with_reducible refine Ch.drewN ?_ _)) hla (by first | exact hra | exact hra.new_ hSb | exact hra.new_ (Ch.drew hSb)) (by first | exact hrb | exact hrb.new_ hSa | exact hrb.new_ (Ch.drew hSa))).mono ?_; rintro e wc ⟨rfl, hNc⟩))
      all_goals
        have HNC := Lib.hid hNc
        clear hNc hNa hNb hSa hSb hra hrb hka hkb hla hlb cl cf HAL HCL HSA HLA HFL
        go_wp2_with fail
        refine (HAT.out _ HNC.out).mono ?_
        rintro e w6 ⟨rfl, hN6⟩
        dsimp only
        have HN6 := Lib.hid hN6
        clear hN6 HNC HAT
        go_wp2_with fail
        refine (HRK.out _ HN6.out).mono ?_
        rintro e w7 ⟨rfl, hN7, _⟩
        dsimp only
        have HN7 := Lib.hid hN7
        clear hN7 HN6 HRK
        go_wp2_with fail
        refine (HGE.out _ HN7.out).mono ?_
        rintro e w8 ⟨rfl, hN8⟩
        dsimp only
        have HN8 := Lib.hid hN8
        clear hN8 HN7 HGE
        go_wp2_with fail
        refine (HRG.out _ HN8.out).mono ?_
        rintro e w9 ⟨rfl, hN9, _⟩
        dsimp only
        have c2 := (HHS.out _ hN9).2
        have HN9 := Lib.hid hN9
        clear hN9 HN8 HRG
        have hgs : (ga.toList != ga.toList) = false := by simp
        have hgb : (gh != gh) = false := by simp
        have hee1 : ((⟨#[]⟩ : ByteArray).toList == (⟨#[]⟩ : ByteArray).toList) = true := by simp
        by_cases h0 : mo < 0
        · have hE : EE = 1 := by rw [← HEE.out]; unfold atE; rw [if_pos (.inl h0)]
          have hV : (va, ha) = ((⟨#[]⟩ : ByteArray), false) := by rw [← HVE.out]; unfold atV; rw [HEE.out, hE]; rfl
          injection hV with hv1 hv2
          subst hE hv1 hv2
          have d0 : decide (mo < 0) = true := by simpa using h0
          clear h0
          go_wp2_with fail
          go_ret
          exact ⟨rfl, HBW.out _ HN9.out⟩
        · have d0 : decide (mo < 0) = false := by simpa using h0
          by_cases h1 : 1099511627776 < mo
          · have hE : EE = 1 := by rw [← HEE.out]; unfold atE maxClock; rw [if_pos (.inr h1)]
            have hV : (va, ha) = ((⟨#[]⟩ : ByteArray), false) := by rw [← HVE.out]; unfold atV; rw [HEE.out, hE]; rfl
            injection hV with hv1 hv2
            subst hE hv1 hv2
            have d1 : decide (1099511627776 < mo) = true := by simpa using h1
            clear h0 h1
            go_wp2_with fail
            go_ret
            exact ⟨rfl, HBW.out _ HN9.out⟩
          · have d1 : decide (1099511627776 < mo) = false := by simpa using h1
            by_cases h2 : mo < FF
            · have hE : EE = 9 := by rw [← HEE.out]; unfold atE maxClock; rw [if_neg (by omega), HFF.out, if_pos h2]
              have hV : (va, ha) = ((⟨#[]⟩ : ByteArray), false) := by rw [← HVE.out]; unfold atV; rw [HEE.out, hE]; rfl
              injection hV with hv1 hv2
              have HKZ := Lib.hid (fun ks => show (keysAt s mo ks).length = 0 by unfold keysAt; rw [HFF.out, if_pos h2]; rfl)
              subst hE hv1 hv2
              have d2 : decide (mo < FF) = true := by simpa using h2
              clear h0 h1 h2
              go_wp2_with fail
              refine (HKA.out _ HN9.out).mono ?_
              rintro e w10 ⟨A, c, ks, _, rfl, _, hN10⟩
              rw [HKZ.out]
              dsimp only
              have HN10 := Lib.hid hN10
              clear hN10
              go_wp2_with fail
              go_ret
              exact ⟨rfl, HBW.out _ HN10.out⟩
            · have hE : EE = 0 := by rw [← HEE.out]; unfold atE maxClock; rw [if_neg (by omega), HFF.out, if_neg h2]
              have hV : (va, ha) = (ra, rh) := by rw [← HVE.out, ← HRV.out]; unfold atV; rw [HEE.out, hE]; rfl
              injection hV with hv1 hv2
              have HKF := Lib.hid (fun ks => show keysAt s mo ks = ks.filter (fun k => (valOf (s.f k) mo).2) by unfold keysAt; rw [HFF.out, if_neg h2])
              subst hE hv1 hv2
              have d2 : decide (mo < FF) = false := by simpa using h2
              clear h0 h1 h2
              go_wp2_with fail
              refine (HKA.out _ HN9.out).mono ?_
              rintro e w10 ⟨A, c, ks, hks, rfl, hown, hN10⟩
              rw [HKF.out] at hown ⊢
              dsimp only
              have HN10 := Lib.hid hN10
              have HOA := Lib.hid hown
              have HKS := Lib.hid hks
              clear hN10 hown hks c2
              generalize hFK : (ks.filter (fun k => (valOf (s.f k) mo).2)) = FK at *
              have HFK := Lib.hid hFK
              clear hFK
              go_wp2_with fail
              refine (HKE.out _ HN10.out).mono ?_
              rintro e w11 ⟨A', c', kk, hkk', hl, rfl, hown, hN11, hS11⟩
              obtain rfl := keys_eq HKS.out hkk'
              dsimp only
              have HOA2 := Lib.hid (own_ch HOA.out hS11 (fun _ _ h => h))
              have HOK := Lib.hid hown
              have HN11 := Lib.hid hN11
              clear hown hkk' hN11 hS11 HOA HKE HKA
              have hFKl : FK.length ≤ ks.length := by rw [← HFK.out]; exact List.length_filter_le _ _
              generalize hFL : FK.length = fl at *
              have HFLn := Lib.hid hFL
              clear hFL
              go_wp2_with fail
              go_loopw [20, 157] (fun nn i w' => ∃ j : Nat, j ≤ ks.length ∧ i = .int .i64 j ∧ (∃ nj, nj = ((ks.take j).filter (fun k => (valOf (s.f k) mo).2)).length ∧ nj ≤ j ∧ nn = .int .i64 (nj : Nat)) ∧ Ch (fun _ => False) w11 w') (fun _ i _ => ks.length - (intOf i).toNat)
              case atStart => exact ⟨0, by omega, rfl, ⟨0, rfl, Nat.le_refl _, rfl⟩, Ch.refl _ _⟩
              case round =>
                obtain ⟨j, hj, rfl, ⟨nj, hnj, hnjj, rfl⟩, hC⟩ := hrel
                have hO1 := own_ch HOA2.out hC (fun _ _ h => h)
                have hO2 := own_ch HOK.out hC (fun _ _ h => h)
                have HCW := Lib.hid (HN11.out.trans' hC)
                have HCC := Lib.hid hC
                clear hC
                by_cases hlt : j < ks.length
                · obtain ⟨k, hk⟩ := some_of_lt hlt
                  obtain ⟨kb, hkb, hkd⟩ := enc_form k
                  obtain ⟨gk, qk, hvk, _, _⟩ := hO2.form (by omega)
                  injection hvk with hvk _ hqk
                  subst hvk hqk
                  have hck := hO2.cells (g := gk) rfl j (.string kb) (by rw [List.getElem?_map, hk, ← hkb]; rfl)
                  rw [add_mk, Nat.zero_add] at hck
                  have hR := HRA.out kb mo _ HCW.out
                  rw [hkd] at hR
                  have HFN := Lib.hid (filter_next (fun k => (valOf (s.f k) mo).2) ks hk)
                  have HFA := Lib.hid (fun h => filter_at (fun k => (valOf (s.f k) mo).2) hk h)
                  obtain ⟨pv, hpv⟩ : ∃ pv, valOf (s.f k) mo = pv := ⟨_, rfl⟩
                  rw [hpv] at hR
                  obtain ⟨pa, ph⟩ := pv
                  have HPV := Lib.hid hpv
                  have HR := Lib.hid hR
                  have HNJ := Lib.hid hnj
                  have HO1 := Lib.hid hO1
                  have HEN := Lib.hid hkb
                  have hbr : (kb.toList != kb.toList) = false := by simp
                  clear hk hkb hkd hR hnj hO1 hO2 hpv
                  cases ph
                  · go_wp2_with fail
                    refine HR.out.mono ?_
                    rintro e w12 ⟨rfl, _, hN12⟩
                    dsimp only
                    have HN12 := Lib.hid (HCC.out.trans' hN12)
                    clear hN12 HR
                    go_wp2_with fail
                    refine ⟨⟨j + 1, by omega, by go_num, ⟨nj, ?_, by omega, rfl⟩, HN12.out⟩, by simp [intOf]; omega⟩
                    rw [HFN.out, HPV.out, HNJ.out]
                    simp
                  · have hg := HFA.out (by rw [HPV.out])
                    rw [← HNJ.out, HFK.out] at hg
                    have hnl : nj < fl := by rw [← HFLn.out]; exact lt_of_some hg
                    obtain ⟨ga', qa', hva, _, _⟩ := HO1.out.form (by omega)
                    injection hva with hva _ hqa
                    subst hva hqa
                    have hca := HO1.out.cells (g := ga') rfl nj (.string kb) (by rw [List.getElem?_map, hg, ← HEN.out]; rfl)
                    rw [add_mk, Nat.zero_add] at hca
                    have hnI : decide ((fl : Int) ≤ (nj : Int)) = false := by simp; omega
                    have hnI2 : (nj : Int) < (fl : Int) := by omega
                    have hn0 : (0 : Int) ≤ (nj : Int) := by omega
                    have HCA := Lib.hid hca
                    clear hg hca
                    go_wp2_with fail
                    refine HR.out.mono ?_
                    rintro e w12 ⟨rfl, _, hN12⟩
                    dsimp only
                    have hca := cell_ch0 hN12 HCA.out
                    have HN12 := Lib.hid (HCC.out.trans' hN12)
                    clear hN12 HR
                    go_wp2_with fail
                    refine ⟨⟨j + 1, by omega, by go_num, ⟨nj + 1, ?_, by omega, by go_num⟩, HN12.out⟩, by simp [intOf]; omega⟩
                    rw [HFN.out, HPV.out, HNJ.out]
                    simp
                · obtain rfl : j = ks.length := by omega
                  rw [List.take_length, HFK.out, HFLn.out] at hnj
                  subst hnj
                  clear hlt hj hO1 hO2
                  go_wp2_with fail
                  go_ret
                  exact ⟨rfl, HBW.out _ HCW.out⟩
end
end Go.Proofs.Ytfcdplfnhjbdnaa
