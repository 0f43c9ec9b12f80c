/- ReadsPlays: the law's walk. -/
import Derived.Test.YtdbbnkibdibpkabDu
import Derived.Test.YtdbbnkibdibpkabEn
import Derived.Deep.DeepCutAuto
import Derived.Deep.RegionHeld3
namespace Go.Proofs.Ytdbbnkibdibpkab
open Go.RowKit Go.ChangeShapes Go.WideShapes
set_option linter.unusedVariables false

set_option maxRecDepth 100000 in
set_option maxHeartbeats 8000000 in
theorem plays_walk (a c : Int) (A : Option Addr) (n cc : Nat) (w : World) (hA : Acts w A n) :
    Calls Try.prog 3 #[.int .i64 a, .int .i64 c, .slice A n cc] w fun e w' => e = .returned (.bool true) ∧ Below w.heap.size w w' := by
  have hfx := Lib.hid (fixed_any w)
  have hmax : (n : Int) ≤ 9223372036854775807 := by have := hA.1; unfold maxLen at this; omega
  have hAA := Lib.hid hA
  clear hA
  by_cases hn : 100 < n
  · go_enter Try.func3, Try.ntmps3
    go_wp2_with (go_at_call 6; (with_reducible refine (hfx.out).mono ?_); rintro e w1 ⟨rfl, hb⟩; have hB := Lib.hid hb; clear hb)
    go_ret
    exact ⟨rfl, hB.out⟩
  · have hn' : n ≤ 100 := by omega
    clear hn
    by_cases hbad : c < 1 ∨ 7 < c ∨ a < 0 ∨ c ≤ a
    · by_cases h1 : c < 1
      · have HN := Lib.hid (fun w => new_out a c (.inl h1) w)
        have d1 : decide (c < 1) = true := by simpa using h1
        clear hbad h1
        go_enter Try.func3, Try.ntmps3
        go_wp2_with (go_at_call 6; (with_reducible refine (hfx.out).mono ?_); rintro e w1 ⟨rfl, hb⟩; have hB := Lib.hid hb; clear hb)
        refine (HN.out w1).mono ?_
        rintro e w2 ⟨rfl, rfl⟩
        dsimp only
        go_wp2_with fail
        go_ret
        exact ⟨rfl, hB.out⟩
      · have d1 : decide (c < 1) = false := by simpa using h1
        by_cases h2 : 7 < c
        · have HN := Lib.hid (fun w => new_out a c (.inr (.inl h2)) w)
          have d2 : decide (7 < c) = true := by simpa using h2
          clear hbad h1 h2
          go_enter Try.func3, Try.ntmps3
          go_wp2_with (go_at_call 6; (with_reducible refine (hfx.out).mono ?_); rintro e w1 ⟨rfl, hb⟩; have hB := Lib.hid hb; clear hb)
          refine (HN.out w1).mono ?_
          rintro e w2 ⟨rfl, rfl⟩
          dsimp only
          go_wp2_with fail
          go_ret
          exact ⟨rfl, hB.out⟩
        · have d2 : decide (7 < c) = false := by simpa using h2
          by_cases h3 : a < 0
          · have HN := Lib.hid (fun w => new_out a c (.inr (.inr (.inl h3))) w)
            have d3 : decide (a < 0) = true := by simpa using h3
            clear hbad h1 h2 h3
            go_enter Try.func3, Try.ntmps3
            go_wp2_with (go_at_call 6; (with_reducible refine (hfx.out).mono ?_); rintro e w1 ⟨rfl, hb⟩; have hB := Lib.hid hb; clear hb)
            refine (HN.out w1).mono ?_
            rintro e w2 ⟨rfl, rfl⟩
            dsimp only
            go_wp2_with fail
            go_ret
            exact ⟨rfl, hB.out⟩
          · have d3 : decide (a < 0) = false := by simpa using h3
            have h4 : c ≤ a := by omega
            have HN := Lib.hid (fun w => new_out a c (.inr (.inr (.inr h4))) w)
            have d4 : decide (c ≤ a) = true := by simpa using h4
            clear hbad h1 h2 h3 h4
            go_enter Try.func3, Try.ntmps3
            go_wp2_with (go_at_call 6; (with_reducible refine (hfx.out).mono ?_); rintro e w1 ⟨rfl, hb⟩; have hB := Lib.hid hb; clear hb)
            refine (HN.out w1).mono ?_
            rintro e w2 ⟨rfl, rfl⟩
            dsimp only
            go_wp2_with fail
            go_ret
            exact ⟨rfl, hB.out⟩
    · obtain ⟨kn, rfl⟩ : ∃ kn : Nat, c = kn := ⟨c.toNat, by omega⟩
      obtain ⟨me, rfl⟩ : ∃ me : Nat, a = me := ⟨a.toNat, by omega⟩
      have hk1 : 1 ≤ kn := by omega
      have hk7 : kn ≤ 7 := by omega
      have hmk : me < kn := by omega
      have d1 : decide ((kn : Int) < 1) = false := by simp; omega
      have d2 : decide (7 < (kn : Int)) = false := by simp; omega
      have d3 : decide ((kn : Int) ≤ (me : Int)) = false := by simp; omega
      have d4 : decide (kn ≤ me) = false := by simp; omega
      have d5 : decide ((me : Int) < 0) = false := by simp
      have d6 : decide (100 < (n : Int)) = false := by simp; omega
      clear hbad
      go_enter Try.func3, Try.ntmps3
      go_wp2_with (go_at_call 6; (with_reducible refine (hfx.out).mono ?_); rintro e w1 ⟨rfl, hb⟩; have hB := Lib.hid hb; clear hb)
      refine (k_new w1 hB.out me kn hk1 hk7 hmk).mono ?_
      rintro e w2 ⟨rfl, hk, hnw⟩
      dsimp only
      have HT0 := Lib.hid (two_new hk hk1 hk7 hmk)
      clear hk hnw
      unfold pcells fresh at HT0
      simp only at HT0
      go_wp2_with fail
      generalize w1.heap.size = b at *
      go_loopw [46] (fun i w' => ∃ (m : Nat) (s : RS) (W : List Rdg) (ks : List (Int × Int)) (v va vl : Value), m ≤ n ∧ i = .int .i64 m ∧ Two w b w2.heap.size m s W ks v va vl w') (fun i _ => n - (intOf i).toNat)
      case atStart => exact ⟨0, _, _, _, _, _, _, by omega, rfl, HT0.out⟩
      case round =>
        clear HT0 hB hfx
        obtain ⟨m, s, W, ks, v, va, vl, hm, rfl, hT⟩ := hrel
        generalize w2.heap.size = pb at *
        have HT := Lib.hid hT
        clear hT
        by_cases hlt : m < n
        · obtain ⟨b0, off, rfl, hb0', hc⟩ := hAA.out.2 (by omega)
          obtain ⟨K, X, Y, hK0, hK1, wX, wY, hact⟩ := hc m hlt
          have hact := hact.below HT.out.kr.below hb0'
          obtain ⟨c0, c1, c2⟩ := hact
          clear hc hAA wX wY
          have BX := Lib.hid (Blk.new wr 32 #[.int .u8 K, .int .i64 X, .int .i64 Y])
          have HA := Lib.hid (HT.out.new_ ((Ch.refl (fun _ => False) wr).alloc (.cells #[.int .u8 K, .int .i64 X, .int .i64 Y] 32)))
          have hm9 : m ≤ 900 := by omega
          go_upto_region 14 with (fail)
          clear c0 c1 c2 HT
          generalize wr.alloc (.cells #[.int .u8 K, .int .i64 X, .int .i64 Y] 32) = wb at *
          generalize wr.heap.size = g at *
          have e0 : wb.cell? ⟨g, 0, none⟩ = some (.int .u8 K) := by rw [BX.out.cell]; rfl
          have e1 : wb.cell? ⟨g, 1, none⟩ = some (.int .i64 X) := by rw [BX.out.cell]; rfl
          have e2 : wb.cell? ⟨g, 2, none⟩ = some (.int .i64 Y) := by rw [BX.out.cell]; rfl
          have hq : K % 9 = 0 ∨ K % 9 = 1 ∨ K % 9 = 2 ∨ K % 9 = 3 ∨ K % 9 = 4 ∨ K % 9 = 5 ∨ K % 9 = 6 ∨ K % 9 = 7 ∨ K % 9 = 8 := by omega
          rcases hq with hq | hq | hq | hq | hq | hq | hq | hq | hq
          · as_aux_lemma =>
              have HP := Lib.hid (two_commit_p HA.out.drew X)
              have HR := Lib.hid (fun v' w' hk hr => (two_commit_r (v' := v') (w2 := w') HA.out X hk hr))
              generalize hEE : commitE s X = EE at *
              clear hEE
              have hee : (EE == EE) = true := by simp
              go_wp2_with fail
              go_region_held3 (fun w' => w'.cell? ⟨g, 1, none⟩ = some (.int .i64 X)) (first | exact e1 | exact f1 | exact h1)
                (first
                  | (go_at_call 8; refine HP.out.mono ?_; rintro e w2 ⟨rfl, v2, hK2, hR2, hp2⟩; have hbf := hp2 _ _ _ (.inl rfl) BX.out.drew; have f1 : w2.cell? ⟨g, 1, none⟩ = some (.int .i64 X) := (by rw [hbf.cell]; rfl))
                  | (go_at_call 9; refine (HR.out _ _ hK2 hR2).mono ?_; rintro e w3 ⟨rfl, va3, vl3, hT3, hp3⟩; have hbh := hp3 _ _ _ (.inl rfl) hbf; have h1 : w3.cell? ⟨g, 1, none⟩ = some (.int .i64 X) := (by rw [hbh.cell]; rfl)))
              clear HP HR hK2 hR2 hp2 hp3 e0 e1 e2 HA BX hbf hbh f1 h1
              obtain ⟨q1, q2, hq12⟩ := hT3.rp.row.form_
              subst hq12
              have l0 := hT3.rp.c6
              have HS := Lib.hid (two_sure_p hT3.drew)
              have HS2 := Lib.hid (fun w' (h : Two w b pb (m + 1) (commitS s X) W ks v2 va3 (.slice q1 W.length q2) w') => two_sure_r h (by omega))
              have HW := Lib.hid (fun w' (h : Two w b pb (m + 1) (commitS s X) W ks v2 va3 (.slice q1 W.length q2) w') => two_wait h)
              clear hT3
              generalize sureOf (commitS s X) = SS at *
              generalize W.length = wl at *
              have hss : (SS != SS) = false := by simp
              have hwl : ((wl : Int) != (wl : Int)) = false := by simp
              go_wp2_with fail
              go_region_held3 (fun w' => w'.cell? ⟨pb, 6, none⟩ = some (.slice q1 wl q2)) (first | exact l0 | exact l1 | exact l2 | exact l3)
                (first
                  | (go_at_call 21; refine HS.out.mono ?_; rintro e w4 ⟨rfl, hT4⟩; have l1 := hT4.rp.c6)
                  | (go_at_call 22; refine (HS2.out _ hT4).mono ?_; rintro e w5 ⟨rfl, hT5⟩; have l2 := hT5.rp.c6)
                  | (go_at_call 23; refine (HW.out _ hT5).mono ?_; rintro e w6 ⟨rfl, rfl⟩; have l3 := l2))
              have HT5 := Lib.hid hT5
              clear HS HS2 HW hT4 l0 l1 l2 l3
              go_wp2_with fail
              exact ⟨⟨m + 1, _, _, _, _, _, _, by omega, by go_num, HT5.out⟩, by simp [intOf]; omega⟩
          · as_aux_lemma =>
              have HP := Lib.hid (two_apply_p HA.out.drew X)
              have HR := Lib.hid (fun v' w' hk hr => (two_apply_r (v' := v') (w2 := w') HA.out X hk hr))
              generalize hEE : applyE s X = EE at *
              clear hEE
              have hee : (EE == EE) = true := by simp
              go_wp2_with fail
              go_region_held3 (fun w' => w'.cell? ⟨g, 1, none⟩ = some (.int .i64 X)) (first | exact e1 | exact f1 | exact h1)
                (first
                  | (go_at_call 10; refine HP.out.mono ?_; rintro e w2 ⟨rfl, v2, hK2, hR2, hp2⟩; have hbf := hp2 _ _ _ (.inl rfl) BX.out.drew; have f1 : w2.cell? ⟨g, 1, none⟩ = some (.int .i64 X) := (by rw [hbf.cell]; rfl))
                  | (go_at_call 11; refine (HR.out _ _ hK2 hR2).mono ?_; rintro e w3 ⟨rfl, va3, vl3, hT3, hp3⟩; have hbh := hp3 _ _ _ (.inl rfl) hbf; have h1 : w3.cell? ⟨g, 1, none⟩ = some (.int .i64 X) := (by rw [hbh.cell]; rfl)))
              clear HP HR hK2 hR2 hp2 hp3 e0 e1 e2 HA BX hbf hbh f1 h1
              obtain ⟨q1, q2, hq12⟩ := hT3.rp.row.form_
              subst hq12
              have l0 := hT3.rp.c6
              have HS := Lib.hid (two_sure_p hT3.drew)
              have HS2 := Lib.hid (fun w' (h : Two w b pb (m + 1) (applyS s X) W ks v2 va3 (.slice q1 W.length q2) w') => two_sure_r h (by omega))
              have HW := Lib.hid (fun w' (h : Two w b pb (m + 1) (applyS s X) W ks v2 va3 (.slice q1 W.length q2) w') => two_wait h)
              clear hT3
              generalize sureOf (applyS s X) = SS at *
              generalize W.length = wl at *
              have hss : (SS != SS) = false := by simp
              have hwl : ((wl : Int) != (wl : Int)) = false := by simp
              go_wp2_with fail
              go_region_held3 (fun w' => w'.cell? ⟨pb, 6, none⟩ = some (.slice q1 wl q2)) (first | exact l0 | exact l1 | exact l2 | exact l3)
                (first
                  | (go_at_call 21; refine HS.out.mono ?_; rintro e w4 ⟨rfl, hT4⟩; have l1 := hT4.rp.c6)
                  | (go_at_call 22; refine (HS2.out _ hT4).mono ?_; rintro e w5 ⟨rfl, hT5⟩; have l2 := hT5.rp.c6)
                  | (go_at_call 23; refine (HW.out _ hT5).mono ?_; rintro e w6 ⟨rfl, rfl⟩; have l3 := l2))
              have HT5 := Lib.hid hT5
              clear HS HS2 HW hT4 l0 l1 l2 l3
              go_wp2_with fail
              exact ⟨⟨m + 1, _, _, _, _, _, _, by omega, by go_num, HT5.out⟩, by simp [intOf]; omega⟩
          · as_aux_lemma =>
              have HP := Lib.hid (two_ask_p HA.out.drew X)
              have HR := Lib.hid (fun v' w' hk hr => (two_ask_r (v' := v') (w2 := w') HA.out X hk hr))
              generalize hEE : askE W X = EE at *
              clear hEE
              have hee : (EE == EE) = true := by simp
              go_wp2_with fail
              go_region_held3 (fun w' => w'.cell? ⟨g, 1, none⟩ = some (.int .i64 X)) (first | exact e1 | exact f1 | exact h1)
                (first
                  | (go_at_call 12; refine HP.out.mono ?_; rintro e w2 ⟨rfl, v2, hK2, hR2, hp2⟩; have hbf := hp2 _ _ _ (.inl rfl) BX.out.drew; have f1 : w2.cell? ⟨g, 1, none⟩ = some (.int .i64 X) := (by rw [hbf.cell]; rfl))
                  | (go_at_call 13; refine (HR.out _ _ hK2 hR2).mono ?_; rintro e w3 ⟨rfl, va3, vl3, hT3, hp3⟩; have hbh := hp3 _ _ _ (.inl rfl) hbf; have h1 : w3.cell? ⟨g, 1, none⟩ = some (.int .i64 X) := (by rw [hbh.cell]; rfl)))
              clear HP HR hK2 hR2 hp2 hp3 e0 e1 e2 HA BX hbf hbh f1 h1
              obtain ⟨q1, q2, hq12⟩ := hT3.rp.row.form_
              subst hq12
              have l0 := hT3.rp.c6
              have HS := Lib.hid (two_sure_p hT3.drew)
              have HS2 := Lib.hid (fun w' (h : Two w b pb (m + 1) s (askW s W X) ks v2 va3 (.slice q1 (askW s W X).length q2) w') => two_sure_r h (by omega))
              have HW := Lib.hid (fun w' (h : Two w b pb (m + 1) s (askW s W X) ks v2 va3 (.slice q1 (askW s W X).length q2) w') => two_wait h)
              clear hT3
              generalize sureOf s = SS at *
              generalize (askW s W X).length = wl at *
              have hss : (SS != SS) = false := by simp
              have hwl : ((wl : Int) != (wl : Int)) = false := by simp
              go_wp2_with fail
              go_region_held3 (fun w' => w'.cell? ⟨pb, 6, none⟩ = some (.slice q1 wl q2)) (first | exact l0 | exact l1 | exact l2 | exact l3)
                (first
                  | (go_at_call 21; refine HS.out.mono ?_; rintro e w4 ⟨rfl, hT4⟩; have l1 := hT4.rp.c6)
                  | (go_at_call 22; refine (HS2.out _ hT4).mono ?_; rintro e w5 ⟨rfl, hT5⟩; have l2 := hT5.rp.c6)
                  | (go_at_call 23; refine (HW.out _ hT5).mono ?_; rintro e w6 ⟨rfl, rfl⟩; have l3 := l2))
              have HT5 := Lib.hid hT5
              clear HS HS2 HW hT4 l0 l1 l2 l3
              go_wp2_with fail
              exact ⟨⟨m + 1, _, _, _, _, _, _, by omega, by go_num, HT5.out⟩, by simp [intOf]; omega⟩
          · as_aux_lemma =>
              have HP := Lib.hid (two_ask_p HA.out.drew X)
              have HR := Lib.hid (fun v' w' hk hr => (two_ask_r (v' := v') (w2 := w') HA.out X hk hr))
              generalize hEE : askE W X = EE at *
              clear hEE
              have hee : (EE == EE) = true := by simp
              go_wp2_with fail
              go_region_held3 (fun w' => w'.cell? ⟨g, 1, none⟩ = some (.int .i64 X)) (first | exact e1 | exact f1 | exact h1)
                (first
                  | (go_at_call 12; refine HP.out.mono ?_; rintro e w2 ⟨rfl, v2, hK2, hR2, hp2⟩; have hbf := hp2 _ _ _ (.inl rfl) BX.out.drew; have f1 : w2.cell? ⟨g, 1, none⟩ = some (.int .i64 X) := (by rw [hbf.cell]; rfl))
                  | (go_at_call 13; refine (HR.out _ _ hK2 hR2).mono ?_; rintro e w3 ⟨rfl, va3, vl3, hT3, hp3⟩; have hbh := hp3 _ _ _ (.inl rfl) hbf; have h1 : w3.cell? ⟨g, 1, none⟩ = some (.int .i64 X) := (by rw [hbh.cell]; rfl)))
              clear HP HR hK2 hR2 hp2 hp3 e0 e1 e2 HA BX hbf hbh f1 h1
              obtain ⟨q1, q2, hq12⟩ := hT3.rp.row.form_
              subst hq12
              have l0 := hT3.rp.c6
              have HS := Lib.hid (two_sure_p hT3.drew)
              have HS2 := Lib.hid (fun w' (h : Two w b pb (m + 1) s (askW s W X) ks v2 va3 (.slice q1 (askW s W X).length q2) w') => two_sure_r h (by omega))
              have HW := Lib.hid (fun w' (h : Two w b pb (m + 1) s (askW s W X) ks v2 va3 (.slice q1 (askW s W X).length q2) w') => two_wait h)
              clear hT3
              generalize sureOf s = SS at *
              generalize (askW s W X).length = wl at *
              have hss : (SS != SS) = false := by simp
              have hwl : ((wl : Int) != (wl : Int)) = false := by simp
              go_wp2_with fail
              go_region_held3 (fun w' => w'.cell? ⟨pb, 6, none⟩ = some (.slice q1 wl q2)) (first | exact l0 | exact l1 | exact l2 | exact l3)
                (first
                  | (go_at_call 21; refine HS.out.mono ?_; rintro e w4 ⟨rfl, hT4⟩; have l1 := hT4.rp.c6)
                  | (go_at_call 22; refine (HS2.out _ hT4).mono ?_; rintro e w5 ⟨rfl, hT5⟩; have l2 := hT5.rp.c6)
                  | (go_at_call 23; refine (HW.out _ hT5).mono ?_; rintro e w6 ⟨rfl, rfl⟩; have l3 := l2))
              have HT5 := Lib.hid hT5
              clear HS HS2 HW hT4 l0 l1 l2 l3
              go_wp2_with fail
              exact ⟨⟨m + 1, _, _, _, _, _, _, by omega, by go_num, HT5.out⟩, by simp [intOf]; omega⟩
          · as_aux_lemma =>
              have c2 := HA.out.rp.c2
              have f2 := HA.out.rp.fz 2
              have hr0 := HA.out.an.r0
              have hr1 := HA.out.r1
              obtain ⟨hK2, hR2⟩ := HA.out.beat0
              have d2 := hR2.c2
              simp only [beatS] at d2
              have HP := Lib.hid (two_beat_p (m := m) ((hK2.new_ ((Ch.refl _ _).drew)).1) hR2.drew HA.out.an hr1 HA.out.k1 hm9)
              clear hK2 hR2 e0 e1 e2
              obtain ⟨RR, hRR⟩ : ∃ RR, s.rounds = RR := ⟨_, rfl⟩
              have HRR := Lib.hid hRR
              rw [hRR] at c2 d2 hr0 hr1 HP
              clear hRR
              have hrr : ((RR + 1) == (RR + 1)) = true := by simp
              go_wp2_with fail
              go_region_held3 (fun w' => w'.cell? ⟨pb, 2, none⟩ = some (.int .i64 (RR + 1))) (first | exact d2 | exact d3)
                (first
                  | (go_at_call 14; refine HP.out.mono ?_; rintro e w3 ⟨rfl, hT3⟩; have d3 : w3.cell? ⟨pb, 2, none⟩ = some (.int .i64 (RR + 1)) := (by rw [← HRR.out]; exact hT3.rp.c2)))
              clear HP HA BX c2 f2 d2 d3 hr0 hr1 hrr HRR
              obtain ⟨q1, q2, hq12⟩ := hT3.rp.row.form_
              subst hq12
              have l0 := hT3.rp.c6
              have HS := Lib.hid (two_sure_p hT3.drew)
              have HS2 := Lib.hid (fun w' (h : Two w b pb (m + 1) (beatS s) W ks v va (.slice q1 W.length q2) w') => two_sure_r h (by omega))
              have HW := Lib.hid (fun w' (h : Two w b pb (m + 1) (beatS s) W ks v va (.slice q1 W.length q2) w') => two_wait h)
              clear hT3
              generalize sureOf (beatS s) = SS at *
              generalize W.length = wl at *
              have hss : (SS != SS) = false := by simp
              have hwl : ((wl : Int) != (wl : Int)) = false := by simp
              go_wp2_with fail
              go_region_held3 (fun w' => w'.cell? ⟨pb, 6, none⟩ = some (.slice q1 wl q2)) (first | exact l0 | exact l1 | exact l2 | exact l3)
                (first
                  | (go_at_call 21; refine HS.out.mono ?_; rintro e w4 ⟨rfl, hT4⟩; have l1 := hT4.rp.c6)
                  | (go_at_call 22; refine (HS2.out _ hT4).mono ?_; rintro e w5 ⟨rfl, hT5⟩; have l2 := hT5.rp.c6)
                  | (go_at_call 23; refine (HW.out _ hT5).mono ?_; rintro e w6 ⟨rfl, rfl⟩; have l3 := l2))
              have HT5 := Lib.hid hT5
              clear HS HS2 HW hT4 l0 l1 l2 l3
              go_wp2_with fail
              exact ⟨⟨m + 1, _, _, _, _, _, _, by omega, by go_num, HT5.out⟩, by simp [intOf]; omega⟩
          · as_aux_lemma =>
              have HP := Lib.hid (two_ack_p HA.out.drew X Y)
              have HR := Lib.hid (fun v' w' hk hr => (two_ack_r (v' := v') (w2 := w') HA.out hm9 X Y hk hr))
              generalize hEE : ackE s X Y = EE at *
              clear hEE
              have hee : (EE == EE) = true := by simp
              go_wp2_with fail
              go_region_held3 (fun w' => w'.cell? ⟨g, 1, none⟩ = some (.int .i64 X) ∧ w'.cell? ⟨g, 2, none⟩ = some (.int .i64 Y)) (first | exact ⟨e1, e2⟩ | exact ⟨f1, f2⟩ | exact ⟨h1, h2⟩)
                (first
                  | (go_at_call 15; refine HP.out.mono ?_; rintro e w2 ⟨rfl, v2, hK2, hR2, hp2⟩; have hbf := hp2 _ _ _ (.inl rfl) BX.out.drew; have f1 : w2.cell? ⟨g, 1, none⟩ = some (.int .i64 X) := (by rw [hbf.cell]; rfl); have f2 : w2.cell? ⟨g, 2, none⟩ = some (.int .i64 Y) := (by rw [hbf.cell]; rfl))
                  | (go_at_call 16; refine (HR.out _ _ hK2 hR2).mono ?_; rintro e w3 ⟨rfl, va3, vl3, hT3, hp3⟩; have hbh := hp3 _ _ _ (.inl rfl) hbf; have h1 : w3.cell? ⟨g, 1, none⟩ = some (.int .i64 X) := (by rw [hbh.cell]; rfl); have h2 : w3.cell? ⟨g, 2, none⟩ = some (.int .i64 Y) := (by rw [hbh.cell]; rfl)))
              clear HP HR hK2 hR2 hp2 hp3 e0 e1 e2 HA BX hbf hbh f1 h1 f2 h2
              obtain ⟨q1, q2, hq12⟩ := hT3.rp.row.form_
              subst hq12
              have l0 := hT3.rp.c6
              have HS := Lib.hid (two_sure_p hT3.drew)
              have HS2 := Lib.hid (fun w' (h : Two w b pb (m + 1) (ackSS s X Y) W (ackK s ks X Y) v2 va3 (.slice q1 W.length q2) w') => two_sure_r h (by omega))
              have HW := Lib.hid (fun w' (h : Two w b pb (m + 1) (ackSS s X Y) W (ackK s ks X Y) v2 va3 (.slice q1 W.length q2) w') => two_wait h)
              clear hT3
              generalize sureOf (ackSS s X Y) = SS at *
              generalize W.length = wl at *
              have hss : (SS != SS) = false := by simp
              have hwl : ((wl : Int) != (wl : Int)) = false := by simp
              go_wp2_with fail
              go_region_held3 (fun w' => w'.cell? ⟨pb, 6, none⟩ = some (.slice q1 wl q2)) (first | exact l0 | exact l1 | exact l2 | exact l3)
                (first
                  | (go_at_call 21; refine HS.out.mono ?_; rintro e w4 ⟨rfl, hT4⟩; have l1 := hT4.rp.c6)
                  | (go_at_call 22; refine (HS2.out _ hT4).mono ?_; rintro e w5 ⟨rfl, hT5⟩; have l2 := hT5.rp.c6)
                  | (go_at_call 23; refine (HW.out _ hT5).mono ?_; rintro e w6 ⟨rfl, rfl⟩; have l3 := l2))
              have HT5 := Lib.hid hT5
              clear HS HS2 HW hT4 l0 l1 l2 l3
              go_wp2_with fail
              exact ⟨⟨m + 1, _, _, _, _, _, _, by omega, by go_num, HT5.out⟩, by simp [intOf]; omega⟩
          · as_aux_lemma =>
              have HP := Lib.hid (two_ack_p HA.out.drew X Y)
              have HR := Lib.hid (fun v' w' hk hr => (two_ack_r (v' := v') (w2 := w') HA.out hm9 X Y hk hr))
              generalize hEE : ackE s X Y = EE at *
              clear hEE
              have hee : (EE == EE) = true := by simp
              go_wp2_with fail
              go_region_held3 (fun w' => w'.cell? ⟨g, 1, none⟩ = some (.int .i64 X) ∧ w'.cell? ⟨g, 2, none⟩ = some (.int .i64 Y)) (first | exact ⟨e1, e2⟩ | exact ⟨f1, f2⟩ | exact ⟨h1, h2⟩)
                (first
                  | (go_at_call 15; refine HP.out.mono ?_; rintro e w2 ⟨rfl, v2, hK2, hR2, hp2⟩; have hbf := hp2 _ _ _ (.inl rfl) BX.out.drew; have f1 : w2.cell? ⟨g, 1, none⟩ = some (.int .i64 X) := (by rw [hbf.cell]; rfl); have f2 : w2.cell? ⟨g, 2, none⟩ = some (.int .i64 Y) := (by rw [hbf.cell]; rfl))
                  | (go_at_call 16; refine (HR.out _ _ hK2 hR2).mono ?_; rintro e w3 ⟨rfl, va3, vl3, hT3, hp3⟩; have hbh := hp3 _ _ _ (.inl rfl) hbf; have h1 : w3.cell? ⟨g, 1, none⟩ = some (.int .i64 X) := (by rw [hbh.cell]; rfl); have h2 : w3.cell? ⟨g, 2, none⟩ = some (.int .i64 Y) := (by rw [hbh.cell]; rfl)))
              clear HP HR hK2 hR2 hp2 hp3 e0 e1 e2 HA BX hbf hbh f1 h1 f2 h2
              obtain ⟨q1, q2, hq12⟩ := hT3.rp.row.form_
              subst hq12
              have l0 := hT3.rp.c6
              have HS := Lib.hid (two_sure_p hT3.drew)
              have HS2 := Lib.hid (fun w' (h : Two w b pb (m + 1) (ackSS s X Y) W (ackK s ks X Y) v2 va3 (.slice q1 W.length q2) w') => two_sure_r h (by omega))
              have HW := Lib.hid (fun w' (h : Two w b pb (m + 1) (ackSS s X Y) W (ackK s ks X Y) v2 va3 (.slice q1 W.length q2) w') => two_wait h)
              clear hT3
              generalize sureOf (ackSS s X Y) = SS at *
              generalize W.length = wl at *
              have hss : (SS != SS) = false := by simp
              have hwl : ((wl : Int) != (wl : Int)) = false := by simp
              go_wp2_with fail
              go_region_held3 (fun w' => w'.cell? ⟨pb, 6, none⟩ = some (.slice q1 wl q2)) (first | exact l0 | exact l1 | exact l2 | exact l3)
                (first
                  | (go_at_call 21; refine HS.out.mono ?_; rintro e w4 ⟨rfl, hT4⟩; have l1 := hT4.rp.c6)
                  | (go_at_call 22; refine (HS2.out _ hT4).mono ?_; rintro e w5 ⟨rfl, hT5⟩; have l2 := hT5.rp.c6)
                  | (go_at_call 23; refine (HW.out _ hT5).mono ?_; rintro e w6 ⟨rfl, rfl⟩; have l3 := l2))
              have HT5 := Lib.hid hT5
              clear HS HS2 HW hT4 l0 l1 l2 l3
              go_wp2_with fail
              exact ⟨⟨m + 1, _, _, _, _, _, _, by omega, by go_num, HT5.out⟩, by simp [intOf]; omega⟩
          · as_aux_lemma =>
              have hr1 := HA.out.r1
              have hk1' := HA.out.k1
              have h64 := HA.out.kr.rd.len
              have hkw := readyK_le s W
              have HP := Lib.hid (two_ready_p HA.out)
              have HR := Lib.hid (fun W' v' w' B1 n1 v1 xs hk hr ho => two_ready_r (W' := W') (v' := v') (w2 := w') (B1 := B1) (n1 := n1) (v1 := v1) (xs := xs) HA.out hm9 hk hr ho)
              have HAN := Lib.hid HA.out.an
              clear e0 e1 e2 BX HA
              generalize hKR : readyK s W = KR at *
              clear hKR
              go_wp2_with fail
              refine HP.out.mono ?_
              rintro e w2 ⟨A2, c2, v2, rfl, ho2, hK2, hR2⟩
              dsimp only
              have HR2 := Lib.hid (HR.out _ _ _ _ _ _ _ hK2 hR2 ho2)
              clear HP HR ho2 hK2 hR2
              go_wp2_with fail
              refine HR2.out.mono ?_
              rintro e w3 ⟨A3, c3, vl3, rfl, ho3, ho2, hK3, hR3⟩
              dsimp only
              have HS0 := Lib.hid (two_same (m := m + 1) hK3 hR3 HAN.out (by omega) (by omega) ho2 ho3 (by omega))
              clear HR2 ho2 ho3 hK3 hR3
              go_wp2_with fail
              refine HS0.out.mono ?_
              rintro e w7 ⟨rfl, hT3⟩
              dsimp only
              clear HS0 HAN
              obtain ⟨q1, q2, hq12⟩ := hT3.rp.row.form_
              subst hq12
              have l0 := hT3.rp.c6
              have HS := Lib.hid (two_sure_p hT3.drew)
              have HS2 := Lib.hid (fun w' (h : Two w b pb (m + 1) s (W.drop KR) ks v2 va (.slice q1 (W.drop KR).length q2) w') => two_sure_r h (by omega))
              have HW := Lib.hid (fun w' (h : Two w b pb (m + 1) s (W.drop KR) ks v2 va (.slice q1 (W.drop KR).length q2) w') => two_wait h)
              clear hT3
              generalize sureOf s = SS at *
              generalize (W.drop KR).length = wl at *
              have hss : (SS != SS) = false := by simp
              have hwl : ((wl : Int) != (wl : Int)) = false := by simp
              go_wp2_with fail
              go_region_held3 (fun w' => w'.cell? ⟨pb, 6, none⟩ = some (.slice q1 wl q2)) (first | exact l0 | exact l1 | exact l2 | exact l3)
                (first
                  | (go_at_call 21; refine HS.out.mono ?_; rintro e w4 ⟨rfl, hT4⟩; have l1 := hT4.rp.c6)
                  | (go_at_call 22; refine (HS2.out _ hT4).mono ?_; rintro e w5 ⟨rfl, hT5⟩; have l2 := hT5.rp.c6)
                  | (go_at_call 23; refine (HW.out _ hT5).mono ?_; rintro e w6 ⟨rfl, rfl⟩; have l3 := l2))
              have HT5 := Lib.hid hT5
              clear HS HS2 HW hT4 l0 l1 l2 l3
              go_wp2_with fail
              exact ⟨⟨m + 1, _, _, _, _, _, _, by omega, by go_num, HT5.out⟩, by simp [intOf]; omega⟩
          · as_aux_lemma =>
              obtain ⟨i0, hi0, hz0, hz1, hz2⟩ := info_parts int_info
              have hr1 := HA.out.r1
              have hk1' := HA.out.k1
              have h64 := HA.out.kr.rd.len
              obtain ⟨A1, q0, hv1⟩ := HA.out.rp.row.form_
              subst hv1
              have d6 := HA.out.rp.c6
              have HAN := Lib.hid HA.out.an
              clear e0 e1 e2 BX
              go_wp2_with fail
              go_loopw [12, 133] (fun o i w' => ∃ j : Nat, j ≤ W.length ∧ i = .int .i64 j ∧ w'.ownsRow wb.heap.size 3 1 o j (ids (W.take j)) ∧ NewW wb w') (fun _ i _ => W.length - (intOf i).toNat)
              case atStart => exact ⟨0, by omega, rfl, ⟨by simp [ids], .inl ⟨rfl, rfl⟩⟩, Ch.refl _ _⟩
              case round =>
                obtain ⟨j, hj, rfl, hown, hC⟩ := hrel
                clear d6
                by_cases hlt : j < W.length
                · obtain ⟨x, hx⟩ := some_of_lt hlt
                  obtain ⟨g1, o1, q3, hv2, _, _⟩ := HA.out.rp.row.some_ (by omega)
                  injection hv2 with hv2 _ hq2
                  subst hv2 hq2
                  obtain ⟨r0, r1, r2⟩ := HA.out.rp.at_ hx
                  have e0 := (ch_cell hC (block_lt_of_cell r0)).trans r0
                  have e1 := (ch_cell hC (block_lt_of_cell r1)).trans r1
                  have e2 := (ch_cell hC (block_lt_of_cell r2)).trans r2
                  have HNX := Lib.hid (ids_next W j hx)
                  have hsz := hC.size
                  have Ho := Lib.hid hown
                  have HC := Lib.hid hC
                  have hjl : j ≤ 64 := by omega
                  clear hx r0 r1 r2 hown hC
                  obtain ⟨x1, x2, x3⟩ := x
                  simp only at e0 e1 e2 HNX
                  have BX := Lib.hid (Blk.new wr 41 #[.int .i64 x1, .int .i64 x2, .int .i64 x3])
                  have hl := Nat.lt_succ_self wr.heap.size
                  go_wp2_with (first
                    | (at_builtin
                       refine wpList_append_any _ rfl (.tmp 137) (.tmp 140) _ rfl wb.heap.size 3 i0 _ 1 8 Try.underlying38 hi0 hz0 hz1 hz2 rfl (by omega) _ j (ids (W.take j)) rfl
                         ((Ho.out.alloc _).alloc _) (wr.heap.size + 2) (some ⟨wr.heap.size + 1, 0, none⟩) 1 1 [.int .i64 x1] rfl ?_ (by simp [Value.oneCell']) (by simp only [maxLen]; omega) (by omega) (by simp; omega) ?_
                       rotate_left 1
                       intro v1 w1 hown1 hg1 hat1
                       have HO := Lib.hid hown1; clear hown1
                       have HG := Lib.hid hg1; clear hg1))
                  · have HG' : ((wr.alloc (.cells #[.int .i64 x1, .int .i64 x2, .int .i64 x3] 41)).alloc (.cells #[.int .i64 x1] 3)).grownBy w1 _ := HG.out
                    refine ⟨⟨_, _, _, ⟨j + 1, by omega, by go_num, by rw [HNX.out]; exact HO.out, ((HC.out.alloc _).alloc _).grown HG' (fun q hq => .inr (Ho.out.lt q hq).1)⟩, rfl, rfl, rfl⟩, by simp [intOf]; omega⟩
                  · have := reads_one (wr.alloc (.cells #[.int .i64 x1, .int .i64 x2, .int .i64 x3] 41)) 3 (.int .i64 x1)
                    simpa using this
                · obtain rfl : j = W.length := by omega
                  have hT2 := HA.out.new_ hC
                  have d6 := hT2.rp.c6
                  have f6 := hT2.rp.fz 6
                  obtain ⟨A9, c9, rfl⟩ := own_form hown
                  rw [List.take_length] at hown
                  obtain ⟨hK2, hR2, ho2⟩ := hT2.nil0 hown
                  have HP := Lib.hid (two_drop_p hK2 hR2 ho2)
                  clear hlt hj hT2 hown hC hK2 hR2 ho2 HA
                  go_wp2_with fail
                  refine HP.out.mono ?_
                  rintro e w4 ⟨A4, c4, v4, rfl, ho4, ho5, hK4, hR4⟩
                  dsimp only
                  have HS0 := Lib.hid (two_same (m := m + 1) hK4 hR4 HAN.out (by omega) (by omega) ho4 ho5 (by omega))
                  clear HP ho4 ho5 hK4 hR4
                  go_wp2_with fail
                  refine HS0.out.mono ?_
                  rintro e w7 ⟨rfl, hT3⟩
                  dsimp only
                  clear HS0 HAN
                  have l0 := hT3.rp.c6
                  have HS := Lib.hid (two_sure_p hT3.drew)
                  have HS2 := Lib.hid (fun w' (h : Two w b pb (m + 1) s [] ks v4 va (.slice none 0 0) w') => two_sure_r h (by omega))
                  have HW := Lib.hid (fun w' (h : Two w b pb (m + 1) s [] ks v4 va (.slice none 0 0) w') => two_wait h)
                  clear hT3
                  generalize sureOf s = SS at *
                  have hss : (SS != SS) = false := by simp
                  have h0 : ((0 : Int) != (0 : Int)) = false := by simp
                  go_wp2_with fail
                  go_region_held3 (fun w' => w'.cell? ⟨pb, 6, none⟩ = some (.slice none 0 0)) (first | exact l0 | exact l1 | exact l2 | exact l3)
                    (first
                      | (go_at_call 21; refine HS.out.mono ?_; rintro e w4 ⟨rfl, hT4⟩; have l1 := hT4.rp.c6)
                      | (go_at_call 22; refine (HS2.out _ hT4).mono ?_; rintro e w5 ⟨rfl, hT5⟩; have l2 := hT5.rp.c6)
                      | (go_at_call 23; refine (HW.out _ hT5).mono ?_; rintro e w6 ⟨rfl, rfl⟩; have l3 := l2))
                  have HT5 := Lib.hid hT5
                  clear HS HS2 HW hT4 l0 l1 l2 l3
                  go_wp2_with fail
                  exact ⟨⟨m + 1, _, _, _, _, _, _, by omega, by go_num, HT5.out⟩, by simp [intOf]; omega⟩
        · obtain rfl : m = n := by omega
          have HB := Lib.hid HT.out.kr.below
          clear hlt hm hAA HT
          go_wp2_with fail
          go_ret
          exact ⟨rfl, HB.out⟩
end Go.Proofs.Ytdbbnkibdibpkab
