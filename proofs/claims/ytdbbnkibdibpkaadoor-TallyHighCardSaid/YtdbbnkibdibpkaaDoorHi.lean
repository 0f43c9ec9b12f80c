/- TallyHigh: the law's walk. -/
import Derived.Test.YtdbbnkibdibpkaaDoorFix
import Derived.Test.YtdbbnkibdibpkaaDoorLibArgs
import Derived.OpenShut
namespace Go.Proofs.YtdbbnkibdibpkaaDoor
open Go.RowKit Go.ChangeShapes Go.WideShapes
set_option linter.unusedVariables false

/-- A slice of acts: kind, number, two numbers, flags, current. -/
def ActAt (w : World) (b off i : Nat) (K N X Y F : Int) (C : Bool) : Prop :=
  w.cell? ⟨b, off + i * 6, none⟩ = some (.int .u8 K) ∧ w.cell? ⟨b, off + i * 6 + 1, none⟩ = some (.int .i64 N) ∧ w.cell? ⟨b, off + i * 6 + 2, none⟩ = some (.int .i64 X) ∧ w.cell? ⟨b, off + i * 6 + 3, none⟩ = some (.int .i64 Y) ∧
    w.cell? ⟨b, off + i * 6 + 4, none⟩ = some (.int .u64 F) ∧ w.cell? ⟨b, off + i * 6 + 5, none⟩ = some (.bool C)
def Acts (w : World) (A : Option Addr) (n : Nat) : Prop :=
  n ≤ maxLen ∧ (0 < n → ∃ b off, A = some ⟨b, off, none⟩ ∧ b < w.heap.size ∧ ∀ i, i < n → ∃ (K N X Y F : Int) (C : Bool), 0 ≤ K ∧ K ≤ 255 ∧ (Lit.int .i64 N).wf = true ∧ (Lit.int .i64 X).wf = true ∧ (Lit.int .i64 Y).wf = true ∧ (Lit.int .u64 F).wf = true ∧ ActAt w b off i K N X Y F C)
theorem ActAt.below {w0 w : World} {b off i : Nat} {K N X Y F : Int} {C : Bool} (h : ActAt w0 b off i K N X Y F C) (hb : Below w0.heap.size w0 w) (hlt : b < w0.heap.size) : ActAt w b off i K N X Y F C :=
  ⟨(hb.cell hlt).trans h.1, (hb.cell hlt).trans h.2.1, (hb.cell hlt).trans h.2.2.1, (hb.cell hlt).trans h.2.2.2.1, (hb.cell hlt).trans h.2.2.2.2.1, (hb.cell hlt).trans h.2.2.2.2.2⟩

/-- What one act does to counter k. -/
def Step (k : Nat) (N : Int) (c c' : Nat → Int) : Prop := c (k * 2 + 1) ≤ c' (k * 2 + 1) ∧ c' (k * 2) ≤ c' (k * 2 + 1) ∧ (N ≠ k → c' (k * 2) = c (k * 2))
theorem Step.same {k : Nat} {N : Int} {c : Nat → Int} (h : c (k * 2) ≤ c (k * 2 + 1)) : Step k N c c := ⟨Int.le_refl _, h, fun _ => rfl⟩
theorem Step.lay {k m : Nat} {c : Nat → Int} (h : c (k * 2) ≤ c (k * 2 + 1)) (v : Int) : Step k m c (lay c m v) := by
  unfold YtdbbnkibdibpkaaDoor.lay
  by_cases hk : m = k
  · subst hk
    split
    · rename_i hv
      refine ⟨?_, ?_, fun h => absurd rfl h⟩
      · rw [put_other _ _ _ _ (by omega)]; exact Int.le_refl _
      · rw [put_same, put_other _ _ _ _ (by omega)]; exact hv
    · rename_i hv
      refine ⟨?_, ?_, fun h => absurd rfl h⟩
      · rw [put_same]; omega
      · rw [put_same, put_other _ _ _ _ (by omega), put_same]; exact Int.le_refl _
  · split
    · refine ⟨?_, ?_, fun h => ?_⟩
      · rw [put_other _ _ _ _ (by omega)]; exact Int.le_refl _
      · rw [put_other _ _ _ _ (by omega), put_other _ _ _ _ (by omega)]; exact h
      · rw [put_other _ _ _ _ (by omega)]
    · refine ⟨?_, ?_, fun h => ?_⟩
      · rw [put_other _ _ _ _ (by omega), put_other _ _ _ _ (by omega)]; exact Int.le_refl _
      · rw [put_other _ _ _ _ (by omega), put_other _ _ _ _ (by omega), put_other _ _ _ _ (by omega), put_other _ _ _ _ (by omega)]; exact h
      · rw [put_other _ _ _ _ (by omega), put_other _ _ _ _ (by omega)]
theorem Step.take {k m : Nat} {c : Nat → Int} (h : c (k * 2) ≤ c (k * 2 + 1)) (h0 : 0 ≤ c (k * 2 + 1)) : Step k m c (put c (m * 2) 0) := by
  by_cases hk : m = k
  · subst hk
    refine ⟨?_, ?_, fun h => absurd rfl h⟩
    · rw [put_other _ _ _ _ (by omega)]; exact Int.le_refl _
    · rw [put_same, put_other _ _ _ _ (by omega)]; exact h0
  · refine ⟨?_, ?_, fun h => ?_⟩
    · rw [put_other _ _ _ _ (by omega)]; exact Int.le_refl _
    · rw [put_other _ _ _ _ (by omega), put_other _ _ _ _ (by omega)]; exact h
    · rw [put_other _ _ _ _ (by omega)]

/-- What the law keeps at a round's head. -/
structure Inv (w : World) (b k i : Nat) (high opened : Int) (s : St) (wr : World) : Prop where
  kept : Kept w b s wr
  high : high = s.c (k * 2 + 1)
  le : s.c (k * 2) ≤ s.c (k * 2 + 1)
  pos : 0 ≤ s.c (k * 2 + 1)
  gate : opened = s.gate
  one : s.gate = 0 ∨ s.gate = 1
  tried0 : 0 ≤ s.tried
  tried1 : s.tried ≤ i
theorem Inv.next {w wr w' : World} {b k i : Nat} {high opened N h' : Int} {s s' : St} (hI : Inv w b k i high opened s wr) (hs : Step k N s.c s'.c) (hK : Kept w b s' w') (hg : s'.gate = s.gate) (ht : s'.tried = s.tried) (hh : s'.c (k * 2 + 1) = h') :
    Inv w b k (i + 1) h' opened s' w' where
  kept := hK
  high := hh.symm
  le := hs.2.1
  pos := Int.le_trans hI.pos hs.1
  gate := by rw [hg]; exact hI.gate
  one := by rw [hg]; exact hI.one
  tried0 := by rw [ht]; exact hI.tried0
  tried1 := by rw [ht]; have := hI.tried1; omega
theorem Inv.opened {w wr w' : World} {b k i : Nat} {high opened h' : Int} {s : St} (hI : Inv w b k i high opened s wr) (hK : Kept w b { s with tried := s.tried + 1, gate := 1 } w') (hh : s.c (k * 2 + 1) = h') :
    Inv w b k (i + 1) h' 1 { s with tried := s.tried + 1, gate := 1 } w' where
  kept := hK
  high := hh.symm
  le := hI.le
  pos := hI.pos
  gate := rfl
  one := .inr rfl
  tried0 := by have := hI.tried0; show 0 ≤ s.tried + 1; omega
  tried1 := by have := hI.tried1; show s.tried + 1 ≤ _; omega
theorem tail_facts {w wr : World} {b k i : Nat} {high opened N : Int} {s s' : St} (hI : Inv w b k i high opened s wr) (hs : Step k N s.c s'.c) :
    ∃ h' g' : Int, s'.c (k * 2 + 1) = h' ∧ s'.c (k * 2) = g' ∧ high ≤ h' ∧ g' ≤ h' ∧ (N ≠ k → g' = s.c (k * 2)) :=
  ⟨_, _, rfl, rfl, by rw [hI.high]; exact hs.1, hs.2.1, hs.2.2⟩
theorem Kept.alloc {w0 w : World} {b : Nat} {s : St} (h : Kept w0 b s w) (o : Obj) : Kept w0 b s (w.alloc o) :=
  ⟨Blk.alloc h.1 o, Ch.below h.2.1 ((Ch.refl (fun _ => False) w).alloc o) (fun _ h => h.elim) h.2.1.size, h.2.2⟩
theorem high_k {w0 w : World} {b k : Nat} {s : St} {h' : Int} (hk : k < 16) (h : Kept w0 b s w) (hh : s.c (k * 2 + 1) = h') : Calls Tryd.prog 20 #[.pointer (some ⟨b, 0, none⟩), .int .i64 k] w fun e w' => e = .returned (.int .i64 h') ∧ w = w' := by
  rw [← hh]; exact high_in b k s hk w h.1
theorem get_k {w0 w : World} {b k : Nat} {s : St} {h' : Int} (hk : k < 16) (h : Kept w0 b s w) (hh : s.c (k * 2) = h') : Calls Tryd.prog 19 #[.pointer (some ⟨b, 0, none⟩), .int .i64 k] w fun e w' => e = .returned (.int .i64 h') ∧ w = w' := by
  rw [← hh]; exact get_in b k s hk w h.1

set_option maxRecDepth 100000 in
set_option maxHeartbeats 4000000 in
theorem high_walk (A : Option Addr) (n c : Nat) (kd : Int) (w : World) (hb0 : 0 ≤ kd) (hb1 : kd ≤ 255) (hA : Acts w A n) :
    Calls Tryd.prog 4 #[.slice A n c, .int .u8 kd] w fun e w' => e = .returned (.bool true) ∧ Below w.heap.size w w' := by
  have hfx := Lib.hid (fixed_any w)
  have hmax : (n : Int) ≤ 9223372036854775807 := by have := hA.1; unfold maxLen at this; omega
  have hA := Lib.hid hA
  by_cases hn : 100 < n
  · go_enter Tryd.func4, Tryd.ntmps4
    go_wp2_with (go_at_call 6; (with_reducible refine (hfx.out).mono ?_); rintro e w1 ⟨rfl, hb⟩; have hB := Lib.hid hb; clear hb)
    go_ret
    exact ⟨rfl, hB.out⟩
  · have hn' : n ≤ 100 := by omega
    clear hn
    obtain ⟨k, hk⟩ : ∃ k : Nat, kd % 16 = k := ⟨(kd % 16).toNat, by omega⟩
    have hk16 : k < 16 := by omega
    have hk := Lib.hid hk
    go_enter Tryd.func4, Tryd.ntmps4
    go_wp2_with (first | (go_at_call 6; (with_reducible refine (hfx.out).mono ?_); rintro e w1 ⟨rfl, hb⟩; have hB := Lib.hid hb; clear hb) |
      (go_at_call 7; (with_reducible refine (new_any _).mono ?_); rintro e w2 ⟨rfl, -, rfl⟩; have k0 := Lib.hid (Kept.new w w1 hB.out)))
    have hk' := hk.out
    rw [hk']
    clear hk hk'
    generalize w1.alloc (.cells St.zero.cells 75) = wa at *
    generalize w1.heap.size = b at *
    go_loopw [7, 8, 25] (fun hi op i w' => ∃ (m : Nat) (high opened : Int) (s : St), m ≤ n ∧ i = .int .i64 m ∧ hi = .int .i64 high ∧ op = .int .i64 opened ∧ Inv w b k m high opened s w') (fun _ _ i _ => n - (intOf i).toNat)
    case atStart => exact ⟨0, 0, 0, St.zero, by omega, rfl, rfl, rfl, k0.out, rfl, Int.le_refl 0, Int.le_refl 0, rfl, .inl rfl, Int.le_refl 0, Int.le_refl 0⟩
    case round =>
      obtain ⟨m, high, opened, s, hm, rfl, rfl, rfl, hI⟩ := hrel
      have hI := Lib.hid hI
      by_cases hlt : m < n
      · obtain ⟨b0, off, rfl, hb0', hc⟩ := hA.out.2 (by omega)
        obtain ⟨K, N, X, Y, F, C, hK0, hK1, wN, wX, wY, wF, hact⟩ := hc m hlt
        have hact := hact.below hI.out.kept.2.1 hb0'
        obtain ⟨c0, c1, c2, c3, c4, c5⟩ := hact
        clear hc
        have hbN := bounds_i64 wN
        obtain ⟨was, hwas⟩ : ∃ was, s.c (k * 2) = was := ⟨_, rfl⟩
        have HW := Lib.hid hwas
        clear hwas
        have hop : 0 ≤ opened ∧ opened ≤ 1 := by rw [hI.out.gate]; rcases hI.out.one with h | h <;> omega
        obtain ⟨o0, o1⟩ := hop
        have KA := hI.out.kept.alloc (.cells #[.int .u8 K, .int .i64 N, .int .i64 X, .int .i64 Y, .int .u64 F, .bool C] 30)
        have BX := Lib.hid (Blk.new wr 30 #[.int .u8 K, .int .i64 N, .int .i64 X, .int .i64 Y, .int .u64 F, .bool C])
        have hne : wr.heap.size ≠ b := by have := Blk.lt hI.out.kept.1; omega
        have KA := Lib.hid KA
        have hget := Lib.hid (get_k hk16 KA.out HW.out)
        go_wp2_with fail
        refine hget.out.mono ?_
        rintro e w' ⟨rfl, rfl⟩
        clear hget c0 c1 c2 c3 c4 c5
        generalize wr.alloc (.cells #[.int .u8 K, .int .i64 N, .int .i64 X, .int .i64 Y, .int .u64 F, .bool C] 30) = wb at *
        generalize wr.heap.size = g at *
        have e0 : wb.cell? ⟨g, 0, none⟩ = some (.int .u8 K) := by rw [BX.out.cell]; rfl
        have e1 : wb.cell? ⟨g, 1, none⟩ = some (.int .i64 N) := by rw [BX.out.cell]; rfl
        have e2 : wb.cell? ⟨g, 2, none⟩ = some (.int .i64 X) := by rw [BX.out.cell]; rfl
        have e3 : wb.cell? ⟨g, 3, none⟩ = some (.int .i64 Y) := by rw [BX.out.cell]; rfl
        have hq : K % 7 = 0 ∨ K % 7 = 1 ∨ K % 7 = 2 ∨ K % 7 = 3 ∨ K % 7 = 4 ∨ K % 7 = 5 ∨ K % 7 = 6 := by omega
        have hN : (0 ≤ N ∧ N < 16) ∨ (N < 0 ∨ 16 ≤ N) := by omega
        rcases hq with hq | hq | hq | hq | hq | hq | hq
        · rcases hN with hN | hN
          · obtain ⟨M, rfl⟩ : ∃ M : Nat, N = M := ⟨N.toNat, by omega⟩
            have hM : M < 16 := by omega
            go_wp2_with fail
            refine (add_in b M s hM X wb KA.out.1).mono ?_
            rintro e w2 ⟨rfl, hT⟩
            have KT := Lib.hid (KA.out.step hT)
            have BX2 := BX.out.ch hT.2 hne
            have d1 : w2.cell? ⟨g, 1, none⟩ = some (.int .i64 (M : Int)) := by rw [BX2.cell]; rfl
            clear e0 e1 e2 e3 hT BX2
            obtain ⟨h', g', hh, hg, l1, l2, l3⟩ := tail_facts (s' := { s with c := lay s.c M (IntKind.i64.wrap (s.c (M * 2) + X)) }) hI.out (Step.lay hI.out.le _)
            have HH := Lib.hid hh
            have HG := Lib.hid hg
            have L3 := Lib.hid l3
            clear hh hg l3
            by_cases hNk : (M : Int) = (k : Int)
            · have hNk' : ((M : Int) != (k : Int)) = false := by simp [hNk]
              have HNk := Lib.hid hNk
              clear hNk
              go_wp2_with (first | (go_at_call 20; (with_reducible refine (high_k hk16 KT.out HH.out).mono ?_); rintro e w' ⟨rfl, rfl⟩) | (go_at_call 19; (with_reducible refine (get_k hk16 KT.out HG.out).mono ?_); rintro e w' ⟨rfl, rfl⟩))
              all_goals exact ⟨⟨m + 1, h', _, { s with c := lay s.c M (IntKind.i64.wrap (s.c (M * 2) + X)) }, by omega, by go_num, rfl, rfl, hI.out.next (Step.lay hI.out.le _) KT.out rfl rfl HH.out⟩, by simp [intOf]; omega⟩
            · have hNk' : ((M : Int) != (k : Int)) = true := by simpa using hNk
              have hgw : g' = was := (L3.out hNk).trans HW.out
              have HNk := Lib.hid hNk
              clear hNk
              subst hgw
              go_wp2_with (first | (go_at_call 20; (with_reducible refine (high_k hk16 KT.out HH.out).mono ?_); rintro e w' ⟨rfl, rfl⟩) | (go_at_call 19; (with_reducible refine (get_k hk16 KT.out HG.out).mono ?_); rintro e w' ⟨rfl, rfl⟩))
              all_goals exact ⟨⟨m + 1, h', _, { s with c := lay s.c M (IntKind.i64.wrap (s.c (M * 2) + X)) }, by omega, by go_num, rfl, rfl, hI.out.next (Step.lay hI.out.le _) KT.out rfl rfl HH.out⟩, by simp [intOf]; omega⟩
          · go_wp2_with fail
            refine (add_out b N X hN wb).mono ?_
            rintro e w2 ⟨rfl, rfl⟩
            have KT := KA
            clear e0 e2 e3
            obtain ⟨h', g', hh, hg, l1, l2, l3⟩ := tail_facts (s' := s) hI.out (Step.same (N := N) hI.out.le)
            have HH := Lib.hid hh
            have HG := Lib.hid hg
            have L3 := Lib.hid l3
            clear hh hg l3
            by_cases hNk : N = (k : Int)
            · have hNk' : (N != (k : Int)) = false := by simp [hNk]
              have HNk := Lib.hid hNk
              clear hNk
              go_wp2_with (first | (go_at_call 20; (with_reducible refine (high_k hk16 KT.out HH.out).mono ?_); rintro e w' ⟨rfl, rfl⟩) | (go_at_call 19; (with_reducible refine (get_k hk16 KT.out HG.out).mono ?_); rintro e w' ⟨rfl, rfl⟩))
              all_goals exact ⟨⟨m + 1, h', _, s, by omega, by go_num, rfl, rfl, hI.out.next (Step.same (N := N) hI.out.le) KT.out rfl rfl HH.out⟩, by simp [intOf]; omega⟩
            · have hNk' : (N != (k : Int)) = true := by simpa using hNk
              have hgw : g' = was := (L3.out hNk).trans HW.out
              have HNk := Lib.hid hNk
              clear hNk
              subst hgw
              go_wp2_with (first | (go_at_call 20; (with_reducible refine (high_k hk16 KT.out HH.out).mono ?_); rintro e w' ⟨rfl, rfl⟩) | (go_at_call 19; (with_reducible refine (get_k hk16 KT.out HG.out).mono ?_); rintro e w' ⟨rfl, rfl⟩))
              all_goals exact ⟨⟨m + 1, h', _, s, by omega, by go_num, rfl, rfl, hI.out.next (Step.same (N := N) hI.out.le) KT.out rfl rfl HH.out⟩, by simp [intOf]; omega⟩
        · rcases hN with hN | hN
          · obtain ⟨M, rfl⟩ : ∃ M : Nat, N = M := ⟨N.toNat, by omega⟩
            have hM : M < 16 := by omega
            go_wp2_with fail
            refine (add_in b M s hM X wb KA.out.1).mono ?_
            rintro e w2 ⟨rfl, hT⟩
            have KT := Lib.hid (KA.out.step hT)
            have BX2 := BX.out.ch hT.2 hne
            have d1 : w2.cell? ⟨g, 1, none⟩ = some (.int .i64 (M : Int)) := by rw [BX2.cell]; rfl
            clear e0 e1 e2 e3 hT BX2
            obtain ⟨h', g', hh, hg, l1, l2, l3⟩ := tail_facts (s' := { s with c := lay s.c M (IntKind.i64.wrap (s.c (M * 2) + X)) }) hI.out (Step.lay hI.out.le _)
            have HH := Lib.hid hh
            have HG := Lib.hid hg
            have L3 := Lib.hid l3
            clear hh hg l3
            by_cases hNk : (M : Int) = (k : Int)
            · have hNk' : ((M : Int) != (k : Int)) = false := by simp [hNk]
              have HNk := Lib.hid hNk
              clear hNk
              go_wp2_with (first | (go_at_call 20; (with_reducible refine (high_k hk16 KT.out HH.out).mono ?_); rintro e w' ⟨rfl, rfl⟩) | (go_at_call 19; (with_reducible refine (get_k hk16 KT.out HG.out).mono ?_); rintro e w' ⟨rfl, rfl⟩))
              all_goals exact ⟨⟨m + 1, h', _, { s with c := lay s.c M (IntKind.i64.wrap (s.c (M * 2) + X)) }, by omega, by go_num, rfl, rfl, hI.out.next (Step.lay hI.out.le _) KT.out rfl rfl HH.out⟩, by simp [intOf]; omega⟩
            · have hNk' : ((M : Int) != (k : Int)) = true := by simpa using hNk
              have hgw : g' = was := (L3.out hNk).trans HW.out
              have HNk := Lib.hid hNk
              clear hNk
              subst hgw
              go_wp2_with (first | (go_at_call 20; (with_reducible refine (high_k hk16 KT.out HH.out).mono ?_); rintro e w' ⟨rfl, rfl⟩) | (go_at_call 19; (with_reducible refine (get_k hk16 KT.out HG.out).mono ?_); rintro e w' ⟨rfl, rfl⟩))
              all_goals exact ⟨⟨m + 1, h', _, { s with c := lay s.c M (IntKind.i64.wrap (s.c (M * 2) + X)) }, by omega, by go_num, rfl, rfl, hI.out.next (Step.lay hI.out.le _) KT.out rfl rfl HH.out⟩, by simp [intOf]; omega⟩
          · go_wp2_with fail
            refine (add_out b N X hN wb).mono ?_
            rintro e w2 ⟨rfl, rfl⟩
            have KT := KA
            clear e0 e2 e3
            obtain ⟨h', g', hh, hg, l1, l2, l3⟩ := tail_facts (s' := s) hI.out (Step.same (N := N) hI.out.le)
            have HH := Lib.hid hh
            have HG := Lib.hid hg
            have L3 := Lib.hid l3
            clear hh hg l3
            by_cases hNk : N = (k : Int)
            · have hNk' : (N != (k : Int)) = false := by simp [hNk]
              have HNk := Lib.hid hNk
              clear hNk
              go_wp2_with (first | (go_at_call 20; (with_reducible refine (high_k hk16 KT.out HH.out).mono ?_); rintro e w' ⟨rfl, rfl⟩) | (go_at_call 19; (with_reducible refine (get_k hk16 KT.out HG.out).mono ?_); rintro e w' ⟨rfl, rfl⟩))
              all_goals exact ⟨⟨m + 1, h', _, s, by omega, by go_num, rfl, rfl, hI.out.next (Step.same (N := N) hI.out.le) KT.out rfl rfl HH.out⟩, by simp [intOf]; omega⟩
            · have hNk' : (N != (k : Int)) = true := by simpa using hNk
              have hgw : g' = was := (L3.out hNk).trans HW.out
              have HNk := Lib.hid hNk
              clear hNk
              subst hgw
              go_wp2_with (first | (go_at_call 20; (with_reducible refine (high_k hk16 KT.out HH.out).mono ?_); rintro e w' ⟨rfl, rfl⟩) | (go_at_call 19; (with_reducible refine (get_k hk16 KT.out HG.out).mono ?_); rintro e w' ⟨rfl, rfl⟩))
              all_goals exact ⟨⟨m + 1, h', _, s, by omega, by go_num, rfl, rfl, hI.out.next (Step.same (N := N) hI.out.le) KT.out rfl rfl HH.out⟩, by simp [intOf]; omega⟩
        · rcases hN with hN | hN
          · obtain ⟨M, rfl⟩ : ∃ M : Nat, N = M := ⟨N.toNat, by omega⟩
            have hM : M < 16 := by omega
            by_cases hX : s.c (M * 2) = X
            · subst hX
              go_wp2_with fail
              refine (change_hit b M s hM Y wb KA.out.1).mono ?_
              rintro e w2 ⟨rfl, hT⟩
              have KT := Lib.hid (KA.out.step hT)
              have BX2 := BX.out.ch hT.2 hne
              have d1 : w2.cell? ⟨g, 1, none⟩ = some (.int .i64 (M : Int)) := by rw [BX2.cell]; rfl
              clear e0 e1 e2 e3 hT BX2
              obtain ⟨h', g', hh, hg, l1, l2, l3⟩ := tail_facts (s' := { s with c := lay s.c M Y }) hI.out (Step.lay hI.out.le _)
              have HH := Lib.hid hh
              have HG := Lib.hid hg
              have L3 := Lib.hid l3
              clear hh hg l3
              by_cases hNk : (M : Int) = (k : Int)
              · have hNk' : ((M : Int) != (k : Int)) = false := by simp [hNk]
                have HNk := Lib.hid hNk
                clear hNk
                go_wp2_with (first | (go_at_call 20; (with_reducible refine (high_k hk16 KT.out HH.out).mono ?_); rintro e w' ⟨rfl, rfl⟩) | (go_at_call 19; (with_reducible refine (get_k hk16 KT.out HG.out).mono ?_); rintro e w' ⟨rfl, rfl⟩))
                all_goals exact ⟨⟨m + 1, h', _, { s with c := lay s.c M Y }, by omega, by go_num, rfl, rfl, hI.out.next (Step.lay hI.out.le _) KT.out rfl rfl HH.out⟩, by simp [intOf]; omega⟩
              · have hNk' : ((M : Int) != (k : Int)) = true := by simpa using hNk
                have hgw : g' = was := (L3.out hNk).trans HW.out
                have HNk := Lib.hid hNk
                clear hNk
                subst hgw
                go_wp2_with (first | (go_at_call 20; (with_reducible refine (high_k hk16 KT.out HH.out).mono ?_); rintro e w' ⟨rfl, rfl⟩) | (go_at_call 19; (with_reducible refine (get_k hk16 KT.out HG.out).mono ?_); rintro e w' ⟨rfl, rfl⟩))
                all_goals exact ⟨⟨m + 1, h', _, { s with c := lay s.c M Y }, by omega, by go_num, rfl, rfl, hI.out.next (Step.lay hI.out.le _) KT.out rfl rfl HH.out⟩, by simp [intOf]; omega⟩
            · go_wp2_with fail
              refine (change_miss b M s hM X Y hX wb KA.out.1).mono ?_
              rintro e w2 ⟨rfl, rfl⟩
              have KT := KA
              clear e0 e2 e3
              obtain ⟨h', g', hh, hg, l1, l2, l3⟩ := tail_facts (s' := s) hI.out (Step.same (N := (M : Int)) hI.out.le)
              have HH := Lib.hid hh
              have HG := Lib.hid hg
              have L3 := Lib.hid l3
              clear hh hg l3
              by_cases hNk : (M : Int) = (k : Int)
              · have hNk' : ((M : Int) != (k : Int)) = false := by simp [hNk]
                have HNk := Lib.hid hNk
                clear hNk
                go_wp2_with (first | (go_at_call 20; (with_reducible refine (high_k hk16 KT.out HH.out).mono ?_); rintro e w' ⟨rfl, rfl⟩) | (go_at_call 19; (with_reducible refine (get_k hk16 KT.out HG.out).mono ?_); rintro e w' ⟨rfl, rfl⟩))
                all_goals exact ⟨⟨m + 1, h', _, s, by omega, by go_num, rfl, rfl, hI.out.next (Step.same (N := (M : Int)) hI.out.le) KT.out rfl rfl HH.out⟩, by simp [intOf]; omega⟩
              · have hNk' : ((M : Int) != (k : Int)) = true := by simpa using hNk
                have hgw : g' = was := (L3.out hNk).trans HW.out
                have HNk := Lib.hid hNk
                clear hNk
                subst hgw
                go_wp2_with (first | (go_at_call 20; (with_reducible refine (high_k hk16 KT.out HH.out).mono ?_); rintro e w' ⟨rfl, rfl⟩) | (go_at_call 19; (with_reducible refine (get_k hk16 KT.out HG.out).mono ?_); rintro e w' ⟨rfl, rfl⟩))
                all_goals exact ⟨⟨m + 1, h', _, s, by omega, by go_num, rfl, rfl, hI.out.next (Step.same (N := (M : Int)) hI.out.le) KT.out rfl rfl HH.out⟩, by simp [intOf]; omega⟩
          · go_wp2_with fail
            refine (change_out b N X Y hN wb).mono ?_
            rintro e w2 ⟨rfl, rfl⟩
            have KT := KA
            clear e0 e2 e3
            obtain ⟨h', g', hh, hg, l1, l2, l3⟩ := tail_facts (s' := s) hI.out (Step.same (N := N) hI.out.le)
            have HH := Lib.hid hh
            have HG := Lib.hid hg
            have L3 := Lib.hid l3
            clear hh hg l3
            by_cases hNk : N = (k : Int)
            · have hNk' : (N != (k : Int)) = false := by simp [hNk]
              have HNk := Lib.hid hNk
              clear hNk
              go_wp2_with (first | (go_at_call 20; (with_reducible refine (high_k hk16 KT.out HH.out).mono ?_); rintro e w' ⟨rfl, rfl⟩) | (go_at_call 19; (with_reducible refine (get_k hk16 KT.out HG.out).mono ?_); rintro e w' ⟨rfl, rfl⟩))
              all_goals exact ⟨⟨m + 1, h', _, s, by omega, by go_num, rfl, rfl, hI.out.next (Step.same (N := N) hI.out.le) KT.out rfl rfl HH.out⟩, by simp [intOf]; omega⟩
            · have hNk' : (N != (k : Int)) = true := by simpa using hNk
              have hgw : g' = was := (L3.out hNk).trans HW.out
              have HNk := Lib.hid hNk
              clear hNk
              subst hgw
              go_wp2_with (first | (go_at_call 20; (with_reducible refine (high_k hk16 KT.out HH.out).mono ?_); rintro e w' ⟨rfl, rfl⟩) | (go_at_call 19; (with_reducible refine (get_k hk16 KT.out HG.out).mono ?_); rintro e w' ⟨rfl, rfl⟩))
              all_goals exact ⟨⟨m + 1, h', _, s, by omega, by go_num, rfl, rfl, hI.out.next (Step.same (N := N) hI.out.le) KT.out rfl rfl HH.out⟩, by simp [intOf]; omega⟩
        · rcases hN with hN | hN
          · obtain ⟨M, rfl⟩ : ∃ M : Nat, N = M := ⟨N.toNat, by omega⟩
            have hM : M < 16 := by omega
            go_wp2_with fail
            refine (take_in b M s hM wb KA.out.1).mono ?_
            rintro e w2 ⟨rfl, hT⟩
            have KT := Lib.hid (KA.out.step hT)
            have BX2 := BX.out.ch hT.2 hne
            have d1 : w2.cell? ⟨g, 1, none⟩ = some (.int .i64 (M : Int)) := by rw [BX2.cell]; rfl
            clear e0 e1 e2 e3 hT BX2
            obtain ⟨h', g', hh, hg, l1, l2, l3⟩ := tail_facts (s' := { s with c := put s.c (M * 2) 0 }) hI.out (Step.take hI.out.le hI.out.pos)
            have HH := Lib.hid hh
            have HG := Lib.hid hg
            have L3 := Lib.hid l3
            clear hh hg l3
            by_cases hNk : (M : Int) = (k : Int)
            · have hNk' : ((M : Int) != (k : Int)) = false := by simp [hNk]
              have HNk := Lib.hid hNk
              clear hNk
              go_wp2_with (first | (go_at_call 20; (with_reducible refine (high_k hk16 KT.out HH.out).mono ?_); rintro e w' ⟨rfl, rfl⟩) | (go_at_call 19; (with_reducible refine (get_k hk16 KT.out HG.out).mono ?_); rintro e w' ⟨rfl, rfl⟩))
              all_goals exact ⟨⟨m + 1, h', _, { s with c := put s.c (M * 2) 0 }, by omega, by go_num, rfl, rfl, hI.out.next (Step.take hI.out.le hI.out.pos) KT.out rfl rfl HH.out⟩, by simp [intOf]; omega⟩
            · have hNk' : ((M : Int) != (k : Int)) = true := by simpa using hNk
              have hgw : g' = was := (L3.out hNk).trans HW.out
              have HNk := Lib.hid hNk
              clear hNk
              subst hgw
              go_wp2_with (first | (go_at_call 20; (with_reducible refine (high_k hk16 KT.out HH.out).mono ?_); rintro e w' ⟨rfl, rfl⟩) | (go_at_call 19; (with_reducible refine (get_k hk16 KT.out HG.out).mono ?_); rintro e w' ⟨rfl, rfl⟩))
              all_goals exact ⟨⟨m + 1, h', _, { s with c := put s.c (M * 2) 0 }, by omega, by go_num, rfl, rfl, hI.out.next (Step.take hI.out.le hI.out.pos) KT.out rfl rfl HH.out⟩, by simp [intOf]; omega⟩
          · go_wp2_with fail
            refine (take_out b N hN wb).mono ?_
            rintro e w2 ⟨rfl, rfl⟩
            have KT := KA
            clear e0 e2 e3
            obtain ⟨h', g', hh, hg, l1, l2, l3⟩ := tail_facts (s' := s) hI.out (Step.same (N := N) hI.out.le)
            have HH := Lib.hid hh
            have HG := Lib.hid hg
            have L3 := Lib.hid l3
            clear hh hg l3
            by_cases hNk : N = (k : Int)
            · have hNk' : (N != (k : Int)) = false := by simp [hNk]
              have HNk := Lib.hid hNk
              clear hNk
              go_wp2_with (first | (go_at_call 20; (with_reducible refine (high_k hk16 KT.out HH.out).mono ?_); rintro e w' ⟨rfl, rfl⟩) | (go_at_call 19; (with_reducible refine (get_k hk16 KT.out HG.out).mono ?_); rintro e w' ⟨rfl, rfl⟩))
              all_goals exact ⟨⟨m + 1, h', _, s, by omega, by go_num, rfl, rfl, hI.out.next (Step.same (N := N) hI.out.le) KT.out rfl rfl HH.out⟩, by simp [intOf]; omega⟩
            · have hNk' : (N != (k : Int)) = true := by simpa using hNk
              have hgw : g' = was := (L3.out hNk).trans HW.out
              have HNk := Lib.hid hNk
              clear hNk
              subst hgw
              go_wp2_with (first | (go_at_call 20; (with_reducible refine (high_k hk16 KT.out HH.out).mono ?_); rintro e w' ⟨rfl, rfl⟩) | (go_at_call 19; (with_reducible refine (get_k hk16 KT.out HG.out).mono ?_); rintro e w' ⟨rfl, rfl⟩))
              all_goals exact ⟨⟨m + 1, h', _, s, by omega, by go_num, rfl, rfl, hI.out.next (Step.same (N := N) hI.out.le) KT.out rfl rfl HH.out⟩, by simp [intOf]; omega⟩
        · clear hN
          have KT := KA
          obtain ⟨h', g', hh, hg, l1, l2, l3⟩ := tail_facts (s' := s) hI.out (Step.same (N := N) hI.out.le)
          have HH := Lib.hid hh
          have HG := Lib.hid hg
          have L3 := Lib.hid l3
          clear hh hg l3
          by_cases hNk : N = (k : Int)
          · have hNk' : (N != (k : Int)) = false := by simp [hNk]
            have HNk := Lib.hid hNk
            clear hNk
            go_wp2_with (first | (go_at_call 20; (with_reducible refine (high_k hk16 KT.out HH.out).mono ?_); rintro e w' ⟨rfl, rfl⟩) | (go_at_call 19; (with_reducible refine (get_k hk16 KT.out HG.out).mono ?_); rintro e w' ⟨rfl, rfl⟩))
            all_goals exact ⟨⟨m + 1, h', _, s, by omega, by go_num, rfl, rfl, hI.out.next (Step.same (N := N) hI.out.le) KT.out rfl rfl HH.out⟩, by simp [intOf]; omega⟩
          · have hNk' : (N != (k : Int)) = true := by simpa using hNk
            have hgw : g' = was := (L3.out hNk).trans HW.out
            have HNk := Lib.hid hNk
            clear hNk
            subst hgw
            go_wp2_with (first | (go_at_call 20; (with_reducible refine (high_k hk16 KT.out HH.out).mono ?_); rintro e w' ⟨rfl, rfl⟩) | (go_at_call 19; (with_reducible refine (get_k hk16 KT.out HG.out).mono ?_); rintro e w' ⟨rfl, rfl⟩))
            all_goals exact ⟨⟨m + 1, h', _, s, by omega, by go_num, rfl, rfl, hI.out.next (Step.same (N := N) hI.out.le) KT.out rfl rfl HH.out⟩, by simp [intOf]; omega⟩
        · clear hN
          have KT := KA
          obtain ⟨h', g', hh, hg, l1, l2, l3⟩ := tail_facts (s' := s) hI.out (Step.same (N := N) hI.out.le)
          have HH := Lib.hid hh
          have HG := Lib.hid hg
          have L3 := Lib.hid l3
          clear hh hg l3
          by_cases hNk : N = (k : Int)
          · have hNk' : (N != (k : Int)) = false := by simp [hNk]
            have HNk := Lib.hid hNk
            clear hNk
            go_wp2_with (first | (go_at_call 20; (with_reducible refine (high_k hk16 KT.out HH.out).mono ?_); rintro e w' ⟨rfl, rfl⟩) | (go_at_call 19; (with_reducible refine (get_k hk16 KT.out HG.out).mono ?_); rintro e w' ⟨rfl, rfl⟩))
            all_goals exact ⟨⟨m + 1, h', _, s, by omega, by go_num, rfl, rfl, hI.out.next (Step.same (N := N) hI.out.le) KT.out rfl rfl HH.out⟩, by simp [intOf]; omega⟩
          · have hNk' : (N != (k : Int)) = true := by simpa using hNk
            have hgw : g' = was := (L3.out hNk).trans HW.out
            have HNk := Lib.hid hNk
            clear hNk
            subst hgw
            go_wp2_with (first | (go_at_call 20; (with_reducible refine (high_k hk16 KT.out HH.out).mono ?_); rintro e w' ⟨rfl, rfl⟩) | (go_at_call 19; (with_reducible refine (get_k hk16 KT.out HG.out).mono ?_); rintro e w' ⟨rfl, rfl⟩))
            all_goals exact ⟨⟨m + 1, h', _, s, by omega, by go_num, rfl, rfl, hI.out.next (Step.same (N := N) hI.out.le) KT.out rfl rfl HH.out⟩, by simp [intOf]; omega⟩
        · clear hN
          have tr0 := hI.out.tried0
          have tr1 : s.tried ≤ 1000 := by have := hI.out.tried1; omega
          rcases hI.out.one with hg0 | hg0
          · have hoo : opened = 0 := by rw [hI.out.gate, hg0]
            subst hoo
            go_wp2_with fail
            refine (open_yes b s hg0 tr0 tr1 wb KA.out.1).mono ?_
            rintro e w2 ⟨rfl, hT⟩
            have KT := Lib.hid (KA.out.step hT)
            have BX2 := BX.out.ch hT.2 hne
            have d1 : w2.cell? ⟨g, 1, none⟩ = some (.int .i64 N) := by rw [BX2.cell]; rfl
            clear e0 e1 e2 e3 hT BX2
            obtain ⟨h', g', hh, hg, l1, l2, l3⟩ := tail_facts (s' := { s with tried := s.tried + 1, gate := 1 }) hI.out (Step.same (N := N) hI.out.le)
            have HH := Lib.hid hh
            have HG := Lib.hid hg
            have L3 := Lib.hid l3
            clear hh hg l3
            by_cases hNk : N = (k : Int)
            · have hNk' : (N != (k : Int)) = false := by simp [hNk]
              have HNk := Lib.hid hNk
              clear hNk
              go_wp2_with (first | (go_at_call 20; (with_reducible refine (high_k hk16 KT.out HH.out).mono ?_); rintro e w' ⟨rfl, rfl⟩) | (go_at_call 19; (with_reducible refine (get_k hk16 KT.out HG.out).mono ?_); rintro e w' ⟨rfl, rfl⟩))
              all_goals exact ⟨⟨m + 1, h', _, { s with tried := s.tried + 1, gate := 1 }, by omega, by go_num, rfl, rfl, hI.out.opened KT.out HH.out⟩, by simp [intOf]; omega⟩
            · have hNk' : (N != (k : Int)) = true := by simpa using hNk
              have hgw : g' = was := (L3.out hNk).trans HW.out
              have HNk := Lib.hid hNk
              clear hNk
              subst hgw
              go_wp2_with (first | (go_at_call 20; (with_reducible refine (high_k hk16 KT.out HH.out).mono ?_); rintro e w' ⟨rfl, rfl⟩) | (go_at_call 19; (with_reducible refine (get_k hk16 KT.out HG.out).mono ?_); rintro e w' ⟨rfl, rfl⟩))
              all_goals exact ⟨⟨m + 1, h', _, { s with tried := s.tried + 1, gate := 1 }, by omega, by go_num, rfl, rfl, hI.out.opened KT.out HH.out⟩, by simp [intOf]; omega⟩
          · have hoo : opened = 1 := by rw [hI.out.gate, hg0]
            subst hoo
            go_wp2_with fail
            refine (open_no b s hg0 tr0 tr1 wb KA.out.1).mono ?_
            rintro e w2 ⟨rfl, hT⟩
            have KT := Lib.hid (KA.out.step hT)
            have BX2 := BX.out.ch hT.2 hne
            have d1 : w2.cell? ⟨g, 1, none⟩ = some (.int .i64 N) := by rw [BX2.cell]; rfl
            clear e0 e1 e2 e3 hT BX2
            obtain ⟨h', g', hh, hg, l1, l2, l3⟩ := tail_facts (s' := { s with tried := s.tried + 1, gate := 1 }) hI.out (Step.same (N := N) hI.out.le)
            have HH := Lib.hid hh
            have HG := Lib.hid hg
            have L3 := Lib.hid l3
            clear hh hg l3
            by_cases hNk : N = (k : Int)
            · have hNk' : (N != (k : Int)) = false := by simp [hNk]
              have HNk := Lib.hid hNk
              clear hNk
              go_wp2_with (first | (go_at_call 20; (with_reducible refine (high_k hk16 KT.out HH.out).mono ?_); rintro e w' ⟨rfl, rfl⟩) | (go_at_call 19; (with_reducible refine (get_k hk16 KT.out HG.out).mono ?_); rintro e w' ⟨rfl, rfl⟩))
              all_goals exact ⟨⟨m + 1, h', _, { s with tried := s.tried + 1, gate := 1 }, by omega, by go_num, rfl, rfl, hI.out.opened KT.out HH.out⟩, by simp [intOf]; omega⟩
            · have hNk' : (N != (k : Int)) = true := by simpa using hNk
              have hgw : g' = was := (L3.out hNk).trans HW.out
              have HNk := Lib.hid hNk
              clear hNk
              subst hgw
              go_wp2_with (first | (go_at_call 20; (with_reducible refine (high_k hk16 KT.out HH.out).mono ?_); rintro e w' ⟨rfl, rfl⟩) | (go_at_call 19; (with_reducible refine (get_k hk16 KT.out HG.out).mono ?_); rintro e w' ⟨rfl, rfl⟩))
              all_goals exact ⟨⟨m + 1, h', _, { s with tried := s.tried + 1, gate := 1 }, by omega, by go_num, rfl, rfl, hI.out.opened KT.out HH.out⟩, by simp [intOf]; omega⟩
      · obtain rfl : m = n := by omega
        have hop : opened = 0 ∧ (s.gate != 0) = false ∨ opened = 1 ∧ (s.gate != 0) = true := by
          rcases hI.out.one with h | h
          · exact .inl ⟨hI.out.gate.trans h, by rw [h]; rfl⟩
          · exact .inr ⟨hI.out.gate.trans h, by rw [h]; rfl⟩
        rcases hop with ⟨ho, hgt⟩ | ⟨ho, hgt⟩
        all_goals
          subst ho
          have hgt := Lib.hid hgt
          have hopd := Lib.hid (opened_any b s wr hI.out.kept.1)
          rw [hgt.out] at hopd
          generalize s.tried = T at *
          clear hlt hm hgt
          go_wp2_with (go_at_call 16; (with_reducible refine (hopd.out).mono ?_); rintro e w3 ⟨rfl, hT⟩; have HT := Lib.hid hT; clear hT)
          go_ret
          exact ⟨rfl, (hI.out.kept.step HT.out).2.1⟩
end Go.Proofs.YtdbbnkibdibpkaaDoor
