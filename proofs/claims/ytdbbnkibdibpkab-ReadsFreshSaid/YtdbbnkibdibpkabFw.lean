/- ReadsFresh: the law's walk. -/
import Derived.Test.YtdbbnkibdibpkabFi
import Derived.Test.YtdbbnkibdibpkabEn
import Derived.Deep.DeepCutAuto
namespace Go.Proofs.Ytdbbnkibdibpkab
open Go.RowKit Go.ChangeShapes Go.WideShapes
set_option linter.unusedVariables false

def Made (kn : Nat) : Prop := ∀ w : World, (Instr.makeSlice 38 (.int .i64 kn) (.int .i64 kn)).run Try.prog w = .ok (.slice (some ⟨w.heap.size, 0, none⟩) kn kn) (w.alloc (.cells (ackc kn (fun _ => 0)) 3))
theorem make1 (w : World) : (Instr.makeSlice 38 (.int .i64 ((1 : Nat) : Int)) (.int .i64 ((1 : Nat) : Int))).run Try.prog w = .ok (.slice (some ⟨w.heap.size, 0, none⟩) 1 1) (w.alloc (.cells (ackc 1 (fun _ => 0)) 3)) := by kernel_rfl
theorem make2 (w : World) : (Instr.makeSlice 38 (.int .i64 ((2 : Nat) : Int)) (.int .i64 ((2 : Nat) : Int))).run Try.prog w = .ok (.slice (some ⟨w.heap.size, 0, none⟩) 2 2) (w.alloc (.cells (ackc 2 (fun _ => 0)) 3)) := by kernel_rfl
theorem make3 (w : World) : (Instr.makeSlice 38 (.int .i64 ((3 : Nat) : Int)) (.int .i64 ((3 : Nat) : Int))).run Try.prog w = .ok (.slice (some ⟨w.heap.size, 0, none⟩) 3 3) (w.alloc (.cells (ackc 3 (fun _ => 0)) 3)) := by kernel_rfl
theorem make4 (w : World) : (Instr.makeSlice 38 (.int .i64 ((4 : Nat) : Int)) (.int .i64 ((4 : Nat) : Int))).run Try.prog w = .ok (.slice (some ⟨w.heap.size, 0, none⟩) 4 4) (w.alloc (.cells (ackc 4 (fun _ => 0)) 3)) := by kernel_rfl
theorem make5 (w : World) : (Instr.makeSlice 38 (.int .i64 ((5 : Nat) : Int)) (.int .i64 ((5 : Nat) : Int))).run Try.prog w = .ok (.slice (some ⟨w.heap.size, 0, none⟩) 5 5) (w.alloc (.cells (ackc 5 (fun _ => 0)) 3)) := by kernel_rfl
theorem make6 (w : World) : (Instr.makeSlice 38 (.int .i64 ((6 : Nat) : Int)) (.int .i64 ((6 : Nat) : Int))).run Try.prog w = .ok (.slice (some ⟨w.heap.size, 0, none⟩) 6 6) (w.alloc (.cells (ackc 6 (fun _ => 0)) 3)) := by kernel_rfl
theorem make7 (w : World) : (Instr.makeSlice 38 (.int .i64 ((7 : Nat) : Int)) (.int .i64 ((7 : Nat) : Int))).run Try.prog w = .ok (.slice (some ⟨w.heap.size, 0, none⟩) 7 7) (w.alloc (.cells (ackc 7 (fun _ => 0)) 3)) := by kernel_rfl
theorem make_run (kn : Nat) (h1 : 1 ≤ kn) (h7 : kn ≤ 7) : Made kn := by
  have : kn = 1 ∨ kn = 2 ∨ kn = 3 ∨ kn = 4 ∨ kn = 5 ∨ kn = 6 ∨ kn = 7 := by omega
  rcases this with h | h | h | h | h | h | h
  · rw [h]; exact make1
  · rw [h]; exact make2
  · rw [h]; exact make3
  · rw [h]; exact make4
  · rw [h]; exact make5
  · rw [h]; exact make6
  · rw [h]; exact make7
def laterTo (s : RS) (r : Int) (p : Nat) : Nat := ((List.range p).map s.ans).countP fun x => decide (r < x)
theorem laterTo_le (s : RS) (r : Int) (p : Nat) : laterTo s r p ≤ p := by
  unfold laterTo
  refine Nat.le_trans List.countP_le_length (by simp)
theorem laterTo_succ (s : RS) (r : Int) (p : Nat) : laterTo s r (p + 1) = laterTo s r p + (if r < s.ans p then 1 else 0) := by
  unfold laterTo
  rw [List.range_succ, List.map_append, List.countP_append]
  simp [List.countP_cons]
theorem flatW_drop1 (W : List Rdg) (j : Nat) : (flatW (W.drop j)).drop 3 = flatW (W.drop (j + 1)) := by
  rw [← List.drop_drop]
  rcases W.drop j with _ | ⟨x, r⟩
  · rfl
  · rfl
theorem FI.alloc {w wr : World} {b me kn m ag : Nat} {rv v : Value} {s : RS} {W : List Rdg} (h : FI w b me kn m rv ag s W v wr) (o : Obj) : FI w b me kn m rv ag s W v (wr.alloc o) :=
  ⟨(h.kr.new_ ((Ch.refl _ _).alloc o)).1, h.fine, h.self, h.n, h.row.ch ((Ch.refl (fun _ => False) _).alloc o) (fun _ _ h => h), h.acks.alloc o, h.agB, h.r1⟩
theorem commit_ok {s : RS} {x : Int} (h : commitE s x = 0) : commitS s x = { s with commit := x } := by
  unfold commitE at h; unfold commitS
  split at h
  · omega
  split at h
  · omega
  · rename_i h1 h2; rw [if_neg h1, if_neg h2]
theorem commit_no {s : RS} {x : Int} (h : ¬ commitE s x = 0) : commitS s x = s := by
  unfold commitE at h; unfold commitS
  split at h
  · rename_i h1; rw [if_pos h1]
  split at h
  · rename_i h1 h2; rw [if_neg h1, if_pos h2]
  · omega
theorem apply_ok {s : RS} {x : Int} (h : applyE s x = 0) : applyS s x = { s with applied := x } := by
  unfold applyE at h; unfold applyS
  split at h
  · omega
  split at h
  · omega
  · rename_i h1 h2; rw [if_neg h1, if_neg h2]
theorem apply_no {s : RS} {x : Int} (h : ¬ applyE s x = 0) : applyS s x = s := by
  unfold applyE at h; unfold applyS
  split at h
  · rename_i h1; rw [if_pos h1]
  split at h
  · rename_i h1 h2; rw [if_neg h1, if_pos h2]
  · omega
theorem news_new (w : World) (t : TypeId) (cs : Array Value) : ∀ j u, cs.toList[j]? = some u → (w.alloc (.cells cs t)).cell? ((⟨w.heap.size, 0, none⟩ : Addr).add j) = some u := by
  intro j u hu
  rw [add_mk, Nat.zero_add, (Blk.new w t cs).cell]
  simpa using hu
theorem lay_ack2 {w w2 : World} {b kn ag : Nat} {rv v : Value} {s : RS} {W : List Rdg} {f : Nat → Int} (h : Blk w2 ag 3 (ackc kn f)) (hk : Kr w b s W v w2) (hrow : rowAt w2 w.heap.size 45 3 rv W.length (flatW W)) (hB : w.heap.size ≤ ag) {i : Nat} (hi : i < kn) (x : Int) :
    Blk (w2.setCell ⟨ag, i, none⟩ (.int .i64 x)).drew ag 3 (ackc kn (upd f i x)) ∧ Kr w b s W v (w2.setCell ⟨ag, i, none⟩ (.int .i64 x)).drew ∧ rowAt (w2.setCell ⟨ag, i, none⟩ (.int .i64 x)).drew w.heap.size 45 3 rv W.length (flatW W) := by
  have hc : Ch (fun k => k = ag) w2 (w2.setCell ⟨ag, i, none⟩ (.int .i64 x)).drew := ((Ch.refl (fun k => k = ag) w2).setCell (p := ⟨ag, i, none⟩) (.inl rfl) _).drew
  refine ⟨?_, hk.far hc (Blk.ne_ hk.rd.blk h (by decide)) (fun k hv e => by subst e; exact own_blk_ne hk.rd.own h (by decide) hv) (fun k e => by subst e; exact hB), hrow.ch hc fun k hv e => by subst e; exact hrow.blk_ne h (by decide) hv⟩
  have := (h.set_ i (.int .i64 x)).drew
  rwa [ackc_set kn f hi] at this
theorem ack_is {s : RS} {x y : Int} (h : ackE s x y = 0) : 0 ≤ x ∧ x < s.n ∧ x ≠ s.self ∧ 1 ≤ y ∧ y ≤ s.rounds := by
  unfold ackE at h
  split at h
  · omega
  split at h
  · omega
  · omega
theorem asked_info : (Try.prog.info? 45).map (fun i => (i.zero, i.size, i.bytes)) = some (some (.agg #[.int .i64 0, .int .i64 0, .int .i64 0]), 3, 24) := by kernel_rfl

set_option maxRecDepth 100000 in
set_option maxHeartbeats 8000000 in
theorem fresh_walk (a c : Int) (A : Option Addr) (n cc : Nat) (w : World) (ha0 : 0 ≤ a) (ha1 : a ≤ 255) (hc0 : 0 ≤ c) (hc1 : c ≤ 255) (hA : Acts w A n) :
    Calls Try.prog 4 #[.int .u8 a, .int .u8 c, .slice A n cc] w fun e w' => e = .returned (.bool true) ∧ Below w.heap.size w w' := by
  have hfx := Lib.hid (fixed_any w)
  obtain ⟨i1, hi1, hy0, hy1, hy2⟩ := info_parts asked_info
  have hmax : (n : Int) ≤ 9223372036854775807 := by have := hA.1; unfold maxLen at this; omega
  have hAA := Lib.hid hA
  clear hA
  by_cases hn : 100 < n
  · go_enter Try.func4, Try.ntmps4
    go_wp2_with (go_at_call 6; (with_reducible refine (hfx.out).mono ?_); rintro e w1 ⟨rfl, hb⟩; have hB := Lib.hid hb; clear hb)
    go_ret
    exact ⟨rfl, hB.out⟩
  · have hn' : n ≤ 100 := by omega
    clear hn
    obtain ⟨kn, hkn⟩ : ∃ kn : Nat, 1 + c % 7 = kn := ⟨(1 + c % 7).toNat, by omega⟩
    have hk1 : 1 ≤ kn := by omega
    have hk7 : kn ≤ 7 := by omega
    obtain ⟨me, hme⟩ : ∃ me : Nat, a % (kn : Int) = me := ⟨(a % (kn : Int)).toNat, by have := Int.emod_nonneg a (show (kn : Int) ≠ 0 by omega); omega⟩
    have hmk : me < kn := by have := Int.emod_lt_of_pos a (show 0 < (kn : Int) by omega); omega
    have HKN := Lib.hid hkn
    have HME := Lib.hid hme
    clear hkn hme
    have hmake := fun w => make_run kn hk1 hk7 w
    go_enter Try.func4, Try.ntmps4
    go_wp2_with (go_at_call 6; (with_reducible refine (hfx.out).mono ?_); rintro e w1 ⟨rfl, hb⟩; have hB := Lib.hid hb; clear hb)
    rw [HKN.out, HME.out]
    refine (k_new w1 hB.out me kn hk1 hk7 hmk).mono ?_
    rintro e w2 ⟨rfl, hk, hnw⟩
    dsimp only
    have hag := hB.out.size
    have hf0 : FI w w1.heap.size me kn 0 (.slice none 0 0) w2.heap.size (fresh me kn) [] (.slice none 0 0) (w2.alloc (.cells (ackc kn (fun _ => 0)) 3)) :=
      ⟨(hk.new_ ((Ch.refl _ _).alloc _)).1, fine_fresh me kn _ (fun _ => rfl), rfl, rfl, rowAt.nil _ _ _ _, Blk.new _ _ _, by have := hnw.size; omega, Int.le_refl 0⟩
    have HF0 := Lib.hid hf0
    clear hk hnw hf0 HKN HME
    go_wp2_with fail
    generalize w2.alloc (.cells (ackc kn (fun _ => 0)) 3) = wa at *
    generalize w2.heap.size = ag at *
    generalize w1.heap.size = b at *
    go_loopw [10, 12, 13, 14, 42] (fun rv rd cm ap i w' => ∃ (m : Nat) (s : RS) (W : List Rdg) (v : Value), m ≤ n ∧ i = .int .i64 m ∧ rd = .int .i64 s.rounds ∧ cm = .int .i64 s.commit ∧ ap = .int .i64 s.applied ∧ FI w b me kn m rv ag s W v w') (fun _ _ _ _ i _ => n - (intOf i).toNat)
    case atStart => exact ⟨0, _, _, _, by omega, rfl, rfl, rfl, rfl, HF0.out⟩
    case round =>
      clear HF0 hB hfx hmake
      obtain ⟨m, s, W, v, hm, rfl, rfl, rfl, rfl, hI⟩ := hrel
      have HI := Lib.hid hI
      clear hI
      have hapc := HI.out.fine.app
      by_cases hlt : m < n
      · obtain ⟨b0, off, rfl, hb0', hc⟩ := hAA.out.2 (by omega)
        obtain ⟨K, X, Y, hK0, hK1, wX, wY, hact⟩ := hc m hlt
        have hact := hact.below HI.out.kr.below hb0'
        obtain ⟨c0, c1, c2⟩ := hact
        clear hc hAA wX wY
        obtain ⟨A1, q1, rfl⟩ := HI.out.row.form_
        have BX := Lib.hid (Blk.new wr 32 #[.int .u8 K, .int .i64 X, .int .i64 Y])
        have HA := Lib.hid (HI.out.alloc (.cells #[.int .u8 K, .int .i64 X, .int .i64 Y] 32))
        go_upto_region 14 with (fail)
        clear c0 c1 c2 HI
        generalize wr.alloc (.cells #[.int .u8 K, .int .i64 X, .int .i64 Y] 32) = wb at *
        generalize wr.heap.size = g at *
        have e0 : wb.cell? ⟨g, 0, none⟩ = some (.int .u8 K) := by rw [BX.out.cell]; rfl
        have e1 : wb.cell? ⟨g, 1, none⟩ = some (.int .i64 X) := by rw [BX.out.cell]; rfl
        have e2 : wb.cell? ⟨g, 2, none⟩ = some (.int .i64 Y) := by rw [BX.out.cell]; rfl
        have hq : K % 9 = 0 ∨ K % 9 = 1 ∨ K % 9 = 2 ∨ K % 9 = 3 ∨ K % 9 = 4 ∨ K % 9 = 5 ∨ K % 9 = 6 ∨ K % 9 = 7 ∨ K % 9 = 8 := by omega
        rcases hq with hq | hq | hq | hq | hq | hq | hq | hq | hq
        · as_aux_lemma =>
            by_cases hE : commitE s X = 0
            · have hC := k_commit HA.out.kr X
              rw [hE, commit_ok hE] at hC
              have hfi := fine_commit HA.out.fine X
              rw [commit_ok hE] at hfi
              have HC := Lib.hid hC
              have HFI := Lib.hid hfi
              have hap2 := hfi.app
              simp only at hap2
              clear hC hE hfi hapc
              go_wp2_with fail
              refine HC.out.mono ?_
              rintro e w2 ⟨rfl, hK, hKp⟩
              dsimp only
              have f1 : w2.cell? ⟨g, 1, none⟩ = some (.int .i64 X) := by rw [(hKp _ _ _ (by decide) (by decide) BX.out).cell]; rfl
              have HK := Lib.hid hK
              have HP := Lib.hid hKp
              clear hK hKp HC
              go_wp2_with fail
              exact ⟨⟨m + 1, { s with commit := X }, _, _, by omega, by go_num, rfl, rfl, rfl, HA.out.step HK.out HP.out HFI.out rfl rfl (fun _ _ => rfl) (by have := HA.out.r1; show s.rounds ≤ _; omega) rfl⟩, by simp [intOf]; omega⟩
            · have hC := k_commit HA.out.kr X
              rw [commit_no hE] at hC
              have HC := Lib.hid hC
              have hd : (commitE s X == 0) = false := by simpa using hE
              clear hC hE
              generalize commitE s X = EE at *
              go_wp2_with fail
              refine HC.out.mono ?_
              rintro e w2 ⟨rfl, hK, hKp⟩
              dsimp only
              have HK := Lib.hid hK
              have HP := Lib.hid hKp
              clear hK hKp HC
              go_wp2_with fail
              exact ⟨⟨m + 1, s, _, _, by omega, by go_num, rfl, rfl, rfl, HA.out.step HK.out HP.out HA.out.fine rfl rfl (fun _ _ => rfl) (by have := HA.out.r1; omega) rfl⟩, by simp [intOf]; omega⟩
        · as_aux_lemma =>
            by_cases hE : applyE s X = 0
            · have hC := k_apply HA.out.kr X
              rw [hE, apply_ok hE] at hC
              have hfi := fine_apply HA.out.fine X
              rw [apply_ok hE] at hfi
              have HC := Lib.hid hC
              have HFI := Lib.hid hfi
              have hap2 := hfi.app
              simp only at hap2
              clear hC hE hfi hapc
              go_wp2_with fail
              refine HC.out.mono ?_
              rintro e w2 ⟨rfl, hK, hKp⟩
              dsimp only
              have f1 : w2.cell? ⟨g, 1, none⟩ = some (.int .i64 X) := by rw [(hKp _ _ _ (by decide) (by decide) BX.out).cell]; rfl
              have HK := Lib.hid hK
              have HP := Lib.hid hKp
              clear hK hKp HC
              go_wp2_with fail
              exact ⟨⟨m + 1, { s with applied := X }, _, _, by omega, by go_num, rfl, rfl, rfl, HA.out.step HK.out HP.out HFI.out rfl rfl (fun _ _ => rfl) (by have := HA.out.r1; show s.rounds ≤ _; omega) rfl⟩, by simp [intOf]; omega⟩
            · have hC := k_apply HA.out.kr X
              rw [apply_no hE] at hC
              have HC := Lib.hid hC
              have hd : (applyE s X == 0) = false := by simpa using hE
              clear hC hE
              generalize applyE s X = EE at *
              go_wp2_with fail
              refine HC.out.mono ?_
              rintro e w2 ⟨rfl, hK, hKp⟩
              dsimp only
              have HK := Lib.hid hK
              have HP := Lib.hid hKp
              clear hK hKp HC
              go_wp2_with fail
              exact ⟨⟨m + 1, s, _, _, by omega, by go_num, rfl, rfl, rfl, HA.out.step HK.out HP.out HA.out.fine rfl rfl (fun _ _ => rfl) (by have := HA.out.r1; omega) rfl⟩, by simp [intOf]; omega⟩
        · as_aux_lemma =>
            have h64 := HA.out.kr.rd.len
            by_cases hE : askE W X = 0
            · have hC := k_ask HA.out.kr X
              rw [hE, show askW s W X = W ++ [(X, s.rounds, s.commit)] from by unfold askW; rw [if_pos hE]] at hC
              have HC := Lib.hid hC
              have hsz := HA.out.kr.size
              clear hC hE
              go_wp2_with fail
              refine HC.out.mono ?_
              rintro e w2 ⟨rfl, v2, hK, hKp⟩
              dsimp only
              have f1 : w2.cell? ⟨g, 1, none⟩ = some (.int .i64 X) := by rw [(hKp _ _ _ (by decide) (by decide) BX.out).cell]; rfl
              have HK := Lib.hid hK
              have HP := Lib.hid hKp
              have hrow2 : rowAt w2 w.heap.size 45 3 (.slice A1 W.length q1) W.length (flatW W) := HA.out.row.keep fun g cs _ hb => hKp g 45 cs (by decide) (by decide) hb
              have HR2 := Lib.hid hrow2
              have HA2 := Lib.hid (hKp ag 3 _ (by decide) (by decide) HA.out.acks)
              have hs2 := hK.size
              clear hK hKp HC hrow2
              go_wp2_with (first
                | (at_builtin
                   refine wpList_append_off _ rfl (.tmp 75) (.tmp 81) _ rfl w.heap.size 45 i1 _ 3 24 Try.underlying43 hi1 hy0 hy1 hy2 rfl (by omega) (.slice A1 W.length q1) W.length (flatW W) rfl
                     (HR2.out.ch ((Ch.refl (fun _ => False) _).alloc _) (fun _ _ h => h)) ⟨w2.heap.size, 0, none⟩ 1 1 [.int .i64 X, .int .i64 s.rounds, .int .i64 s.commit] rfl rfl (news_new w2 45 #[.int .i64 X, .int .i64 s.rounds, .int .i64 s.commit]) (by simp [Value.oneCell']) (by simp only [maxLen]; omega) (by omega) (by simp; omega) ?_
                   intro rv2 w3 hrow3 hg3 hat3
                   have HR3 := Lib.hid hrow3; clear hrow3
                   have HG3 := Lib.hid hg3; clear hg3))
              obtain ⟨x1, x2, x3⟩ := FI.more (x := (X, s.rounds, s.commit)) HA2.out HK.out HR2.out (.cells #[.int .i64 X, .int .i64 s.rounds, .int .i64 s.commit] 45) HR3.out HG3.out
              exact ⟨⟨m + 1, s, W ++ [(X, s.rounds, s.commit)], _, by omega, by go_num, rfl, rfl, rfl, x2, fine_more HA.out.fine X, HA.out.self, HA.out.n, x3, x1, HA.out.agB, by have := HA.out.r1; omega⟩, by simp [intOf]; omega⟩
            · have hC := k_ask HA.out.kr X
              rw [show askW s W X = W from by unfold askW; rw [if_neg hE]] at hC
              have HC := Lib.hid hC
              have hd : (askE W X == 0) = false := by simpa using hE
              clear hC hE
              generalize askE W X = EE at *
              go_wp2_with fail
              refine HC.out.mono ?_
              rintro e w2 ⟨rfl, v2, hK, hKp⟩
              dsimp only
              have HK := Lib.hid hK
              have HP := Lib.hid hKp
              clear hK hKp HC
              go_wp2_with fail
              exact ⟨⟨m + 1, s, _, _, by omega, by go_num, rfl, rfl, rfl, HA.out.step HK.out HP.out HA.out.fine rfl rfl (fun _ _ => rfl) (by have := HA.out.r1; omega) rfl⟩, by simp [intOf]; omega⟩
        · as_aux_lemma =>
            have h64 := HA.out.kr.rd.len
            by_cases hE : askE W X = 0
            · have hC := k_ask HA.out.kr X
              rw [hE, show askW s W X = W ++ [(X, s.rounds, s.commit)] from by unfold askW; rw [if_pos hE]] at hC
              have HC := Lib.hid hC
              have hsz := HA.out.kr.size
              clear hC hE
              go_wp2_with fail
              refine HC.out.mono ?_
              rintro e w2 ⟨rfl, v2, hK, hKp⟩
              dsimp only
              have f1 : w2.cell? ⟨g, 1, none⟩ = some (.int .i64 X) := by rw [(hKp _ _ _ (by decide) (by decide) BX.out).cell]; rfl
              have HK := Lib.hid hK
              have HP := Lib.hid hKp
              have hrow2 : rowAt w2 w.heap.size 45 3 (.slice A1 W.length q1) W.length (flatW W) := HA.out.row.keep fun g cs _ hb => hKp g 45 cs (by decide) (by decide) hb
              have HR2 := Lib.hid hrow2
              have HA2 := Lib.hid (hKp ag 3 _ (by decide) (by decide) HA.out.acks)
              have hs2 := hK.size
              clear hK hKp HC hrow2
              go_wp2_with (first
                | (at_builtin
                   refine wpList_append_off _ rfl (.tmp 75) (.tmp 81) _ rfl w.heap.size 45 i1 _ 3 24 Try.underlying43 hi1 hy0 hy1 hy2 rfl (by omega) (.slice A1 W.length q1) W.length (flatW W) rfl
                     (HR2.out.ch ((Ch.refl (fun _ => False) _).alloc _) (fun _ _ h => h)) ⟨w2.heap.size, 0, none⟩ 1 1 [.int .i64 X, .int .i64 s.rounds, .int .i64 s.commit] rfl rfl (news_new w2 45 #[.int .i64 X, .int .i64 s.rounds, .int .i64 s.commit]) (by simp [Value.oneCell']) (by simp only [maxLen]; omega) (by omega) (by simp; omega) ?_
                   intro rv2 w3 hrow3 hg3 hat3
                   have HR3 := Lib.hid hrow3; clear hrow3
                   have HG3 := Lib.hid hg3; clear hg3))
              obtain ⟨x1, x2, x3⟩ := FI.more (x := (X, s.rounds, s.commit)) HA2.out HK.out HR2.out (.cells #[.int .i64 X, .int .i64 s.rounds, .int .i64 s.commit] 45) HR3.out HG3.out
              exact ⟨⟨m + 1, s, W ++ [(X, s.rounds, s.commit)], _, by omega, by go_num, rfl, rfl, rfl, x2, fine_more HA.out.fine X, HA.out.self, HA.out.n, x3, x1, HA.out.agB, by have := HA.out.r1; omega⟩, by simp [intOf]; omega⟩
            · have hC := k_ask HA.out.kr X
              rw [show askW s W X = W from by unfold askW; rw [if_neg hE]] at hC
              have HC := Lib.hid hC
              have hd : (askE W X == 0) = false := by simpa using hE
              clear hC hE
              generalize askE W X = EE at *
              go_wp2_with fail
              refine HC.out.mono ?_
              rintro e w2 ⟨rfl, v2, hK, hKp⟩
              dsimp only
              have HK := Lib.hid hK
              have HP := Lib.hid hKp
              clear hK hKp HC
              go_wp2_with fail
              exact ⟨⟨m + 1, s, _, _, by omega, by go_num, rfl, rfl, rfl, HA.out.step HK.out HP.out HA.out.fine rfl rfl (fun _ _ => rfl) (by have := HA.out.r1; omega) rfl⟩, by simp [intOf]; omega⟩
        · as_aux_lemma =>
            have hme2 : me < kn := hmk
            have hac := HA.out.acks
            have cme := hac.cell me
            have fme := hac.frozen me
            rw [ackc_get kn s.ans hmk] at cme
            obtain ⟨l1, l2, l3⟩ := FI.lay_ack HA.out.acks HA.out.kr HA.out.row HA.out.agB hmk (s.rounds + 1)
            have hr0 := HA.out.fine.r0
            have hr1 : s.rounds ≤ 100 := by have := HA.out.r1; omega
            have HC := Lib.hid (k_beat l2 hr0 (by omega))
            have L1 := Lib.hid l1
            have L3 := Lib.hid l3
            clear hac l1 l2 l3
            go_wp2_with fail
            refine HC.out.mono ?_
            rintro e w2 ⟨rfl, hK, hKp⟩
            dsimp only
            have HK := Lib.hid hK
            have HP := Lib.hid hKp
            have hap2 : (beatS s).applied ≤ (beatS s).commit := hapc
            clear hK hKp HC
            go_wp2_with fail
            exact ⟨⟨m + 1, beatS s, W, _, by omega, by go_num, rfl, rfl, rfl, HK.out, fine_beat HA.out.fine, HA.out.self, HA.out.n, L3.out.keep fun g cs _ hb => HP.out g 45 cs (by decide) (by decide) hb, (by have := HP.out ag 3 _ (by decide) (by decide) L1.out; have e : s.self = me := HA.out.self; show Blk _ ag 3 (ackc kn (upd s.ans s.self (s.rounds + 1))); rw [e]; exact this), HA.out.agB, by have := HA.out.r1; show s.rounds + 1 ≤ _; omega⟩, by simp [intOf]; omega⟩
        · as_aux_lemma =>
            by_cases hE : ackE s X Y = 0
            · obtain ⟨y0, y1, y2, y3, y4⟩ := ack_is hE
              obtain ⟨i, rfl⟩ : ∃ i : Nat, X = i := ⟨X.toNat, by omega⟩
              have hik : i < kn := by have := HA.out.n; omega
              have him : i ≠ me := by have := HA.out.self; omega
              have hC := k_ack HA.out.kr i Y
              rw [show ackSS s i Y = ackS s i Y from by unfold ackSS; rw [if_pos hE]; simp, hE] at hC
              have HC := Lib.hid hC
              have hfi := Lib.hid (fine_ackS HA.out.fine i Y y4)
              have d1 : decide ((kn : Int) ≤ (i : Int)) = false := by simp; omega
              have d2 : ((i : Int) == (me : Int)) = false := by simp; omega
              have d3 : decide (Y < 1) = false := by simp; omega
              have d4 : decide (s.rounds < Y) = false := by simp; omega
              have hki : (i : Int) < (kn : Int) := by omega
              clear hC hE y1 y2 him
              go_wp2_with fail
              refine HC.out.mono ?_
              rintro e w2 ⟨rfl, hK, hKp⟩
              dsimp only
              have hbx := hKp _ _ _ (by decide) (by decide) BX.out
              have f1 : w2.cell? ⟨g, 1, none⟩ = some (.int .i64 i) := by rw [hbx.cell]; rfl
              have f2 : w2.cell? ⟨g, 2, none⟩ = some (.int .i64 Y) := by rw [hbx.cell]; rfl
              have hak := hKp ag 3 _ (by decide) (by decide) HA.out.acks
              have ca := hak.cell i
              have fa := hak.frozen i
              rw [ackc_get kn s.ans hik] at ca
              have HL := Lib.hid (fun x => lay_ack2 hak hK (HA.out.row.keep fun g cs _ hb => hKp g 45 cs (by decide) (by decide) hb) HA.out.agB hik x)
              have HM := Lib.hid (show (ackS s i Y).ans = upd s.ans i (max (s.ans i) Y) from rfl)
              clear hK hKp HC hbx hak
              generalize s.ans i = Ai at *
              go_wp2_with fail
              go_region
              go_wp2_with fail
              exact ⟨⟨m + 1, ackS s i Y, W, _, by omega, by go_num, rfl, rfl, rfl, (HL.out _).2.1, hfi.out, HA.out.self, HA.out.n, (HL.out _).2.2, by rw [HM.out]; exact (HL.out _).1, HA.out.agB, by have := HA.out.r1; show s.rounds ≤ _; omega⟩, by simp [intOf]; omega⟩
            · have hC := k_ack HA.out.kr X Y
              rw [show ackSS s X Y = s from by unfold ackSS; rw [if_neg hE]] at hC
              have HC := Lib.hid hC
              have hd : (ackE s X Y == 0) = false := by simpa using hE
              clear hC hE
              generalize ackE s X Y = EE at *
              go_wp2_with fail
              refine HC.out.mono ?_
              rintro e w2 ⟨rfl, hK, hKp⟩
              dsimp only
              have HK := Lib.hid hK
              have HP := Lib.hid hKp
              clear hK hKp HC
              go_wp2_with fail
              exact ⟨⟨m + 1, s, _, _, by omega, by go_num, rfl, rfl, rfl, HA.out.step HK.out HP.out HA.out.fine rfl rfl (fun _ _ => rfl) (by have := HA.out.r1; omega) rfl⟩, by simp [intOf]; omega⟩
        · as_aux_lemma =>
            by_cases hE : ackE s X Y = 0
            · obtain ⟨y0, y1, y2, y3, y4⟩ := ack_is hE
              obtain ⟨i, rfl⟩ : ∃ i : Nat, X = i := ⟨X.toNat, by omega⟩
              have hik : i < kn := by have := HA.out.n; omega
              have him : i ≠ me := by have := HA.out.self; omega
              have hC := k_ack HA.out.kr i Y
              rw [show ackSS s i Y = ackS s i Y from by unfold ackSS; rw [if_pos hE]; simp, hE] at hC
              have HC := Lib.hid hC
              have hfi := Lib.hid (fine_ackS HA.out.fine i Y y4)
              have d1 : decide ((kn : Int) ≤ (i : Int)) = false := by simp; omega
              have d2 : ((i : Int) == (me : Int)) = false := by simp; omega
              have d3 : decide (Y < 1) = false := by simp; omega
              have d4 : decide (s.rounds < Y) = false := by simp; omega
              have hki : (i : Int) < (kn : Int) := by omega
              clear hC hE y1 y2 him
              go_wp2_with fail
              refine HC.out.mono ?_
              rintro e w2 ⟨rfl, hK, hKp⟩
              dsimp only
              have hbx := hKp _ _ _ (by decide) (by decide) BX.out
              have f1 : w2.cell? ⟨g, 1, none⟩ = some (.int .i64 i) := by rw [hbx.cell]; rfl
              have f2 : w2.cell? ⟨g, 2, none⟩ = some (.int .i64 Y) := by rw [hbx.cell]; rfl
              have hak := hKp ag 3 _ (by decide) (by decide) HA.out.acks
              have ca := hak.cell i
              have fa := hak.frozen i
              rw [ackc_get kn s.ans hik] at ca
              have HL := Lib.hid (fun x => lay_ack2 hak hK (HA.out.row.keep fun g cs _ hb => hKp g 45 cs (by decide) (by decide) hb) HA.out.agB hik x)
              have HM := Lib.hid (show (ackS s i Y).ans = upd s.ans i (max (s.ans i) Y) from rfl)
              clear hK hKp HC hbx hak
              generalize s.ans i = Ai at *
              go_wp2_with fail
              go_region
              go_wp2_with fail
              exact ⟨⟨m + 1, ackS s i Y, W, _, by omega, by go_num, rfl, rfl, rfl, (HL.out _).2.1, hfi.out, HA.out.self, HA.out.n, (HL.out _).2.2, by rw [HM.out]; exact (HL.out _).1, HA.out.agB, by have := HA.out.r1; show s.rounds ≤ _; omega⟩, by simp [intOf]; omega⟩
            · have hC := k_ack HA.out.kr X Y
              rw [show ackSS s X Y = s from by unfold ackSS; rw [if_neg hE]] at hC
              have HC := Lib.hid hC
              have hd : (ackE s X Y == 0) = false := by simpa using hE
              clear hC hE
              generalize ackE s X Y = EE at *
              go_wp2_with fail
              refine HC.out.mono ?_
              rintro e w2 ⟨rfl, hK, hKp⟩
              dsimp only
              have HK := Lib.hid hK
              have HP := Lib.hid hKp
              clear hK hKp HC
              go_wp2_with fail
              exact ⟨⟨m + 1, s, _, _, by omega, by go_num, rfl, rfl, rfl, HA.out.step HK.out HP.out HA.out.fine rfl rfl (fun _ _ => rfl) (by have := HA.out.r1; omega) rfl⟩, by simp [intOf]; omega⟩
        · as_aux_lemma =>
            have HC := Lib.hid (k_ready HA.out.kr)
            go_wp2_with fail
            refine HC.out.mono ?_
            rintro e w2 ⟨A2, q2, v2, rfl, hO, hK, hKp⟩
            dsimp only
            have hkw := readyK_le s W
            have h64 := HA.out.kr.rd.len
            have hrow2 : rowAt w2 w.heap.size 45 3 (.slice A1 W.length q1) W.length (flatW W) := HA.out.row.keep fun g cs _ hb => hKp g 45 cs (by decide) (by decide) hb
            have HR2 := Lib.hid hrow2
            have HA2 := Lib.hid (hKp ag 3 _ (by decide) (by decide) HA.out.acks)
            have HRH := Lib.hid (fun j x (h1 : j < readyK s W) h2 => ready_head s W (j := j) (x := x) h1 h2)
            have HMJ := Lib.hid (fun r h => majority s r (by rw [HA.out.n]; exact hk1) h)
            have HO := Lib.hid hO
            have HK := Lib.hid hK
            clear hO hK hKp HC hrow2
            generalize readyK s W = KR at *
            go_wp2_with fail
            go_loopw [10, 148] (fun rv i w' => ∃ (j : Nat), j ≤ KR ∧ i = .int .i64 j ∧ w' = w2 ∧ rowAt w2 w.heap.size 45 3 rv (W.length - j) (flatW (W.drop j))) (fun _ i _ => KR - (intOf i).toNat)
            case atStart => exact ⟨0, by omega, rfl, rfl, HR2.out⟩
            case round =>
              obtain ⟨j, hj, rfl, rfl, hrow⟩ := hrel
              have HROW := Lib.hid hrow
              clear hrow HR2
              by_cases hlt : j < KR
              · have hjw : j < W.length := by omega
                obtain ⟨x, hx⟩ : ∃ x, W[j]? = some x := ⟨W[j], List.getElem?_eq_getElem hjw⟩
                obtain ⟨rd1, rd2⟩ := HRH.out j x hlt hx
                have hmj := HMJ.out _ rd1
                have hdr : (W.drop j)[0]? = some x := by rw [List.getElem?_drop]; exact hx
                obtain ⟨x0, x1, x2⟩ := flatW_get _ hdr
                obtain ⟨r, hr⟩ : ∃ r, W.length - j = r + 1 := ⟨W.length - j - 1, by omega⟩
                have hrow := HROW.out
                rw [hr] at hrow
                obtain ⟨g3, o3, c3, rfl, hg3, hc3⟩ := hrow.some_ (by omega)
                have p0 := hrow.cells x0
                have p1 := hrow.cells x1
                have p2 := hrow.cells x2
                obtain ⟨gA, cA, hA2, _⟩ := HO.out.form (by omega)
                injection hA2 with hA2
                subst hA2
                have hid : (ids (W.take KR))[j]? = some (.int .i64 x.1) := by unfold ids; rw [List.getElem?_map, List.getElem?_take_of_lt hlt, hx]; rfl
                have pid := HO.out.cells (g := gA) rfl j _ hid
                rw [add_mk, Nat.zero_add] at pid
                simp only [Nat.zero_mul, Nat.zero_add, Nat.add_zero] at p0 p1 p2
                have hjR : (j : Int) < (KR : Int) := by omega
                have hr0 : (((r + 1 : Nat) : Int) == 0) = false := by simp; omega
                have hne : (x.1 != x.1) = false := by simp
                have hap : decide (s.applied < x.2.2) = false := by simp; omega
                have hrl : (0 : Int) < ((r + 1 : Nat) : Int) := by omega
                rw [HA.out.n] at hmj
                have HMJ2 := Lib.hid hmj
                have HX := Lib.hid hrow
                have HXR := Lib.hid hr
                have HJ := Lib.hid hj
                clear x0 x1 x2 hdr hx rd1 rd2 hmj hid hrow hr hj hkw
                obtain ⟨xi, xr, xc⟩ := x
                simp only at p0 p1 p2 pid hne hap HMJ2
                go_wp2_with fail
                go_loopw [19, 173] (fun cn i w' => ∃ (p : Nat), p ≤ kn ∧ i = .int .i64 p ∧ w' = wr ∧ cn = .int .i64 (laterTo s xr p : Nat)) (fun _ i _ => kn - (intOf i).toNat)
                case atStart => exact ⟨0, by omega, rfl, rfl, rfl⟩
                case round =>
                  obtain ⟨p, hp, rfl, rfl, rfl⟩ := hrel
                  by_cases hpk : p < kn
                  · have cp := HA2.out.cell p
                    rw [ackc_get kn s.ans hpk] at cp
                    have hpI : (p : Int) < (kn : Int) := by omega
                    have hle := laterTo_le s xr p
                    have hsu := laterTo_succ s xr p
                    by_cases hgt : xr < s.ans p
                    · rw [if_pos hgt] at hsu
                      have HSU := Lib.hid hsu
                      have hd : decide (xr < s.ans p) = true := by simpa using hgt
                      clear hsu hgt
                      go_wp2_with fail
                      exact ⟨⟨p + 1, by omega, by go_num, by rw [HSU.out]; first | done | exact ⟨trivial, rfl⟩ | go_num | (refine ⟨trivial, ?_⟩; go_num)⟩, by simp [intOf]; omega⟩
                    · rw [if_neg hgt] at hsu
                      have HSU := Lib.hid hsu
                      have hd : decide (xr < s.ans p) = false := by simpa using hgt
                      clear hsu hgt
                      go_wp2_with fail
                      exact ⟨⟨p + 1, by omega, by go_num, by rw [HSU.out]; first | done | exact ⟨trivial, rfl⟩ | go_num | (refine ⟨trivial, ?_⟩; go_num)⟩, by simp [intOf]; omega⟩
                  · obtain rfl : p = kn := by omega
                    have hle := laterTo_le s xr p
                    have hlat : 2 * laterTo s xr p > p := by
                      have := HMJ2.out
                      have e := HA.out.n
                      unfold later at this
                      rw [e] at this
                      exact this
                    generalize laterTo s xr p = lt at *
                    have hd : decide (2 * (lt : Int) ≤ (p : Int)) = false := by simp; omega
                    have hnx := flatW_drop1 W j
                    have HNX := Lib.hid hnx
                    clear hnx
                    go_wp2_with fail
                    · have hr00 : r = 0 := by omega
                      subst hr00
                      have hx3 := HX.out.empty
                      refine ⟨⟨_, _, _, _, _, _, ⟨j + 1, by omega, by go_num, ?_⟩, rfl, rfl, rfl, rfl, rfl, rfl⟩, by simp [intOf]; omega⟩
                      rw [show W.length - (j + 1) = 0 by have := HXR.out; omega, show W.drop (j + 1) = [] from List.drop_eq_nil_of_le (by have := HXR.out; omega)]
                      exact hx3
                    · have hx3 := HX.out.tail (k := 1) (by omega)
                      refine ⟨⟨_, _, _, _, _, _, ⟨j + 1, by omega, by go_num, ?_⟩, rfl, rfl, rfl, rfl, rfl, rfl⟩, by simp [intOf]; omega⟩
                      rw [show W.length - (j + 1) = r by have := HXR.out; omega, ← HNX.out]
                      exact hx3
              · obtain rfl : j = KR := by omega
                clear hlt hj
                go_wp2_with fail
                exact ⟨⟨m + 1, s, W.drop j, v2, by omega, by go_num, rfl, rfl, rfl, HK.out, fine_drop HA.out.fine j, HA.out.self, HA.out.n, by rw [List.length_drop]; exact HROW.out, HA2.out, HA.out.agB, by have := HA.out.r1; omega⟩, by simp [intOf]; omega⟩
        · as_aux_lemma =>
            have HC := Lib.hid (k_drop HA.out.kr)
            go_wp2_with fail
            refine HC.out.mono ?_
            rintro e w2 ⟨A2, q2, v2, rfl, hO, hK, hKp⟩
            dsimp only
            have HK := Lib.hid hK
            have HP := Lib.hid hKp
            clear hK hKp hO HC
            go_wp2_with fail
            exact ⟨⟨m + 1, s, [], _, by omega, by go_num, rfl, rfl, rfl, HK.out, fine_nil HA.out.fine, HA.out.self, HA.out.n, rowAt.nil _ _ _ _, HP.out ag 3 _ (by decide) (by decide) HA.out.acks, HA.out.agB, by have := HA.out.r1; omega⟩, by simp [intOf]; omega⟩
      · obtain rfl : m = n := by omega
        have HC := Lib.hid (k_waiting HI.out.kr)
        obtain ⟨A1, q1, rfl⟩ := HI.out.row.form_
        clear hlt hm hAA
        go_wp2_with fail
        refine HC.out.mono ?_
        rintro e w2 ⟨rfl, rfl⟩
        dsimp only
        go_wp2_with fail
        go_ret
        exact ⟨rfl, HI.out.kr.below⟩
end Go.Proofs.Ytdbbnkibdibpkab
