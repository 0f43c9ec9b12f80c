/- Ask: a reading is laid behind those that wait. -/
import Derived.Test.YtdbbnkibdibpkabRdy
import Derived.Deep.RegionLaw
import Derived.Deep.DeepCutAuto
namespace Go.Proofs.Ytdbbnkibdibpkab
open Go.RowKit
set_option linter.unusedVariables false

def askE (W : List Rdg) (id : Int) : Int := if id < 0 then 1 else if 0 ≤ firstIdx (fun x => x.1 == id) W then 8 else if 64 ≤ W.length then 7 else 0
def askW (s : RS) (W : List Rdg) (id : Int) : List Rdg := if askE W id = 0 then W ++ [(id, s.rounds, s.commit)] else W
def AFoot (b : Nat) (v : Value) (k : Nat) : Prop := k = b ∨ v.ownBlock = some k
def AP (B b : Nat) (s : RS) (W' : List Rdg) (v : Value) (w w' : World) : Prop := ∃ v', Rd w' B b s W' v' ∧ Ch (AFoot b v) w w'
theorem AP.same {B b : Nat} {s : RS} {W : List Rdg} {v : Value} {w w' : World} (h : Rd w B b s W v) (hc : NewW w w') : AP B b s W v w w' :=
  ⟨v, h.ch hc (fun h => h) (fun _ _ h => h), hc.mono (fun _ h => h.elim)⟩
theorem flatW_snoc (W : List Rdg) (x : Rdg) : flatW (W ++ [x]) = flatW W ++ [.int .i64 x.1, .int .i64 x.2.1, .int .i64 x.2.2] := by simp [flatW]
theorem ask_fin {w w3 w7 : World} {B b n : Nat} {s : RS} {W : List Rdg} {v : Value} {A7 : Option Addr} {c7 : Nat} {o : Obj} {x : Rdg} (hB : B ≤ w.heap.size) (h3 : Rd w3 B b s W v) (hc : NewW w w3) (hl : W.length < 64)
    (ho : w7.ownsRow B 53 3 (.slice A7 (W.length + 1) c7) (W.length + 1) (flatW W ++ [.int .i64 x.1, .int .i64 x.2.1, .int .i64 x.2.2]))
    (hg : ((w3.drewN n).alloc o).grownBy w7 v.ownBlock) : AP B b s (W ++ [x]) v w (w7.setCell ⟨b, 12, none⟩ (.slice A7 (W.length + 1) c7)) := by
  have hne : v.ownBlock ≠ some b := own_blk_ne h3.own h3.blk (by decide)
  have hb7 : Blk w7 b 50 (s.cells v) := ((h3.drewN n).blk.alloc o).grown hg (fun e => hne e.symm)
  have hr7 : Ch (AFoot b v) w w7 := ((((hc.mono (fun _ h => h.elim)).drewN n).alloc o).grown hg (fun k hk => .inl (.inr hk)))
  have hne7 : (Value.slice A7 (W.length + 1) c7).ownBlock ≠ some b := own_blk_ne ho hb7 (by decide)
  refine ⟨.slice A7 (W.length + 1) c7, ⟨?_, ?_, h3.bB, h3.n1, h3.n7, h3.me, by simp; omega⟩, hr7.setCell (.inl (.inl rfl)) _⟩
  · have := hb7.set_ 12 (.slice A7 (W.length + 1) c7)
    rwa [show (s.cells v).setIfInBounds 12 (.slice A7 (W.length + 1) c7) = s.cells (.slice A7 (W.length + 1) c7) by simp [RS.cells]] at this
  · rw [List.length_append, flatW_snoc]
    exact own_set_far ho hne7 _
set_option maxRecDepth 100000 in
set_option maxHeartbeats 8000000 in
theorem ask_any (B b : Nat) (s : RS) (W : List Rdg) (v : Value) (w : World) (h : Rd w B b s W v) (hB : B ≤ w.heap.size) (id : Int) :
    Calls Try.prog 12 #[.pointer (some ⟨b, 0, none⟩), .int .i64 id] w fun e w' => e = .returned (.int .i64 (askE W id)) ∧ AP B b s (askW s W id) v w w' := by
  have hn1 : NewW w (w.alloc (.cells #[.int .i64 id] 3)) := (Ch.refl _ _).alloc _
  have hib : (w.alloc (.cells #[.int .i64 id] 3)).cell? ⟨w.heap.size, 0, none⟩ = some (.int .i64 id) := by rw [(Blk.new w 3 #[.int .i64 id]).cell]; rfl
  have h1 := h.ch hn1 (fun h => h) (fun _ _ h => h)
  have c1 := h1.c12
  by_cases hid : id < 0
  · have e1 : askE W id = 1 := by unfold askE; rw [if_pos hid]
    have e2 : askW s W id = W := by unfold askW; rw [e1]; rfl
    rw [e1, e2]
    have HF := Lib.hid (AP.same h hn1)
    have hd : decide (id < 0) = true := by simpa using hid
    clear h h1 hn1 e1 e2
    go_enter Try.func12, Try.ntmps12
    go_wp2_with fail
    go_ret
    exact ⟨rfl, HF.out⟩
  · have hd : decide (id < 0) = false := by simpa using hid
    have hct := Lib.hid (contains_any B b s W v _ h1 id w.heap.size hib)
    obtain ⟨R, hR⟩ : ∃ R, firstIdx (fun x => x.1 == id) W = R := ⟨_, rfl⟩
    rw [hR] at hct
    have HN := Lib.hid hn1
    have H1 := Lib.hid h1
    by_cases hR0 : 0 ≤ R
    · have e1 : askE W id = 8 := by unfold askE; rw [if_neg hid, hR, if_pos hR0]
      have e2 : askW s W id = W := by unfold askW; rw [e1]; rfl
      rw [e1, e2]
      have HF := Lib.hid (fun w' (hc : NewW (w.alloc (.cells #[.int .i64 id] 3)) w') => AP.same h (Ch.trans' hn1 hc))
      have hd2 : decide (0 ≤ R) = true := by simpa using hR0
      clear h h1 hn1 e1 e2 hR hR0 hid
      go_enter Try.func12, Try.ntmps12
      go_wp2_with (go_at_call 24; (with_reducible refine (hct.out).mono ?_); rintro e w2 ⟨rfl, hN2⟩; have HN2 := Lib.hid hN2; clear hN2)
      go_ret
      exact ⟨rfl, HF.out _ HN2.out⟩
    · have hd2 : decide (0 ≤ R) = false := by simpa using hR0
      by_cases hl : 64 ≤ W.length
      · have e1 : askE W id = 7 := by unfold askE; rw [if_neg hid, hR, if_neg hR0, if_pos hl]
        have e2 : askW s W id = W := by unfold askW; rw [e1]; rfl
        rw [e1, e2]
        have HF := Lib.hid (fun w' (hc : NewW (w.alloc (.cells #[.int .i64 id] 3)) w') => AP.same h (Ch.trans' hn1 hc))
        obtain ⟨A, q, rfl⟩ := own_form h.own
        clear h h1 hn1 e1 e2 hR hR0 hid
        go_enter Try.func12, Try.ntmps12
        go_wp2_with (go_at_call 24; (with_reducible refine (hct.out).mono ?_); rintro e w2 ⟨rfl, hN2⟩; have c2 := (H1.out.ch hN2 (fun h => h) (fun _ _ h => h)).c12; have HN2 := Lib.hid hN2; clear hN2)
        go_ret
        exact ⟨rfl, HF.out _ HN2.out⟩
      · have e1 : askE W id = 0 := by unfold askE; rw [if_neg hid, hR, if_neg hR0, if_neg hl]
        have e2 : askW s W id = W ++ [(id, s.rounds, s.commit)] := by unfold askW; rw [e1]; rfl
        rw [e1, e2]
        obtain ⟨i1, hi1, hy0, hy1, hy2⟩ := info_parts rdg_info
        obtain ⟨A, q, rfl⟩ := own_form h.own
        have hll : W.length < 64 := by omega
        have hlt : w.heap.size < (w.alloc (.cells #[.int .i64 id] 3)).heap.size := by simp
        have hB1 : B ≤ (w.alloc (.cells #[.int .i64 id] 3)).heap.size := by omega
        clear h h1 hn1 e1 e2 hR hR0 hid hl
        go_enter Try.func12, Try.ntmps12
        go_upto_region 7 with ((go_at_call 24; (with_reducible refine (hct.out).mono ?_); rintro e w2 ⟨rfl, hN2⟩; have c2 := (H1.out.ch hN2 (fun h => h) (fun _ _ h => h)).c12; have HN2 := Lib.hid hN2; clear hN2))
        have h2 := H1.out.ch HN2.out (fun h => h) (fun _ _ h => h)
        have hib2 := (ch_cell HN2.out hlt).trans hib
        have hl2 : w.heap.size < w2.heap.size := block_lt_of_cell hib2
        have H2 := Lib.hid h2
        have hB2 : B ≤ w2.heap.size := Nat.le_trans hB1 HN2.out.size
        have hne : (Value.slice A W.length q).ownBlock ≠ some b := own_blk_ne h2.own h2.blk (by decide)
        have y0 : (w2.alloc (.cells #[.int .i64 id, .int .i64 s.rounds, .int .i64 s.commit] 53)).cell? ⟨w.heap.size, 0, none⟩ = some (.int .i64 id) := by rw [World.cell?_alloc_lt _ _ _ hl2]; exact hib2
        have c9 := h2.c9
        have c10 := h2.c10
        have y12 : (w2.alloc (.cells #[.int .i64 id, .int .i64 s.rounds, .int .i64 s.commit] 53)).cell? ⟨b, 12, none⟩ = some (.slice A W.length q) := (h2.ch ((Ch.refl (fun _ => False) w2).alloc _) (fun h => h) (fun _ _ h => h)).c12
        have HNN := Lib.hid (HN.out.trans' HN2.out)
        clear h2
        go_region_law (first
          | (refine step_append_any _ rfl (.tmp 30) (.tmp 41) _ rfl B 53 i1 _ 3 24 Try.underlying48 hi1 hy0 hy1 hy2 rfl (by omega) (.slice A W.length q) W.length (flatW W) rfl
               (H2.out.own.drew.alloc _) _ (some ⟨_, 0, none⟩) 1 1 [.int .i64 id, .int .i64 s.rounds, .int .i64 s.commit] rfl (reads_new _ _ #[.int .i64 id, .int .i64 s.rounds, .int .i64 s.commit] 1 3 rfl) (by simp [Value.oneCell']) (by simp only [maxLen]; omega) (by omega) (by simp; omega) ?_
             intro v7 w7 hown7 hg7 hat7
             have hb7 : Blk w7 b 50 _ := (H2.out.blk.drew.alloc _).grown hg7 (fun e => hne e.symm)
             have m1 := hb7.frozen 12
             have m2 := hb7.cell 12
             simp [RS.cells] at m2
             obtain ⟨A7, c7, rfl⟩ := own_form hown7
             have HO7 := Lib.hid hown7; clear hown7
             have HG7 := Lib.hid hg7; clear hg7))
        all_goals
          go_wp2_with fail
          go_ret
          exact ⟨rfl, ask_fin (n := 1) (x := (id, s.rounds, s.commit)) hB H2.out HNN.out hll HO7.out HG7.out⟩
end Go.Proofs.Ytdbbnkibdibpkab
