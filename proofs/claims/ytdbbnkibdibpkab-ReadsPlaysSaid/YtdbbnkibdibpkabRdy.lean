/- New, Drop, Ready. -/
import Derived.Test.YtdbbnkibdibpkabTk
namespace Go.Proofs.Ytdbbnkibdibpkab
open Go.RowKit
set_option linter.unusedVariables false

def fresh (me n : Nat) : RS := { self := me, n := n, ans := fun _ => 0, rounds := 0, commit := 0, applied := 0 }
theorem rd_new (w : World) (B : Nat) (hB : B ≤ w.heap.size) (me n : Nat) (h1 : 1 ≤ n) (h7 : n ≤ 7) (hm : me < n) : Rd (w.alloc (.cells ((fresh me n).cells (.slice none 0 0)) 50)) B w.heap.size (fresh me n) [] (.slice none 0 0) :=
  ⟨Blk.new _ _ _, ⟨rfl, .inl ⟨rfl, rfl⟩⟩, hB, h1, h7, hm, by simp⟩
theorem new_in (me n : Nat) (h1 : 1 ≤ n) (h7 : n ≤ 7) (hm : me < n) (w : World) :
    Calls Try.prog 7 #[.int .i64 me, .int .i64 n] w fun e w' => e = .returned (.pointer (some ⟨w.heap.size, 0, none⟩)) ∧ w' = w.alloc (.cells ((fresh me n).cells (.slice none 0 0)) 50) := by
  have d1 : decide ((n : Int) < 1) = false := by simp; omega
  have d2 : decide (7 < (n : Int)) = false := by simp; omega
  have d3 : decide ((n : Int) ≤ (me : Int)) = false := by simp; omega
  go_enter Try.func7, Try.ntmps7
  go_wp2
  go_ret
  exact ⟨by simp, by simp [RS.cells, fresh]⟩
theorem new_out (me n : Int) (h : n < 1 ∨ 7 < n ∨ me < 0 ∨ n ≤ me) (w : World) : Calls Try.prog 7 #[.int .i64 me, .int .i64 n] w fun e w' => e = .returned (.pointer none) ∧ w = w' := by
  by_cases h1 : n < 1
  · have d1 : decide (n < 1) = true := by simpa using h1
    clear h
    go_enter Try.func7, Try.ntmps7
    go_wp2
    go_ret
    exact ⟨rfl, rfl⟩
  · have d1 : decide (n < 1) = false := by simpa using h1
    by_cases h2 : 7 < n
    · have d2 : decide (7 < n) = true := by simpa using h2
      clear h
      go_enter Try.func7, Try.ntmps7
      go_wp2
      go_ret
      exact ⟨rfl, rfl⟩
    · have d2 : decide (7 < n) = false := by simpa using h2
      by_cases h3 : me < 0
      · have d3 : decide (me < 0) = true := by simpa using h3
        clear h
        go_enter Try.func7, Try.ntmps7
        go_wp2
        go_ret
        exact ⟨rfl, rfl⟩
      · have d3 : decide (me < 0) = false := by simpa using h3
        have d4 : decide (n ≤ me) = true := by simp; omega
        clear h
        go_enter Try.func7, Try.ntmps7
        go_wp2
        go_ret
        exact ⟨rfl, rfl⟩
theorem Took.later {B b : Nat} {s : RS} {W : List Rdg} {k : Nat} {w w1 w' : World} {e : Ending} (h : Took B b s W k w1 e w') (hc : NewW w w1) : Took B b s W k w e w' := by
  obtain ⟨vo, v', h1, h2, h3, h4⟩ := h
  exact ⟨vo, v', h1, own_mono h2 hc.size, h3, (hc.mono (fun _ h => h.elim)).trans' h4⟩
theorem drop_any (B b : Nat) (s : RS) (W : List Rdg) (v : Value) (w : World) (h : Rd w B b s W v) (hB : B ≤ w.heap.size) :
    Calls Try.prog 20 #[.pointer (some ⟨b, 0, none⟩)] w (Took B b s W W.length w) := by
  have ht := Lib.hid (take_any B b s W v w h hB W.length (Nat.le_refl _))
  have c := h.c12
  obtain ⟨A, q, rfl⟩ := own_form h.own
  clear h
  go_enter Try.func20, Try.ntmps20
  go_wp2_with fail
  refine ht.out.mono ?_
  rintro e w2 ⟨vo, v', rfl, h1, h2, h3⟩
  dsimp only
  have HT := Lib.hid (show Took B b s W W.length w (.returned vo) w2 from ⟨vo, v', rfl, h1, h2, h3⟩)
  clear h1 h2 h3
  go_wp2_with fail
  go_ret
  exact HT.out
theorem firstIdx_le (p : Rdg → Bool) (W : List Rdg) : -1 ≤ firstIdx p W ∧ firstIdx p W < W.length + 1 := by
  unfold firstIdx
  rcases hf : W.findIdx? p with _ | i
  · simp; omega
  · have := (List.findIdx?_eq_some_iff_getElem.1 hf).1
    simp; omega
/-- How many readings may be answered. -/
def readyK (s : RS) (W : List Rdg) : Nat := if firstIdx (blocked (sureOf s) s.applied) W < 0 then W.length else (firstIdx (blocked (sureOf s) s.applied) W).toNat
theorem readyK_le (s : RS) (W : List Rdg) : readyK s W ≤ W.length := by
  have := firstIdx_le (blocked (sureOf s) s.applied) W
  unfold readyK
  split <;> omega
set_option maxRecDepth 100000 in
theorem ready_any (B b : Nat) (s : RS) (W : List Rdg) (v : Value) (w : World) (h : Rd w B b s W v) (hB : B ≤ w.heap.size) :
    Calls Try.prog 18 #[.pointer (some ⟨b, 0, none⟩)] w (Took B b s W (readyK s W) w) := by
  have hn1 : NewW w (w.alloc (.cells #[.pointer (some ⟨b, 0, none⟩)] 24)) := (Ch.refl _ _).alloc _
  have h1 := h.ch hn1 (fun h => h) (fun _ _ h => h)
  have hpb : (w.alloc (.cells #[.pointer (some ⟨b, 0, none⟩)] 24)).cell? ⟨w.heap.size, 0, none⟩ = some (.pointer (some ⟨b, 0, none⟩)) := by rw [(Blk.new w 24 #[.pointer (some ⟨b, 0, none⟩)]).cell]; rfl
  have hpb := Lib.hid hpb
  have hsu := Lib.hid (sure_any B b s W v _ h1)
  have HN1 := Lib.hid hn1
  have H1 := Lib.hid h1
  have hlt : w.heap.size < (w.alloc (.cells #[.pointer (some ⟨b, 0, none⟩)] 24)).heap.size := by simp
  clear h hn1 h1
  go_enter Try.func18, Try.ntmps18
  go_wp2_with fail
  generalize w.alloc (.cells #[.pointer (some ⟨b, 0, none⟩)] 24) = w1 at *
  refine hsu.out.mono ?_
  rintro e w2 ⟨rfl, hN2⟩
  dsimp only
  obtain ⟨S, hS⟩ : ∃ S, sureOf s = S := ⟨_, rfl⟩
  obtain ⟨pb, hpbe⟩ : ∃ pb, w.heap.size = pb := ⟨_, rfl⟩
  have hN3 : NewW w1 (w2.alloc (.cells #[.int .i64 S] 3)) := Ch.alloc hN2 _
  have hp2 : w2.cell? ⟨w.heap.size, 0, none⟩ = some (.pointer (some ⟨b, 0, none⟩)) := (ch_cell hN2 hlt).trans hpb.out
  have hp3 : (w2.alloc (.cells #[.int .i64 S] 3)).cell? ⟨w.heap.size, 0, none⟩ = some (.pointer (some ⟨b, 0, none⟩)) := (ch_cell hN3 hlt).trans hpb.out
  have hs3 : (w2.alloc (.cells #[.int .i64 S] 3)).cell? ⟨w2.heap.size, 0, none⟩ = some (.int .i64 S) := by rw [(Blk.new w2 3 #[.int .i64 S]).cell]; rfl
  have hR3 := H1.out.ch hN3 (fun h => h) (fun _ _ h => h)
  have c12 := hR3.c12
  have hix := Lib.hid (index27 B b s W v _ hR3 S w2.heap.size w.heap.size hs3 hp3)
  have HS := Lib.hid hS
  have HNN := Lib.hid (HN1.out.trans' hN3)
  have H3 := Lib.hid hR3
  have hl3 : w.heap.size < (w2.alloc (.cells #[.int .i64 S] 3)).heap.size := block_lt_of_cell hp3
  rw [hS]
  clear hS hpbe hN2 hN3 hp2 hs3 hR3 hpb hsu
  go_wp2_with fail
  generalize w2.alloc (.cells #[.int .i64 S] 3) = w3 at *
  refine hix.out.mono ?_
  rintro e w4 ⟨rfl, hN4⟩
  dsimp only
  have hp4 := (ch_cell hN4 hl3).trans hp3
  have hR4 := H3.out.ch hN4 (fun h => h) (fun _ _ h => h)
  have c4 := hR4.c12
  have HN4 := Lib.hid (HNN.out.trans' hN4)
  have hBs : B ≤ w4.heap.size := Nat.le_trans hB HN4.out.size
  have hle := firstIdx_le (blocked S s.applied) W
  have hrk := Lib.hid (show readyK s W = if firstIdx (blocked S s.applied) W < 0 then W.length else (firstIdx (blocked S s.applied) W).toNat from by unfold readyK; rw [HS.out])
  obtain ⟨A4, q4, rfl⟩ := own_form hR4.own
  have H4 := Lib.hid hR4
  clear hN4 hR4 c12 hp3 hix
  generalize firstIdx (blocked S s.applied) W = R at *
  by_cases hR : R < 0
  · have ht := Lib.hid (take_any B b s W _ w4 H4.out hBs W.length (Nat.le_refl _))
    have hk : readyK s W = W.length := by rw [hrk.out, if_pos hR]
    have hd : decide (R < 0) = true := by simpa using hR
    have HF := Lib.hid (fun e w' (h : Took B b s W W.length w4 e w') => (show Took B b s W (readyK s W) w e w' from by rw [hk]; exact h.later HN4.out))
    clear hk hR hrk
    go_wp2_with fail
    refine ht.out.mono ?_
    rintro e w5 ⟨vo, v', rfl, a1, a2, a3⟩
    dsimp only
    have HT := Lib.hid (HF.out _ w5 ⟨vo, v', rfl, a1, a2, a3⟩)
    clear a1 a2 a3
    go_wp2_with fail
    go_ret
    exact HT.out
  · obtain ⟨K, rfl⟩ : ∃ K : Nat, R = K := ⟨R.toNat, by omega⟩
    have ht := Lib.hid (take_any B b s W _ w4 H4.out hBs K (by omega))
    have hk : readyK s W = K := by rw [hrk.out, if_neg hR]; simp
    have hd : decide ((K : Int) < 0) = false := by simp
    have HF := Lib.hid (fun e w' (h : Took B b s W K w4 e w') => (show Took B b s W (readyK s W) w e w' from by rw [hk]; exact h.later HN4.out))
    clear hk hR hrk
    go_wp2_with fail
    refine ht.out.mono ?_
    rintro e w5 ⟨vo, v', rfl, a1, a2, a3⟩
    dsimp only
    have HT := Lib.hid (HF.out _ w5 ⟨vo, v', rfl, a1, a2, a3⟩)
    clear a1 a2 a3
    go_wp2_with fail
    go_ret
    exact HT.out
end Go.Proofs.Ytdbbnkibdibpkab
