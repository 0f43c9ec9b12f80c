/- The fixed facts of layer 27; a book's bounds behind each call. -/
import Derived.Test.YtekibpfpkbgjkacDo
namespace Go.Proofs.Ytekibpfpkbgjkac
open Go.RowKit
set_option linter.unusedVariables false

theorem Fine.mono {window sum : Int} {L : List PS} {K K' : Int} (h : Fine window sum L K) (hK : K ≤ K') (h2 : K' ≤ 1000) : Fine window sum L K' :=
  ⟨h.w0, h.w1, h.len, fun s hs => by have := h.next s hs; omega, by have := h.k; omega, by have := h.sum0; omega, by have := h.sum1; omega⟩
theorem fine_do {window sum : Int} {L : List PS} {K : Int} (h : Fine window sum L K) (hK : K + 1 ≤ 1000) (i seq amount : Int) : Fine window (doR window sum L i seq amount).sum (doR window sum L i seq amount).L (K + 1) := by
  have h1 := h.mono (K' := K + 1) (by omega) hK
  unfold doR
  split
  · exact h1
  split
  · exact h1
  split
  · exact h1
  · rename_i ha hi _ s hs
    split
    · exact h1
    split
    · exact h1
    split
    · exact h1
    · have hn := h.next s (mem_of_some hs)
      refine ⟨h.w0, h.w1, by simpa using h.len, fun x hx => ?_, by have := h.k; omega, by have := h.sum0; show _ ≤ sum + amount; omega, by have := h.sum1; show sum + amount ≤ _; omega⟩
      rcases List.mem_or_eq_of_mem_set hx with hx | hx
      · have := h.next x hx; omega
      · subst hx; simp only; omega
theorem fine_new (window : Int) (h0 : 1 ≤ window) (h1 : window ≤ 64) : Fine window 0 [] 0 := ⟨h0, h1, by simp, by simp, by omega, by omega, by omega⟩
theorem fine_open {window sum : Int} {L : List PS} {K : Int} (h : Fine window sum L K) (hL : L.length < 64) : Fine window sum (L ++ [fresh]) K :=
  ⟨h.w0, h.w1, by simp; omega, fun s hs => by
    rcases List.mem_append.1 hs with hs | hs
    · exact h.next s hs
    · simp at hs; subst hs; have := h.k; simp [fresh]; omega, h.k, h.sum0, h.sum1⟩
theorem fine_close {window sum : Int} {L : List PS} {K : Int} (h : Fine window sum L K) (i : Int) : Fine window sum (closeL L i) K := by
  unfold closeL
  split
  · exact h
  split
  · exact h
  · rename_i s hs
    split
    · exact h
    · refine ⟨h.w0, h.w1, by simpa using h.len, fun x hx => ?_, h.k, h.sum0, h.sum1⟩
      rcases List.mem_or_eq_of_mem_set hx with hx | hx
      · exact h.next x hx
      · subst hx; exact h.next s (mem_of_some hs)

/-- What a caller keeps of a book. -/
def Kept (w0 : World) (b : Nat) (window sum : Int) (L : List PS) (w : World) : Prop := ∃ v, PBook w w0.heap.size b window sum L v ∧ Below w0.heap.size w0 w ∧ w0.heap.size ≤ b
theorem BPost.kept {w0 : World} {b : Nat} {window sum sum' : Int} {L L' : List PS} {v : Value} {w w' : World} (h : PBook w w0.heap.size b window sum L v) (hb : Below w0.heap.size w0 w) (hB : w0.heap.size ≤ b)
    (hp : BPost w0.heap.size b window sum' L' v w w') : Kept w0 b window sum' L' w' := by
  obtain ⟨v', h1, c, f⟩ := hp
  refine ⟨v', h1, Ch.below hb c ?_ hb.size, hB⟩
  rintro k (rfl | hk)
  · exact hB
  · exact (h.2.1.lt k hk).1
theorem Kept.drewN {w0 : World} {b : Nat} {window sum : Int} {L : List PS} {w : World} (h : Kept w0 b window sum L w) (n : Nat) : Kept w0 b window sum L (w.drewN n) := by
  obtain ⟨v, ⟨h1, h2, h3⟩, hb, hB⟩ := h
  exact ⟨v, ⟨h1.drewN n, own_drewN h2 n, h3⟩, below_drewN hb n, hB⟩

theorem do_kept {w0 : World} {b : Nat} {window sum : Int} {L : List PS} {K : Int} {i seq amount x e sum' : Int} {L' : List PS} (hR : doR window sum L i seq amount = ⟨x, e, sum', L'⟩) (hF : Fine window sum L K) {w : World} (h : Kept w0 b window sum L w) :
    Calls Try.prog 14 #[.pointer (some ⟨b, 0, none⟩), .int .i64 i, .int .i64 seq, .int .i64 amount] w fun e' w' => e' = .returned (.tuple #[.int .i64 x, .int .i64 e]) ∧ Kept w0 b window sum' L' w' := by
  obtain ⟨v, hp, hb, hB⟩ := h
  have := do_any w0.heap.size b window sum L v w K i seq amount hp hF
  rw [hR] at this
  exact this.mono fun e' w' ⟨h1, h2⟩ => ⟨h1, h2.kept hp hb hB⟩
theorem ask_kept {w0 : World} {b : Nat} {window sum : Int} {L : List PS} {K : Int} {i seq x e : Int} (hR : askR window L i seq = (x, e)) (hF : Fine window sum L K) {w : World} (h : Kept w0 b window sum L w) :
    Calls Try.prog 12 #[.pointer (some ⟨b, 0, none⟩), .int .i64 i, .int .i64 seq] w fun e' w' => e' = .returned (.tuple #[.int .i64 x, .int .i64 e]) ∧ Kept w0 b window sum L w' := by
  obtain ⟨v, hp, hb, hB⟩ := h
  have := ask_any w0.heap.size b window sum L v w K i seq hp hF
  rw [hR] at this
  exact this.mono fun e' w' ⟨h1, k, h2⟩ => ⟨h1, by rw [h2]; exact Kept.drewN ⟨v, hp, hb, hB⟩ k⟩
theorem open_kept {w0 : World} {b : Nat} {window sum : Int} {L : List PS} {w : World} (hl : L.length < 64) (h : Kept w0 b window sum L w) :
    Calls Try.prog 8 #[.pointer (some ⟨b, 0, none⟩)] w fun e' w' => e' = .returned (.tuple #[.int .i64 L.length, .int .i64 0]) ∧ Kept w0 b window sum (L ++ [fresh]) w' := by
  obtain ⟨v, hp, hb, hB⟩ := h
  exact (open_in w0.heap.size b window sum L v w hp hl hb.size).mono fun e' w' ⟨h1, h2⟩ => ⟨h1, h2.kept hp hb hB⟩
theorem close_kept {w0 : World} {b : Nat} {window sum : Int} {L L' : List PS} {i e : Int} (h1 : closeE L i = e) (h2 : closeL L i = L') {w : World} (h : Kept w0 b window sum L w) :
    Calls Try.prog 10 #[.pointer (some ⟨b, 0, none⟩), .int .i64 i] w fun e' w' => e' = .returned (.int .i64 e) ∧ Kept w0 b window sum L' w' := by
  obtain ⟨v, hp, hb, hB⟩ := h
  have := close_any w0.heap.size b window sum L v w i hp
  rw [h1, h2] at this
  exact this.mono fun e' w' ⟨h1, h2⟩ => ⟨h1, h2.kept hp hb hB⟩
theorem sum_kept {w0 : World} {b : Nat} {window sum : Int} {L : List PS} {w : World} (h : Kept w0 b window sum L w) : Calls Try.prog 16 #[.pointer (some ⟨b, 0, none⟩)] w fun e w' => e = .returned (.int .i64 sum) ∧ w = w' := by
  obtain ⟨v, hp, hb, hB⟩ := h
  exact sum_any _ _ _ _ _ _ _ hp
theorem sessions_kept {w0 : World} {b : Nat} {window sum : Int} {L : List PS} {w : World} (h : Kept w0 b window sum L w) : Calls Try.prog 17 #[.pointer (some ⟨b, 0, none⟩)] w fun e w' => e = .returned (.int .i64 L.length) ∧ w = w' := by
  obtain ⟨v, hp, hb, hB⟩ := h
  exact sessions_any _ _ _ _ _ _ _ hp
/-- Next. -/
def nextR (L : List PS) (i : Int) : Int := if i < 0 ∨ L.length ≤ i then 0 else match L[i.toNat]? with | none => 0 | some s => s.next
theorem next_kept {w0 : World} {b : Nat} {window sum : Int} {L : List PS} {i x : Int} (hx : nextR L i = x) {w : World} (h : Kept w0 b window sum L w) : Calls Try.prog 18 #[.pointer (some ⟨b, 0, none⟩), .int .i64 i] w fun e w' => e = .returned (.int .i64 x) ∧ w = w' := by
  obtain ⟨v, hp, hb, hB⟩ := h
  subst hx
  by_cases hi : i < 0 ∨ L.length ≤ i
  · have e : nextR L i = 0 := by unfold nextR; rw [if_pos hi]
    rw [e]
    exact next_no _ _ _ _ _ _ _ i hp hi
  · obtain ⟨I, rfl⟩ := Int.eq_ofNat_of_zero_le (show 0 ≤ i by omega)
    obtain ⟨s, hs⟩ := some_of_lt (show I < L.length by omega)
    have e : nextR L I = s.next := by unfold nextR; rw [if_neg hi, Int.toNat_natCast, hs]
    rw [e]
    exact next_yes _ _ _ _ _ _ _ I s hp hs

def fL2 : List PS := [⟨(List.replicate 64 0).set 1 5, 2, false⟩]
def fL3 : List PS := [⟨((List.replicate 64 0).set 1 5).set 0 6, 3, false⟩]
def fL4 : List PS := [⟨(((List.replicate 64 0).set 1 5).set 0 6).set 1 7, 4, false⟩]
def fL5 : List PS := [⟨(((List.replicate 64 0).set 1 5).set 0 6).set 1 7, 4, true⟩]

set_option maxRecDepth 100000 in
set_option maxHeartbeats 4000000 in
theorem fixed_true (w : World) : Calls Try.prog 6 #[] w fun e w' => e = .returned (.bool true) ∧ Below w.heap.size w w' := by
  have F1 : Fine 2 0 [fresh] 0 := fine_open (fine_new 2 (by decide) (by decide)) (by simp)
  have e1 : doR 2 0 [fresh] 0 1 5 = ⟨5, 0, 5, fL2⟩ := by kernel_rfl
  have F2 := fine_do F1 (by decide) 0 1 5
  rw [e1] at F2
  have e2 : doR 2 5 fL2 0 1 99 = ⟨5, 0, 5, fL2⟩ := by kernel_rfl
  have e3 : doR 2 5 fL2 0 3 1 = ⟨0, 5, 5, fL2⟩ := by kernel_rfl
  have e4 : askR 2 fL2 0 2 = (0, 10) := by kernel_rfl
  have e5 : doR 2 5 fL2 0 2 1 = ⟨6, 0, 6, fL3⟩ := by kernel_rfl
  have F3 := fine_do F2 (by decide) 0 2 1
  rw [e5] at F3
  have e6 : doR 2 6 fL3 0 3 1 = ⟨7, 0, 7, fL4⟩ := by kernel_rfl
  have F4 := fine_do F3 (by decide) 0 3 1
  rw [e6] at F4
  have e7 : askR 2 fL4 0 1 = (0, 9) := by kernel_rfl
  have e8 : closeE fL4 0 = 0 := by kernel_rfl
  have e9 : closeL fL4 0 = fL5 := by kernel_rfl
  have F5 := fine_close F4 0
  rw [e9] at F5
  have e10 : doR 2 7 fL5 0 4 1 = ⟨0, 8, 7, fL5⟩ := by kernel_rfl
  have e11 : askR 2 fL5 0 3 = (7, 0) := by kernel_rfl
  have e12 : nextR fL5 0 = 4 := by kernel_rfl
  have a1 := Lib.hid (fun w' h => do_kept (w0 := w) (b := w.heap.size) e1 F1 (w := w') h)
  have a2 := Lib.hid (fun w' h => do_kept (w0 := w) (b := w.heap.size) e2 F2 (w := w') h)
  have a3 := Lib.hid (fun w' h => do_kept (w0 := w) (b := w.heap.size) e3 F2 (w := w') h)
  have a4 := Lib.hid (fun w' h => ask_kept (w0 := w) (b := w.heap.size) e4 F2 (w := w') h)
  have a5 := Lib.hid (fun w' h => do_kept (w0 := w) (b := w.heap.size) e5 F2 (w := w') h)
  have a6 := Lib.hid (fun w' h => do_kept (w0 := w) (b := w.heap.size) e6 F3 (w := w') h)
  have a7 := Lib.hid (fun w' h => ask_kept (w0 := w) (b := w.heap.size) e7 F4 (w := w') h)
  have a8 := Lib.hid (fun w' h => close_kept (w0 := w) (b := w.heap.size) (window := 2) (sum := 7) e8 e9 (w := w') h)
  have a9 := Lib.hid (fun w' h => do_kept (w0 := w) (b := w.heap.size) e10 F5 (w := w') h)
  have a10 := Lib.hid (fun w' h => ask_kept (w0 := w) (b := w.heap.size) e11 F5 (w := w') h)
  have a11 := Lib.hid (fun w' h => next_kept (w0 := w) (b := w.heap.size) (window := 2) (sum := 7) e12 (w := w') h)
  clear e1 e2 e3 e4 e5 e6 e7 e8 e9 e10 e11 e12 F1 F2 F3 F4 F5
  go_enter Try.func6, Try.ntmps6
  go_wp2_with fail
  with_reducible refine (new_in 2 (by decide) (by decide) _).mono ?_
  rintro e w1 ⟨rfl, hw1⟩
  have k1 : Kept w w.heap.size 2 0 [] w1 := ⟨_, by rw [hw1]; exact ⟨Blk.new _ _ _, World.ownsRow_nil _ _ _ _, by simp⟩, by rw [hw1]; exact (Below.refl _ _).alloc (Nat.le_refl _) _, Nat.le_refl _⟩
  clear hw1
  go_wp2_with fail
  with_reducible refine (open_kept (by decide) k1).mono ?_
  rintro e w2 ⟨rfl, k2'⟩
  have k2 : Kept w w.heap.size 2 0 [fresh] w2 := k2'
  clear k1 k2'
  go_wp2_with fail
  with_reducible refine (a1.out _ k2).mono ?_
  rintro e w3 ⟨rfl, k3⟩
  clear k2
  go_wp2_with fail
  with_reducible refine (a2.out _ k3).mono ?_
  rintro e w4 ⟨rfl, k4⟩
  clear k3
  go_wp2_with fail
  with_reducible refine (a3.out _ k4).mono ?_
  rintro e w5 ⟨rfl, k5⟩
  clear k4
  go_wp2_with fail
  with_reducible refine (a4.out _ k5).mono ?_
  rintro e w6 ⟨rfl, k6⟩
  clear k5
  go_wp2_with fail
  with_reducible refine (a5.out _ k6).mono ?_
  rintro e w7 ⟨rfl, k7⟩
  clear k6
  go_wp2_with fail
  with_reducible refine (a6.out _ k7).mono ?_
  rintro e w8 ⟨rfl, k8⟩
  clear k7
  go_wp2_with fail
  with_reducible refine (a7.out _ k8).mono ?_
  rintro e w9 ⟨rfl, k9⟩
  clear k8
  go_wp2_with fail
  with_reducible refine (a8.out _ k9).mono ?_
  rintro e w10 ⟨rfl, k10⟩
  clear k9
  go_wp2_with fail
  with_reducible refine (a9.out _ k10).mono ?_
  rintro e w11 ⟨rfl, k11⟩
  clear k10
  go_wp2_with fail
  with_reducible refine (a10.out _ k11).mono ?_
  rintro e w12 ⟨rfl, k12⟩
  clear k11
  go_wp2_with fail
  with_reducible refine (do_nil _ _ _ _).mono ?_
  rintro e w' ⟨rfl, rfl⟩
  go_wp2_with fail
  with_reducible refine (sum_kept k12).mono ?_
  rintro e w' ⟨rfl, rfl⟩
  go_wp2_with fail
  with_reducible refine (a11.out _ k12).mono ?_
  rintro e w' ⟨rfl, rfl⟩
  go_wp2_with fail
  with_reducible refine (new_out _ (by decide) _).mono ?_
  rintro e w' ⟨rfl, rfl⟩
  go_wp2_with fail
  with_reducible refine (sessions_nil _).mono ?_
  rintro e w' ⟨rfl, rfl⟩
  go_wp2_with fail
  go_ret
  obtain ⟨_, _, hb, _⟩ := k12
  exact ⟨rfl, hb⟩
end Go.Proofs.Ytekibpfpkbgjkac
