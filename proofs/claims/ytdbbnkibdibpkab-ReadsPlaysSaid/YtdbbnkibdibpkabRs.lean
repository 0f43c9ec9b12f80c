/- The plain reads' Sure: whether a majority answered a round, and the greatest such round. -/
import Derived.Test.YtdbbnkibdibpkabRq
import Derived.Test.YtdbbnkibdibpkabFr
namespace Go.Proofs.Ytdbbnkibdibpkab
open Go.RowKit
set_option linter.unusedVariables false

/-! ### Plain words -/
def yesTo (ks : List (Int × Int)) (M : Nat) (K : Int) (i q : Nat) : Bool := ((i : Int) == (M : Int)) || (ks.take q).any fun a => a.1 == (i : Int) && decide (K ≤ a.2)
theorem yesTo_zero (ks : List (Int × Int)) (M : Nat) (K : Int) (i : Nat) : yesTo ks M K i 0 = ((i : Int) == (M : Int)) := by simp [yesTo]
theorem yesTo_succ (ks : List (Int × Int)) (M : Nat) (K : Int) (i q : Nat) {x : Int × Int} (h : ks[q]? = some x) : yesTo ks M K i (q + 1) = (yesTo ks M K i q || (x.1 == (i : Int) && decide (K ≤ x.2))) := by
  unfold yesTo
  rw [List.take_add_one, h, Option.toList_some, List.any_append]
  simp [Bool.or_assoc]
def cntTo (f : Nat → Bool) (p : Nat) : Nat := (List.range p).countP f
theorem cntTo_zero (f : Nat → Bool) : cntTo f 0 = 0 := rfl
theorem cntTo_le (f : Nat → Bool) (p : Nat) : cntTo f p ≤ p := by
  unfold cntTo
  exact Nat.le_trans List.countP_le_length (by simp)
theorem cntTo_succ (f : Nat → Bool) (p : Nat) : cntTo f (p + 1) = cntTo f p + (if f p = true then 1 else 0) := by
  unfold cntTo
  rw [List.range_succ, List.countP_append]
  simp [List.countP_cons]
def yesAll (ks : List (Int × Int)) (s : RS) (K : Int) (i : Nat) : Bool := yesTo ks s.self K i ks.length
def sureB (ks : List (Int × Int)) (s : RS) (K : Int) : Bool := decide (s.n < 2 * cntTo (yesAll ks s K) s.n)
/-- The answers that came, told by the greatest of each node. -/
structure Ans (s : RS) (ks : List (Int × Int)) : Prop where
  n1 : 1 ≤ s.n
  n7 : s.n ≤ 7
  me : s.self < s.n
  own : s.ans s.self = s.rounds
  r0 : 0 ≤ s.rounds
  lo : ∀ i, i < s.n → 0 ≤ s.ans i ∧ s.ans i ≤ s.rounds
  acks : ∀ i, i < s.n → i ≠ s.self → ∀ K : Int, 1 ≤ K → ((ks.any fun a => a.1 == (i : Int) && decide (K ≤ a.2)) = true ↔ K ≤ s.ans i)
theorem ans_new (me n : Nat) (h1 : 1 ≤ n) (h7 : n ≤ 7) (hm : me < n) : Ans (fresh me n) [] :=
  ⟨h1, h7, hm, rfl, Int.le_refl 0, fun i _ => ⟨Int.le_refl 0, Int.le_refl 0⟩, fun i _ _ K hK => by simp [fresh]; omega⟩
theorem ans_like {s s' : RS} {ks : List (Int × Int)} (h : Ans s ks) (h1 : s'.self = s.self) (h2 : s'.n = s.n) (h3 : s'.ans = s.ans) (h4 : s'.rounds = s.rounds) : Ans s' ks := by
  refine ⟨by rw [h2]; exact h.n1, by rw [h2]; exact h.n7, by rw [h1, h2]; exact h.me, by rw [h1, h3, h4]; exact h.own, by rw [h4]; exact h.r0, ?_, ?_⟩
  · rw [h2, h3, h4]; exact h.lo
  · rw [h2, h3, h1]; exact h.acks
theorem ans_commit {s : RS} {ks : List (Int × Int)} (h : Ans s ks) (x : Int) : Ans (commitS s x) ks := by
  unfold commitS; split
  · exact h
  split
  · exact h
  · exact ans_like h rfl rfl rfl rfl
theorem ans_apply {s : RS} {ks : List (Int × Int)} (h : Ans s ks) (x : Int) : Ans (applyS s x) ks := by
  unfold applyS; split
  · exact h
  split
  · exact h
  · exact ans_like h rfl rfl rfl rfl
theorem ans_beat {s : RS} {ks : List (Int × Int)} (h : Ans s ks) : Ans (beatS s) ks := by
  have r0 := h.r0
  refine ⟨h.n1, h.n7, h.me, by simp [beatS, upd], by show 0 ≤ s.rounds + 1; omega, fun i hi => ?_, fun i hi hne K hK => ?_⟩
  · have := h.lo i hi
    show 0 ≤ upd s.ans s.self (s.rounds + 1) i ∧ upd s.ans s.self (s.rounds + 1) i ≤ s.rounds + 1
    unfold upd
    split <;> omega
  · show _ ↔ K ≤ upd s.ans s.self (s.rounds + 1) i
    unfold upd
    rw [if_neg (show ¬ i = s.self from hne)]
    exact h.acks i hi hne K hK
theorem ans_ack {s : RS} {ks : List (Int × Int)} (h : Ans s ks) (x y : Int) : Ans (ackSS s x y) (ackK s ks x y) := by
  by_cases hE : ackE s x y = 0
  · have e1 : ackSS s x y = ackS s x.toNat y := by unfold ackSS; rw [if_pos hE]
    have e2 : ackK s ks x y = ks ++ [(x, y)] := by unfold ackK; rw [if_pos hE]
    obtain ⟨k, rfl, hk, hm, y1, y2⟩ : ∃ k : Nat, x = k ∧ k < s.n ∧ k ≠ s.self ∧ 1 ≤ y ∧ y ≤ s.rounds := by
      unfold ackE at hE
      split at hE
      · omega
      split at hE
      · omega
      · exact ⟨x.toNat, by omega, by omega, by omega, by omega, by omega⟩
    rw [e1, e2]
    refine ⟨h.n1, h.n7, h.me, ?_, h.r0, fun i hi => ?_, fun i hi hne K hK => ?_⟩
    · show upd s.ans k (max (s.ans k) y) s.self = s.rounds
      unfold upd
      rw [if_neg (fun e => hm e.symm)]
      exact h.own
    · have h1 := h.lo i hi
      show 0 ≤ upd s.ans k (max (s.ans k) y) i ∧ upd s.ans k (max (s.ans k) y) i ≤ s.rounds
      unfold upd
      split
      · rename_i e; subst e; omega
      · exact h1
    · show _ ↔ K ≤ upd s.ans k (max (s.ans k) y) i
      rw [List.any_append, Bool.or_eq_true, h.acks i hi hne K hK]
      unfold upd
      by_cases e : i = k
      · subst e
        rw [if_pos rfl]
        simp
        omega
      · rw [if_neg (by simpa using e)]
        simp
        omega
  · have e1 : ackSS s x y = s := by unfold ackSS; rw [if_neg hE]
    have e2 : ackK s ks x y = ks := by unfold ackK; rw [if_neg hE]
    rw [e1, e2]
    exact h
theorem ackSS_is (s : RS) (x y : Int) : (ackSS s x y).n = s.n ∧ (ackSS s x y).self = s.self ∧ (ackSS s x y).rounds = s.rounds ∧ (ackSS s x y).commit = s.commit ∧ (ackSS s x y).applied = s.applied := by
  unfold ackSS; split <;> exact ⟨rfl, rfl, rfl, rfl, rfl⟩
theorem minority (s : RS) (r : Int) (h1 : 1 ≤ s.n) (h : sureOf s ≤ r) : 2 * later s r ≤ s.n := by
  rw [later_sorted]
  have hl := sorted_len s
  have hp := sorted_le s
  have hlt : (s.n - 1) / 2 < (sorted s).length := by rw [hl]; omega
  have hs : sureOf s = (sorted s)[(s.n - 1) / 2] := by
    unfold sureOf
    rw [List.getD_eq_getElem?_getD, List.getElem?_eq_getElem hlt]
    rfl
  rw [hs] at h
  generalize sorted s = L at *
  have hsplit : L.countP (fun x => decide (r < x)) = (L.take ((s.n - 1) / 2 + 1)).countP (fun x => decide (r < x)) + (L.drop ((s.n - 1) / 2 + 1)).countP (fun x => decide (r < x)) := by
    rw [← List.countP_append, List.take_append_drop]
  have hall : (L.take ((s.n - 1) / 2 + 1)).countP (fun x => decide (r < x)) = 0 := by
    rw [List.countP_eq_zero]
    intro x hx
    obtain ⟨j, hj⟩ := List.getElem?_of_mem hx
    have hjl := lt_of_some hj
    rw [List.length_take] at hjl
    rw [List.getElem?_take_of_lt (by omega)] at hj
    have hjl2 := lt_of_some hj
    rw [List.getElem?_eq_getElem hjl2] at hj
    injection hj with hj
    simp
    rcases Nat.lt_or_ge j ((s.n - 1) / 2) with h0 | h0
    · have := List.pairwise_iff_getElem.1 hp j ((s.n - 1) / 2) hjl2 hlt h0
      rw [← hj]
      omega
    · obtain rfl : j = (s.n - 1) / 2 := by omega
      rw [← hj]
      omega
  have hle := List.countP_le_length (p := fun x => decide (r < x)) (l := L.drop ((s.n - 1) / 2 + 1))
  rw [List.length_drop] at hle
  omega
theorem yesAll_is {s : RS} {ks : List (Int × Int)} (h : Ans s ks) {K : Int} (h1 : 1 ≤ K) (h2 : K ≤ s.rounds) {i : Nat} (hi : i < s.n) : yesAll ks s K i = decide (K ≤ s.ans i) := by
  unfold yesAll yesTo
  rw [List.take_length]
  by_cases e : i = s.self
  · subst e
    rw [h.own]
    simp [h2]
  · have e1 : ((i : Int) == (s.self : Int)) = false := by simp; omega
    rw [e1, Bool.false_or, Bool.eq_iff_iff, h.acks i hi e K h1, decide_eq_true_iff]
theorem sureB_is {s : RS} {ks : List (Int × Int)} (h : Ans s ks) {K : Int} (h1 : 1 ≤ K) (h2 : K ≤ s.rounds) : sureB ks s K = decide (K ≤ sureOf s) := by
  have hc : cntTo (yesAll ks s K) s.n = later s (K - 1) := by
    unfold cntTo later
    rw [List.countP_map]
    refine List.countP_congr fun i hi => ?_
    have hi := List.mem_range.1 hi
    rw [yesAll_is h h1 h2 hi]
    simp
    omega
  unfold sureB
  rw [hc]
  by_cases hk : K ≤ sureOf s
  · have := majority s (K - 1) h.n1 (by omega)
    rw [decide_eq_true hk, decide_eq_true this]
  · have := minority s (K - 1) h.n1 (by omega)
    rw [decide_eq_false hk, decide_eq_false (by omega)]
theorem sure_range {s : RS} {ks : List (Int × Int)} (h : Ans s ks) : 0 ≤ sureOf s ∧ sureOf s ≤ s.rounds := by
  unfold sureOf
  have hl := sorted_len s
  have n1 := h.n1
  have hlt : (s.n - 1) / 2 < (sorted s).length := by rw [hl]; omega
  rw [List.getD_eq_getElem?_getD, List.getElem?_eq_getElem hlt]
  obtain ⟨i, hi, he⟩ := (mem_sorted s _).1 (List.getElem_mem hlt)
  show 0 ≤ (sorted s)[(s.n - 1) / 2] ∧ (sorted s)[(s.n - 1) / 2] ≤ s.rounds
  rw [← he]
  exact h.lo i hi

/-! ### The walks -/
theorem Rp.ack_at {w : World} {B b : Nat} {s : RS} {ks : List (Int × Int)} {W : List Rdg} {vl : Value} {g off cap : Nat} (h : Rp w B b s ks W (.slice (some ⟨g, off, none⟩) ks.length cap) vl) {i : Nat} {x : Int × Int} (hx : ks[i]? = some x) :
    w.cell? ⟨g, off + i * 2, none⟩ = some (.int .i64 x.1) ∧ w.cell? ⟨g, off + i * 2 + 1, none⟩ = some (.int .i64 x.2) := by
  obtain ⟨h0, h1⟩ := flatK_get ks hx
  exact ⟨h.acks.cells h0, h.acks.cells h1⟩
set_option maxRecDepth 100000 in
set_option maxHeartbeats 8000000 in
theorem r_sure1 (B b : Nat) (s : RS) (ks : List (Int × Int)) (W : List Rdg) (va vl : Value) (w : World) (h : Rp w B b s ks W va vl) (n7 : s.n ≤ 7) (hk : ks.length ≤ 1000) (K : Int) :
    Calls Try.prog 31 #[.pointer (some ⟨b, 0, none⟩), .int .i64 K] w fun e w' => e = .returned (.bool (sureB ks s K)) ∧ NewW w w' := by
  obtain ⟨A, q, rfl⟩ := h.acks.form_
  have HH := Lib.hid h
  have HS := Lib.hid (show sureB ks s K = decide (s.n < 2 * cntTo (yesAll ks s K) s.n) from rfl)
  have HY := Lib.hid (show ∀ i, yesAll ks s K i = yesTo ks s.self K i ks.length from fun _ => rfl)
  generalize hF : yesAll ks s K = F at *
  generalize hsb : sureB ks s K = SB at *
  clear hF hsb h
  go_enter Try.func31, Try.ntmps31
  go_wp2_with fail
  go_loopw [5, 6] (fun c i w' => ∃ p : Nat, p ≤ s.n ∧ i = .int .i64 p ∧ c = .int .i64 (cntTo F p : Nat) ∧ NewW w w') (fun _ i _ => s.n - (intOf i).toNat)
  case atStart => exact ⟨0, by omega, rfl, rfl, Ch.refl _ _⟩
  case round =>
    obtain ⟨p, hp, rfl, rfl, hC⟩ := hrel
    have hr := HH.out.new_ hC
    have c0 := hr.c0
    have c1 := hr.c1
    have c5 := hr.c5
    have HC := Lib.hid hC
    have hcl := cntTo_le F p
    have HCS := Lib.hid (cntTo_succ F p)
    have HYP := Lib.hid (HY.out p)
    have HY0 := Lib.hid (yesTo_zero ks s.self K p)
    have HYS := Lib.hid (fun q x (hx : ks[q]? = some x) => yesTo_succ ks s.self K p q hx)
    clear hr hC
    generalize hyt : yesTo ks s.self K p = YT at *
    generalize s.self = M at *
    clear hyt
    by_cases hlt : p < s.n
    · generalize s.n = N at *
      go_wp2_with fail
      go_loopw [7, 29] (fun y i w' => ∃ q : Nat, q ≤ ks.length ∧ i = .int .i64 q ∧ y = .bool (YT q) ∧ NewW w w') (fun _ i _ => ks.length - (intOf i).toNat)
      case atStart => exact ⟨0, by omega, rfl, by rw [HY0.out], HC.out⟩
      case round =>
        obtain ⟨q, hq, rfl, rfl, hC⟩ := hrel
        by_cases hql : q < ks.length
        · obtain ⟨x, hx⟩ := some_of_lt hql
          have h := HH.out
          obtain ⟨g, off, cap, hv, hg, hgl⟩ := h.acks.some_ (by omega)
          injection hv with hA hn hq'
          subst hA
          obtain ⟨r0, r1⟩ := h.ack_at hx
          have e0 := (ch_cell hC (block_lt_of_cell r0)).trans r0
          have e1 := (ch_cell hC (block_lt_of_cell r1)).trans r1
          have HSU := Lib.hid (HYS.out q x hx)
          have HC2 := Lib.hid (fun o => (hC.alloc o : NewW w (wr.alloc o)))
          clear r0 r1 hx hC h hq' hn c0 c1 c5
          obtain ⟨x1, x2⟩ := x
          simp only at e0 e1 HSU
          rcases hy : YT q with _ | _
          · rw [hy] at HSU
            clear hy
            rcases ha : (x1 == (p : Int)) with _ | _
            · rw [ha] at HSU
              simp only [Bool.false_and, Bool.or_false] at HSU
              go_wp2_with fail
              exact ⟨⟨q + 1, by omega, by go_num, by rw [HSU.out], HC2.out _⟩, by simp [intOf]; omega⟩
            · rw [ha] at HSU
              simp only [Bool.true_and, Bool.false_or] at HSU
              go_wp2_with fail
              exact ⟨⟨q + 1, by omega, by go_num, by rw [HSU.out], HC2.out _⟩, by simp [intOf]; omega⟩
          · rw [hy, Bool.true_or] at HSU
            clear hy
            go_wp2_with fail
            exact ⟨⟨q + 1, by omega, by go_num, by rw [HSU.out], HC2.out _⟩, by simp [intOf]; omega⟩
        · obtain rfl : q = ks.length := by omega
          have HC2 := Lib.hid hC
          clear hql hq hC
          rcases hy : YT ks.length with _ | _
          · have hcs := HCS.out
            rw [HYP.out, hy, if_neg (by simp)] at hcs
            have HCS := Lib.hid hcs
            clear hcs hy
            go_wp2_with fail
            exact ⟨⟨p + 1, by omega, by go_num, by rw [HCS.out]; rfl, HC2.out⟩, by simp [intOf]; omega⟩
          · have hcs := HCS.out
            rw [HYP.out, hy, if_pos rfl] at hcs
            have HCS := Lib.hid hcs
            clear hcs hy
            go_wp2_with fail
            exact ⟨⟨p + 1, by omega, by go_num, by rw [HCS.out]; go_num, HC2.out⟩, by simp [intOf]; omega⟩
    · obtain rfl : p = s.n := by omega
      clear hlt hp
      generalize s.n = N at *
      generalize cntTo F N = C at *
      have hw : IntKind.i64.wrap (2 * (C : Int)) = 2 * (C : Int) := IntWalk.i64_in _ (by omega)
      go_wp2_with fail
      go_ret
      refine ⟨ret_bool ?_, HC.out⟩
      rw [HS.out]
      rw [Bool.eq_iff_iff]
      simp
      omega
set_option maxRecDepth 100000 in
theorem r_sure (B b : Nat) (s : RS) (ks : List (Int × Int)) (W : List Rdg) (va vl : Value) (w : World) (h : Rp w B b s ks W va vl) (ha : Ans s ks) (hk : ks.length ≤ 1000) (hr : s.rounds ≤ 1000) :
    Calls Try.prog 22 #[.pointer (some ⟨b, 0, none⟩)] w fun e w' => e = .returned (.int .i64 (sureOf s)) ∧ NewW w w' := by
  obtain ⟨R0, R1⟩ := sure_range ha
  have HSB := Lib.hid (fun K (h1 : 1 ≤ K) (h2 : K ≤ s.rounds) => sureB_is ha h1 h2)
  have n7 := ha.n7
  have c2 := h.c2
  have r0 := ha.r0
  have HH := Lib.hid h
  clear h ha
  generalize sureOf s = S at *
  go_enter Try.func22, Try.ntmps22
  go_wp2_with fail
  go_loopw [3] (fun i w' => ∃ k : Nat, (k : Int) ≤ s.rounds ∧ S ≤ k ∧ i = .int .i64 k ∧ NewW w w') (fun i _ => (intOf i).toNat)
  case atStart => exact ⟨s.rounds.toNat, by omega, by omega, by rw [Int.toNat_of_nonneg r0], Ch.refl _ _⟩
  case round =>
    obtain ⟨k, hk1, hk2, rfl, hC⟩ := hrel
    clear c2
    by_cases h0 : 0 < k
    · have hc := r_sure1 B b s ks W va vl wr (HH.out.new_ hC) n7 hk k
      rw [HSB.out k (by omega) hk1] at hc
      have HC := Lib.hid hc
      have HN := Lib.hid hC
      clear hc hC
      by_cases hS : (k : Int) ≤ S
      · obtain rfl : S = k := by omega
        have hd : decide ((k : Int) ≤ (k : Int)) = true := by simp
        rw [hd] at HC
        clear hd
        go_wp2_with fail
        refine HC.out.mono ?_
        rintro e w2 ⟨rfl, hN2⟩
        dsimp only
        have HF := Lib.hid (HN.out.trans' hN2)
        clear hN2 HC
        go_wp2_with fail
        go_ret
        exact ⟨rfl, HF.out⟩
      · have hd : decide ((k : Int) ≤ S) = false := by simpa using hS
        rw [hd] at HC
        clear hd
        go_wp2_with fail
        refine HC.out.mono ?_
        rintro e w2 ⟨rfl, hN2⟩
        dsimp only
        have HF := Lib.hid (HN.out.trans' hN2)
        clear hN2 HC
        go_wp2_with fail
        exact ⟨⟨k - 1, by omega, by omega, by first | go_num | (rw [show ((k - 1 : Nat) : Int) = (k : Int) - 1 by omega]), HF.out⟩, by simp [intOf]; omega⟩
    · obtain rfl : k = 0 := by omega
      obtain rfl : S = 0 := by omega
      have HN := Lib.hid hC
      clear h0 hk1 hk2 hC
      go_wp2_with fail
      go_ret
      exact ⟨rfl, HN.out⟩
end Go.Proofs.Ytdbbnkibdibpkab
