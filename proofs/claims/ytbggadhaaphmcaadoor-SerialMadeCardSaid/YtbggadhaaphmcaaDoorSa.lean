/- Are two lists the same? (the document's functions) -/
import Derived.Test.YtbggadhaaphmcaaDoorRi
import Derived.Deep.QuietTactic
import Derived.Laws.StructEq
namespace Go.Proofs.YtbggadhaaphmcaaDoor
open Go.RowKit
set_option linter.unusedVariables false

abbrev Pr := ByteArray × Bool
def flatP (l : List Pr) : List Value := l.flatMap fun p => [.string p.1, .bool p.2]
def prR (r : Res) : Pr := (vOf r, hOf r)
theorem flatP_R (l : List Res) : flatP (l.map prR) = flatR l := by
  unfold flatP flatR
  rw [List.flatMap_map]
  rfl
theorem norm_eq (r : Res) : (if hOf r then some (vOf r) else none) = r := by cases r <;> rfl
theorem prR_inj {r s : Res} (h : prR r = prR s) : r = s := by
  unfold prR at h
  injection h with h1 h2
  rw [← norm_eq r, ← norm_eq s, h1, h2]
theorem flatP_get {l : List Pr} {i : Nat} {p : Pr} (h : l[i]? = some p) : (flatP l)[i * 2]? = some (.string p.1) ∧ (flatP l)[i * 2 + 1]? = some (.bool p.2) := by
  have g := fun j hj => flat_get (f := fun p : Pr => [Value.string p.1, .bool p.2]) (m := 2) (fun _ _ => rfl) h (j := j) hj
  exact ⟨g 0 (by omega), g 1 (by omega)⟩
def Prs (w : World) (A : Option Addr) (n : Nat) (l : List Pr) : Prop := l.length = n ∧ Rd w A (flatP l)
def Nums (w : World) (A : Option Addr) (n : Nat) (l : List Int) : Prop := l.length = n ∧ Rd w A (l.map (Value.int .i64))
section
variable {w w' w0 : World} {A : Option Addr} {n : Nat}
theorem Prs.new_ {l : List Pr} (h : Prs w A n l) (hc : NewW w w') : Prs w' A n l := ⟨h.1, h.2.new_ hc⟩
theorem Prs.below {l : List Pr} (h : Prs w0 A n l) (hb : Below w0.heap.size w0 w) : Prs w A n l := ⟨h.1, h.2.below hb⟩
theorem Prs.of_res {l : List Res} (h : Ress w A n l) : Prs w A n (l.map prR) := ⟨by rw [List.length_map]; exact h.1, by rw [flatP_R]; exact h.2⟩
theorem Nums.new_ {l : List Int} (h : Nums w A n l) (hc : NewW w w') : Nums w' A n l := ⟨h.1, h.2.new_ hc⟩
theorem Nums.below {l : List Int} (h : Nums w0 A n l) (hb : Below w0.heap.size w0 w) : Nums w A n l := ⟨h.1, h.2.below hb⟩
theorem Prs.at_ {l : List Pr} (h : Prs w A n l) {i : Nat} {p : Pr} (ho : l[i]? = some p) : ∃ b off, A = some ⟨b, off, none⟩ ∧ w.cell? ⟨b, off + i * 2, none⟩ = some (.string p.1) ∧ w.cell? ⟨b, off + i * 2 + 1, none⟩ = some (.bool p.2) := by
  obtain ⟨a0, a1⟩ := flatP_get ho
  obtain ⟨b, off, hA, _, hc⟩ := h.2 (ne_of_get a0)
  exact ⟨b, off, hA, hc _ _ a0, by rw [Nat.add_assoc]; exact hc _ _ a1⟩
theorem Nums.at_ {l : List Int} (h : Nums w A n l) {i : Nat} {x : Int} (ho : l[i]? = some x) : ∃ b off, A = some ⟨b, off, none⟩ ∧ w.cell? ⟨b, off + i, none⟩ = some (.int .i64 x) := by
  have a0 : (l.map (Value.int .i64))[i]? = some (.int .i64 x) := by rw [List.getElem?_map, ho]; rfl
  obtain ⟨b, off, hA, _, hc⟩ := h.2 (ne_of_get a0)
  exact ⟨b, off, hA, hc _ _ a0⟩
end
theorem take_eq {α : Type} {P Q : List α} {k : Nat} {x : α} (h : P.take k = Q.take k) (hp : P[k]? = some x) (hq : Q[k]? = some x) : P.take (k + 1) = Q.take (k + 1) := by
  have h1 := lt_of_some hp
  have h2 := lt_of_some hq
  rw [List.take_succ_eq_append_getElem h1, List.take_succ_eq_append_getElem h2, h]
  rw [List.getElem?_eq_getElem h1] at hp
  rw [List.getElem?_eq_getElem h2] at hq
  injection hp with hp
  injection hq with hq
  rw [hp, hq]
theorem ne_at {α : Type} {P Q : List α} {k : Nat} {x y : α} (hp : P[k]? = some x) (hq : Q[k]? = some y) (h : x ≠ y) : P ≠ Q := fun e => by
  rw [e, hq] at hp
  injection hp with hp
  exact h hp.symm
instance : DecidableEq OpD := fun a b => by
  cases a; cases b
  simp only [OpD.mk.injEq]
  exact inferInstance
set_option maxRecDepth 100000 in
set_option maxHeartbeats 2000000 in
theorem SameResults_any {w : World} {A B : Option Addr} {n m c d : Nat} {P Q : List Pr} (h1 : Prs w A n P) (h2 : Prs w B m Q) (hn : n ≤ 100000) (hm : m ≤ 100000) :
    Calls Tryd.prog 20 #[.slice A n c, .slice B m d] w fun e w' => e = .returned (.bool (decide (P = Q))) ∧ NewW w w' := by
  have H1 := Lib.hid h1
  have H2 := Lib.hid h2
  have L1 := Lib.hid h1.1
  have L2 := Lib.hid h2.1
  obtain ⟨R, hR⟩ : ∃ R, decide (P = Q) = R := ⟨_, rfl⟩
  rw [hR]
  have HR := Lib.hid hR
  clear h1 h2 hR
  by_cases hnm : n = m
  case neg =>
    have d1 : ((n : Int) != (m : Int)) = true := by simp; omega
    have d2 : (n != m) = true := by simpa using hnm
    have d3 : decide ((n : Int) = (m : Int)) = false := by simp; omega
    have d4 : ((n : Int) == (m : Int)) = false := by simp; omega
    have hr : R = false := by rw [← HR.out, decide_eq_false]; intro e; rw [e, L2.out] at L1; exact hnm L1.out.symm
    subst hr
    clear hnm
    go_enter Tryd.func20, Tryd.ntmps20
    go_wp2_with fail
    go_ret
    exact ⟨rfl, Ch.refl _ _⟩
  case pos =>
    subst hnm
    have hmI : (n : Int) ≤ 100000 := by omega
    clear hm
    go_enter Tryd.func20, Tryd.ntmps20
    go_wp2_with fail
    go_loopw [13] (fun i wr => ∃ k : Nat, k ≤ n ∧ i = .int .i64 k ∧ P.take k = Q.take k ∧ NewW w wr) (fun i _ => n - (intOf i).toNat)
    case atStart => exact ⟨0, by omega, rfl, rfl, Ch.refl _ _⟩
    case round =>
      obtain ⟨k, hk, rfl, heq, hC⟩ := hrel
      have HC := Lib.hid hC
      have HQ := Lib.hid heq
      clear hC heq
      by_cases hlt : k < n
      · obtain ⟨x, hx⟩ := some_of_lt (show k < P.length by rw [L1.out]; exact hlt)
        obtain ⟨y, hy⟩ := some_of_lt (show k < Q.length by rw [L2.out]; exact hlt)
        obtain ⟨b, off, rfl, x0, x1⟩ := (H1.out.new_ HC.out).at_ hx
        obtain ⟨b', off', rfl, y0, y1⟩ := (H2.out.new_ HC.out).at_ hy
        have k0 : (0 : Int) ≤ (k : Int) := by omega
        have k1 : (k : Int) < (n : Int) := by omega
        have HX := Lib.hid hx
        have HY := Lib.hid hy
        clear hx hy
        obtain ⟨v1, h1⟩ := x
        obtain ⟨v2, h2⟩ := y
        dsimp only at x0 x1 y0 y1
        by_cases e0 : v1 = v2
        case neg =>
          have hr : R = false := by rw [← HR.out, decide_eq_false]; exact ne_at HX.out HY.out (fun e => e0 (by injection e))
          have q1 : (v1.toList == v2.toList) = false := by simpa [str_eq] using e0
          have q2 : (v1.toList != v2.toList) = true := by simpa [str_eq] using e0
          subst hr
          clear e0
          go_wp2_with fail
          go_quiet (fail)
          go_wp2_with fail
          go_ret
          exact ⟨rfl, by first | exact HC.out | exact Ch.drewN HC.out _ | exact Ch.drew HC.out⟩
        subst e0
        by_cases e1 : h1 = h2
        case neg =>
          have hr : R = false := by rw [← HR.out, decide_eq_false]; exact ne_at HX.out HY.out (fun e => e1 (by injection e))
          have q1 : (h1 == h2) = false := by simpa using e1
          have q2 : (h1 != h2) = true := by simpa using e1
          subst hr
          clear e1
          go_wp2_with fail
          go_quiet (fail)
          go_wp2_with fail
          go_ret
          exact ⟨rfl, by first | exact HC.out | exact Ch.drewN HC.out _ | exact Ch.drew HC.out⟩
        subst e1
        go_wp2_with fail
        go_quiet (fail)
        go_wp2_with fail
        exact ⟨⟨k + 1, by omega, by go_num, take_eq HQ.out HX.out HY.out, by first | exact HC.out | exact Ch.drewN HC.out _ | exact Ch.drew HC.out⟩, by simp [intOf]; omega⟩
      · obtain rfl : k = n := by omega
        have hr : R = true := by
          rw [← HR.out, decide_eq_true]
          have := HQ.out
          rwa [List.take_of_length_le (by rw [L1.out]; omega), List.take_of_length_le (by rw [L2.out]; omega)] at this
        subst hr
        clear hlt hk
        go_wp2_with fail
        go_ret
        exact ⟨rfl, HC.out⟩
set_option maxRecDepth 100000 in
set_option maxHeartbeats 2000000 in
theorem SameWrites_any {w : World} {A B : Option Addr} {n m c d : Nat} {P Q : List (ByteArray × ByteArray)} (h1 : Wrs w A n P) (h2 : Wrs w B m Q) (hn : n ≤ 100000) (hm : m ≤ 100000) :
    Calls Tryd.prog 21 #[.slice A n c, .slice B m d] w fun e w' => e = .returned (.bool (decide (P = Q))) ∧ NewW w w' := by
  have H1 := Lib.hid h1
  have H2 := Lib.hid h2
  have L1 := Lib.hid h1.1
  have L2 := Lib.hid h2.1
  obtain ⟨R, hR⟩ : ∃ R, decide (P = Q) = R := ⟨_, rfl⟩
  rw [hR]
  have HR := Lib.hid hR
  clear h1 h2 hR
  by_cases hnm : n = m
  case neg =>
    have d1 : ((n : Int) != (m : Int)) = true := by simp; omega
    have d2 : (n != m) = true := by simpa using hnm
    have d3 : decide ((n : Int) = (m : Int)) = false := by simp; omega
    have d4 : ((n : Int) == (m : Int)) = false := by simp; omega
    have hr : R = false := by rw [← HR.out, decide_eq_false]; intro e; rw [e, L2.out] at L1; exact hnm L1.out.symm
    subst hr
    clear hnm
    go_enter Tryd.func21, Tryd.ntmps21
    go_wp2_with fail
    go_ret
    exact ⟨rfl, Ch.refl _ _⟩
  case pos =>
    subst hnm
    have hmI : (n : Int) ≤ 100000 := by omega
    clear hm
    go_enter Tryd.func21, Tryd.ntmps21
    go_wp2_with fail
    go_loopw [13] (fun i wr => ∃ k : Nat, k ≤ n ∧ i = .int .i64 k ∧ P.take k = Q.take k ∧ NewW w wr) (fun i _ => n - (intOf i).toNat)
    case atStart => exact ⟨0, by omega, rfl, rfl, Ch.refl _ _⟩
    case round =>
      obtain ⟨k, hk, rfl, heq, hC⟩ := hrel
      have HC := Lib.hid hC
      have HQ := Lib.hid heq
      clear hC heq
      by_cases hlt : k < n
      · obtain ⟨x, hx⟩ := some_of_lt (show k < P.length by rw [L1.out]; exact hlt)
        obtain ⟨y, hy⟩ := some_of_lt (show k < Q.length by rw [L2.out]; exact hlt)
        obtain ⟨b, off, rfl, x0, x1, x2⟩ := (H1.out.new_ HC.out).at_ hx
        obtain ⟨b', off', rfl, y0, y1, y2⟩ := (H2.out.new_ HC.out).at_ hy
        have k0 : (0 : Int) ≤ (k : Int) := by omega
        have k1 : (k : Int) < (n : Int) := by omega
        have HX := Lib.hid hx
        have HY := Lib.hid hy
        clear hx hy
        obtain ⟨v1, u1⟩ := x
        obtain ⟨v2, u2⟩ := y
        dsimp only at x0 x1 x2 y0 y1 y2
        by_cases e0 : v1 = v2
        case neg =>
          have hr : R = false := by rw [← HR.out, decide_eq_false]; exact ne_at HX.out HY.out (fun e => e0 (by injection e))
          have q1 : (v1.toList == v2.toList) = false := by simpa [str_eq] using e0
          have q2 : (v1.toList != v2.toList) = true := by simpa [str_eq] using e0
          subst hr
          clear e0
          go_wp2_with fail
          go_quiet (fail)
          go_wp2_with fail
          go_ret
          exact ⟨rfl, by first | exact HC.out | exact Ch.drewN HC.out _ | exact Ch.drew HC.out⟩
        subst e0
        by_cases e1 : u1 = u2
        case neg =>
          have hr : R = false := by rw [← HR.out, decide_eq_false]; exact ne_at HX.out HY.out (fun e => e1 (by injection e))
          have q1 : (u1.toList == u2.toList) = false := by simpa [str_eq] using e1
          have q2 : (u1.toList != u2.toList) = true := by simpa [str_eq] using e1
          subst hr
          clear e1
          go_wp2_with fail
          go_quiet (fail)
          go_wp2_with fail
          go_ret
          exact ⟨rfl, by first | exact HC.out | exact Ch.drewN HC.out _ | exact Ch.drew HC.out⟩
        subst e1
        go_wp2_with fail
        go_quiet (fail)
        go_wp2_with fail
        exact ⟨⟨k + 1, by omega, by go_num, take_eq HQ.out HX.out HY.out, by first | exact HC.out | exact Ch.drewN HC.out _ | exact Ch.drew HC.out⟩, by simp [intOf]; omega⟩
      · obtain rfl : k = n := by omega
        have hr : R = true := by
          rw [← HR.out, decide_eq_true]
          have := HQ.out
          rwa [List.take_of_length_le (by rw [L1.out]; omega), List.take_of_length_le (by rw [L2.out]; omega)] at this
        subst hr
        clear hlt hk
        go_wp2_with fail
        go_ret
        exact ⟨rfl, HC.out⟩
set_option maxRecDepth 100000 in
set_option maxHeartbeats 2000000 in
theorem SameInts_any {w : World} {A B : Option Addr} {n m c d : Nat} {P Q : List Int} (h1 : Nums w A n P) (h2 : Nums w B m Q) (hn : n ≤ 100000) (hm : m ≤ 100000) :
    Calls Tryd.prog 46 #[.slice A n c, .slice B m d] w fun e w' => e = .returned (.bool (decide (P = Q))) ∧ NewW w w' := by
  have H1 := Lib.hid h1
  have H2 := Lib.hid h2
  have L1 := Lib.hid h1.1
  have L2 := Lib.hid h2.1
  obtain ⟨R, hR⟩ : ∃ R, decide (P = Q) = R := ⟨_, rfl⟩
  rw [hR]
  have HR := Lib.hid hR
  clear h1 h2 hR
  by_cases hnm : n = m
  case neg =>
    have d1 : ((n : Int) != (m : Int)) = true := by simp; omega
    have d2 : (n != m) = true := by simpa using hnm
    have d3 : decide ((n : Int) = (m : Int)) = false := by simp; omega
    have d4 : ((n : Int) == (m : Int)) = false := by simp; omega
    have hr : R = false := by rw [← HR.out, decide_eq_false]; intro e; rw [e, L2.out] at L1; exact hnm L1.out.symm
    subst hr
    clear hnm
    go_enter Tryd.func46, Tryd.ntmps46
    go_wp2_with fail
    go_ret
    exact ⟨rfl, Ch.refl _ _⟩
  case pos =>
    subst hnm
    have hmI : (n : Int) ≤ 100000 := by omega
    clear hm
    go_enter Tryd.func46, Tryd.ntmps46
    go_wp2_with fail
    go_loopw [13] (fun i wr => ∃ k : Nat, k ≤ n ∧ i = .int .i64 k ∧ P.take k = Q.take k ∧ NewW w wr) (fun i _ => n - (intOf i).toNat)
    case atStart => exact ⟨0, by omega, rfl, rfl, Ch.refl _ _⟩
    case round =>
      obtain ⟨k, hk, rfl, heq, hC⟩ := hrel
      have HC := Lib.hid hC
      have HQ := Lib.hid heq
      clear hC heq
      by_cases hlt : k < n
      · obtain ⟨x, hx⟩ := some_of_lt (show k < P.length by rw [L1.out]; exact hlt)
        obtain ⟨y, hy⟩ := some_of_lt (show k < Q.length by rw [L2.out]; exact hlt)
        obtain ⟨b, off, rfl, x0⟩ := (H1.out.new_ HC.out).at_ hx
        obtain ⟨b', off', rfl, y0⟩ := (H2.out.new_ HC.out).at_ hy
        have k0 : (0 : Int) ≤ (k : Int) := by omega
        have k1 : (k : Int) < (n : Int) := by omega
        have HX := Lib.hid hx
        have HY := Lib.hid hy
        clear hx hy
        by_cases e0 : x = y
        case neg =>
          have hr : R = false := by rw [← HR.out, decide_eq_false]; exact ne_at HX.out HY.out (fun e => e0 (by exact e))
          have q1 : (x == y) = false := by simpa using e0
          have q2 : (x != y) = true := by simpa using e0
          subst hr
          clear e0
          go_wp2_with fail
          go_quiet (fail)
          go_wp2_with fail
          go_ret
          exact ⟨rfl, by first | exact HC.out | exact Ch.drewN HC.out _ | exact Ch.drew HC.out⟩
        subst e0
        go_wp2_with fail
        go_quiet (fail)
        go_wp2_with fail
        exact ⟨⟨k + 1, by omega, by go_num, take_eq HQ.out HX.out HY.out, by first | exact HC.out | exact Ch.drewN HC.out _ | exact Ch.drew HC.out⟩, by simp [intOf]; omega⟩
      · obtain rfl : k = n := by omega
        have hr : R = true := by
          rw [← HR.out, decide_eq_true]
          have := HQ.out
          rwa [List.take_of_length_le (by rw [L1.out]; omega), List.take_of_length_le (by rw [L2.out]; omega)] at this
        subst hr
        clear hlt hk
        go_wp2_with fail
        go_ret
        exact ⟨rfl, HC.out⟩
set_option maxRecDepth 100000 in
set_option maxHeartbeats 2000000 in
theorem SameOps_any {w : World} {A B : Option Addr} {n m c d : Nat} {P Q : List OpD} (h1 : Ops w A n P) (h2 : Ops w B m Q) (hn : n ≤ 100000) (hm : m ≤ 100000) :
    Calls Tryd.prog 36 #[.slice A n c, .slice B m d] w fun e w' => e = .returned (.bool (decide (P = Q))) ∧ NewW w w' := by
  have H1 := Lib.hid h1
  have H2 := Lib.hid h2
  have L1 := Lib.hid h1.1
  have L2 := Lib.hid h2.1
  obtain ⟨R, hR⟩ : ∃ R, decide (P = Q) = R := ⟨_, rfl⟩
  rw [hR]
  have HR := Lib.hid hR
  clear h1 h2 hR
  by_cases hnm : n = m
  case neg =>
    have d1 : ((n : Int) != (m : Int)) = true := by simp; omega
    have d2 : (n != m) = true := by simpa using hnm
    have d3 : decide ((n : Int) = (m : Int)) = false := by simp; omega
    have d4 : ((n : Int) == (m : Int)) = false := by simp; omega
    have hr : R = false := by rw [← HR.out, decide_eq_false]; intro e; rw [e, L2.out] at L1; exact hnm L1.out.symm
    subst hr
    clear hnm
    go_enter Tryd.func36, Tryd.ntmps36
    go_wp2_with fail
    go_ret
    exact ⟨rfl, Ch.refl _ _⟩
  case pos =>
    subst hnm
    have hmI : (n : Int) ≤ 100000 := by omega
    clear hm
    go_enter Tryd.func36, Tryd.ntmps36
    go_wp2_with fail
    go_loopw [13] (fun i wr => ∃ k : Nat, k ≤ n ∧ i = .int .i64 k ∧ P.take k = Q.take k ∧ NewW w wr) (fun i _ => n - (intOf i).toNat)
    case atStart => exact ⟨0, by omega, rfl, rfl, Ch.refl _ _⟩
    case round =>
      obtain ⟨k, hk, rfl, heq, hC⟩ := hrel
      have HC := Lib.hid hC
      have HQ := Lib.hid heq
      clear hC heq
      by_cases hlt : k < n
      · obtain ⟨x, hx⟩ := some_of_lt (show k < P.length by rw [L1.out]; exact hlt)
        obtain ⟨y, hy⟩ := some_of_lt (show k < Q.length by rw [L2.out]; exact hlt)
        obtain ⟨b, off, rfl, x0, x1, x2, x3⟩ := (H1.out.new_ HC.out).at_ hx
        obtain ⟨b', off', rfl, y0, y1, y2, y3⟩ := (H2.out.new_ HC.out).at_ hy
        have k0 : (0 : Int) ≤ (k : Int) := by omega
        have k1 : (k : Int) < (n : Int) := by omega
        have HX := Lib.hid hx
        have HY := Lib.hid hy
        clear hx hy
        obtain ⟨K1, key1, val1, N1⟩ := x
        obtain ⟨K2, key2, val2, N2⟩ := y
        dsimp only at x0 x1 x2 x3 y0 y1 y2 y3
        by_cases e0 : K1 = K2
        case neg =>
          have hr : R = false := by rw [← HR.out, decide_eq_false]; exact ne_at HX.out HY.out (fun e => e0 (by injection e))
          have q1 : (K1 == K2) = false := by simpa using e0
          have q2 : (K1 != K2) = true := by simpa using e0
          subst hr
          clear e0
          go_wp2_with fail
          go_quiet (fail)
          go_wp2_with fail
          go_ret
          exact ⟨rfl, by first | exact HC.out | exact Ch.drewN HC.out _ | exact Ch.drew HC.out⟩
        subst e0
        by_cases e1 : key1 = key2
        case neg =>
          have hr : R = false := by rw [← HR.out, decide_eq_false]; exact ne_at HX.out HY.out (fun e => e1 (by injection e))
          have q1 : (key1.toList == key2.toList) = false := by simpa [str_eq] using e1
          have q2 : (key1.toList != key2.toList) = true := by simpa [str_eq] using e1
          subst hr
          clear e1
          go_wp2_with fail
          go_quiet (fail)
          go_wp2_with fail
          go_ret
          exact ⟨rfl, by first | exact HC.out | exact Ch.drewN HC.out _ | exact Ch.drew HC.out⟩
        subst e1
        by_cases e2 : val1 = val2
        case neg =>
          have hr : R = false := by rw [← HR.out, decide_eq_false]; exact ne_at HX.out HY.out (fun e => e2 (by injection e))
          have q1 : (val1.toList == val2.toList) = false := by simpa [str_eq] using e2
          have q2 : (val1.toList != val2.toList) = true := by simpa [str_eq] using e2
          subst hr
          clear e2
          go_wp2_with fail
          go_quiet (fail)
          go_wp2_with fail
          go_ret
          exact ⟨rfl, by first | exact HC.out | exact Ch.drewN HC.out _ | exact Ch.drew HC.out⟩
        subst e2
        by_cases e3 : N1 = N2
        case neg =>
          have hr : R = false := by rw [← HR.out, decide_eq_false]; exact ne_at HX.out HY.out (fun e => e3 (by injection e))
          have q1 : (N1 == N2) = false := by simpa using e3
          have q2 : (N1 != N2) = true := by simpa using e3
          subst hr
          clear e3
          go_wp2_with fail
          go_quiet (fail)
          go_wp2_with fail
          go_ret
          exact ⟨rfl, by first | exact HC.out | exact Ch.drewN HC.out _ | exact Ch.drew HC.out⟩
        subst e3
        go_wp2_with fail
        go_quiet (fail)
        go_wp2_with fail
        exact ⟨⟨k + 1, by omega, by go_num, take_eq HQ.out HX.out HY.out, by first | exact HC.out | exact Ch.drewN HC.out _ | exact Ch.drew HC.out⟩, by simp [intOf]; omega⟩
      · obtain rfl : k = n := by omega
        have hr : R = true := by
          rw [← HR.out, decide_eq_true]
          have := HQ.out
          rwa [List.take_of_length_le (by rw [L1.out]; omega), List.take_of_length_le (by rw [L2.out]; omega)] at this
        subst hr
        clear hlt hk
        go_wp2_with fail
        go_ret
        exact ⟨rfl, HC.out⟩
end Go.Proofs.YtbggadhaaphmcaaDoor
