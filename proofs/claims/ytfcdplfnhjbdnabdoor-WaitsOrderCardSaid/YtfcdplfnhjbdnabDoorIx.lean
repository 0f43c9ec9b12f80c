/- Where a node is; which of two is elder; the stamp. -/
import Derived.Test.YtfcdplfnhjbdnabDoorGm
namespace Go.Proofs.YtfcdplfnhjbdnabDoor
open Go.RowKit
set_option linter.unusedVariables false

/-- The first place at which p holds, or -1. -/
def firstIdx (p : Nd → Bool) (W : List Nd) : Int := match W.findIdx? p with
  | some i => (i : Int)
  | none => -1
theorem firstIdx_at {p : Nd → Bool} {W : List Nd} {k : Nat} {x : Nd} (hx : W[k]? = some x) (hp : p x = true) (hb : ∀ (j : Nat) (y : Nd), j < k → W[j]? = some y → p y = false) : firstIdx p W = k := by
  unfold firstIdx
  have : W.findIdx? p = some k := by
    rw [List.findIdx?_eq_some_iff_getElem]
    have hk := lt_of_some hx
    refine ⟨hk, ?_, fun j hj => ?_⟩
    · rw [List.getElem?_eq_getElem hk] at hx; injection hx with hx; rw [hx]; exact hp
    · have := hb j _ hj (List.getElem?_eq_getElem (by omega))
      simp [this]
  rw [this]
theorem firstIdx_none {p : Nd → Bool} {W : List Nd} (hb : ∀ (j : Nat) (y : Nd), j < W.length → W[j]? = some y → p y = false) : firstIdx p W = -1 := by
  unfold firstIdx
  have : W.findIdx? p = none := by
    rw [List.findIdx?_eq_none_iff]
    intro x hx
    obtain ⟨j, hj, rfl⟩ := List.mem_iff_getElem.1 hx
    exact hb j _ hj (List.getElem?_eq_getElem hj)
  rw [this]
def idxOf (l : List Nd) (id : Int) : Int := firstIdx (fun x => x.id == id) l
theorem idx_cases (l : List Nd) (id : Int) : (idxOf l id = -1 ∧ ∀ x : Nd, x ∈ l → x.id ≠ id) ∨ ∃ (i : Nat) (x : Nd), idxOf l id = i ∧ l[i]? = some x ∧ x.id = id := by
  unfold idxOf firstIdx
  rcases h : l.findIdx? (fun x => x.id == id) with _ | i
  · refine .inl ⟨by rw [h], fun x hx => ?_⟩
    have := List.findIdx?_eq_none_iff.1 h x hx
    simpa using this
  · obtain ⟨hi, hp, _⟩ := List.findIdx?_eq_some_iff_getElem.1 h
    exact .inr ⟨i, l[i], by rw [h], List.getElem?_eq_getElem hi, by simpa using hp⟩
theorem same44 (x1 x2 : Int) (x3 : Nat) (id : Int) (ib : Nat) (w : World) (hc : w.cell? ⟨ib, 0, none⟩ = some (.int .i64 id)) :
    Calls Tryd.prog 44 #[.agg #[.int .i64 x1, .int .i64 x2, .int .u64 x3], .pointer (some ⟨ib, 0, none⟩)] w fun e w' => e = .returned (.bool (x1 == id)) ∧ NewW w w' := by
  have hlt : ib < w.heap.size := block_lt_of_cell hc
  have hc' : (w.alloc (.cells #[.int .i64 x1, .int .i64 x2, .int .u64 x3] 57)).cell? ⟨ib, 0, none⟩ = some (.int .i64 id) := by rw [World.cell?_alloc_lt _ _ _ hlt]; exact hc
  have HN := Lib.hid (show NewW w (w.alloc (.cells #[.int .i64 x1, .int .i64 x2, .int .u64 x3] 57)) from (Ch.refl _ _).alloc _)
  clear hlt
  go_enter Tryd.func44, Tryd.ntmps44
  go_wp2
  go_ret
  exact ⟨rfl, HN.out⟩
set_option maxRecDepth 100000 in
theorem index_any {w : World} {B b : Nat} {l : List Nd} {v : Value} (h : GM w B b l v) (id : Int) (ib : Nat) (hc : w.cell? ⟨ib, 0, none⟩ = some (.int .i64 id)) :
    Calls Tryd.prog 43 #[v, .func (.func 44) #[] #[.pointer (some ⟨ib, 0, none⟩)]] w fun e w' => e = .returned (.int .i64 (idxOf l id)) ∧ NewW w w' := by
  obtain ⟨A, q, rfl⟩ := own_form h.own
  obtain ⟨R, hR⟩ : ∃ R, idxOf l id = R := ⟨_, rfl⟩
  rw [hR]
  have HR := Lib.hid hR
  clear hR
  have HH := Lib.hid (And.intro h hc)
  have h64 := h.ok.len
  clear h hc
  go_enter Tryd.func43, Tryd.ntmps43
  go_wp2_with fail
  go_loopw [8] (fun i w' => ∃ k : Nat, k ≤ l.length ∧ i = .int .i64 k ∧ (∀ (j : Nat) (y : Nd), j < k → l[j]? = some y → (fun x : Nd => x.id == id) y = false) ∧ NewW w w') (fun i _ => l.length - (intOf i).toNat)
  case atStart => exact ⟨0, by omega, rfl, fun j y hj => absurd hj (by omega), Ch.refl _ _⟩
  case round =>
    obtain ⟨k, hk, rfl, hpre, hC⟩ := hrel
    by_cases hlt : k < l.length
    · obtain ⟨x, hx⟩ := some_of_lt hlt
      obtain ⟨h, hc⟩ := HH.out
      obtain ⟨g, cap, hv, r0, r1, r2⟩ := h.at_ hx
      injection hv with hA hn hq
      subst hA
      have e0 := new_cell hC r0
      have e1 := new_cell hC r1
      have e2 := new_cell hC r2
      have hcl := Lib.hid (same44 x.id x.st x.to id ib wr (new_cell hC hc))
      have HPRE := Lib.hid hpre
      have HX := Lib.hid hx
      have HC := Lib.hid hC
      clear r0 r1 r2 hpre hx hC h hc hq hn
      rcases hpx : (fun x : Nd => x.id == id) x with _ | _
      · rw [show (x.id == id) = false from hpx] at hcl
        have HPX := Lib.hid hpx
        clear hpx
        go_wp2_with (go_at_call 44; (with_reducible refine (hcl.out).mono ?_); rintro e w2 ⟨rfl, hN⟩; have HN := Lib.hid hN; clear hN)
        refine ⟨⟨k + 1, by omega, by go_num, fun j y hj hy => ?_, HC.out.trans' HN.out⟩, by simp [intOf]; omega⟩
        by_cases hjk : j = k
        · subst hjk
          have := HX.out.symm.trans hy
          injection this with this
          rw [← this]; exact HPX.out
        · exact HPRE.out j y (by omega) hy
      · rw [show (x.id == id) = true from hpx] at hcl
        have HRK := Lib.hid (HR.out.symm.trans (firstIdx_at HX.out hpx HPRE.out))
        clear hpx
        go_wp2_with (go_at_call 44; (with_reducible refine (hcl.out).mono ?_); rintro e w2 ⟨rfl, hN⟩; have HN := Lib.hid hN; clear hN)
        go_ret
        exact ⟨by rw [HRK.out]; rfl, HC.out.trans' HN.out⟩
    · obtain rfl : k = l.length := by omega
      have HRK := Lib.hid (HR.out.symm.trans (firstIdx_none hpre))
      have HC := Lib.hid hC
      clear hlt hk hpre hC
      go_wp2_with fail
      go_ret
      exact ⟨by rw [HRK.out]; rfl, HC.out⟩
theorem find_any {w : World} {B b : Nat} {l : List Nd} {v : Value} (h : GM w B b l v) (id : Int) :
    Calls Tryd.prog 34 #[.pointer (some ⟨b, 0, none⟩), .int .i64 id] w fun e w' => e = .returned (.int .i64 (idxOf l id)) ∧ NewW w w' := by
  have hC : NewW w (w.alloc (.cells #[.int .i64 id] 3)) := (Ch.refl _ w).alloc _
  have c0 := (h.new_ hC).c0
  have HI := Lib.hid (index_any (h.new_ hC) id w.heap.size (by rw [(Blk.new w 3 #[.int .i64 id]).cell]; rfl))
  have HC := Lib.hid hC
  clear hC h
  go_enter Tryd.func34, Tryd.ntmps34
  go_wp2_with (go_at_call 43; (with_reducible refine (HI.out).mono ?_); rintro e w2 ⟨rfl, hN⟩; have HN := Lib.hid hN; clear hN)
  go_ret
  exact ⟨rfl, HC.out.trans' HN.out⟩
theorem find_nil (id : Int) (w : World) : Calls Tryd.prog 34 #[.pointer none, .int .i64 id] w fun e w' => e = .returned (.int .i64 (-1)) ∧ NewW w w' := by
  have HC := Lib.hid (show NewW w (w.alloc (.cells #[.int .i64 id] 3)) from (Ch.refl _ w).alloc _)
  go_enter Tryd.func34, Tryd.ntmps34
  go_wp2_with fail
  go_ret
  exact ⟨rfl, HC.out⟩
/-! ### Which one is elder -/
def bef (a b : Nd) : Bool := decide (a.st < b.st) || ((a.st == b.st) && decide (a.id < b.id))
theorem before_any (a b : Nd) (w : World) : Calls Tryd.prog 35 #[.agg #[.int .i64 a.id, .int .i64 a.st, .int .u64 a.to], .agg #[.int .i64 b.id, .int .i64 b.st, .int .u64 b.to]] w fun e w' => e = .returned (.bool (bef a b)) ∧ NewW w w' := by
  obtain ⟨a1, a2, a3⟩ := a
  obtain ⟨b1, b2, b3⟩ := b
  have HN := Lib.hid (show NewW w ((w.alloc (.cells #[.int .i64 a1, .int .i64 a2, .int .u64 a3] 57)).alloc (.cells #[.int .i64 b1, .int .i64 b2, .int .u64 b3] 57)) from ((Ch.refl _ w).alloc _).alloc _)
  by_cases h1 : a2 < b2
  · have d1 : decide (a2 < b2) = true := decide_eq_true h1
    have HB := Lib.hid (show bef ⟨a1, a2, a3⟩ ⟨b1, b2, b3⟩ = true from by simp [bef, h1])
    clear h1
    go_enter Tryd.func35, Tryd.ntmps35
    go_wp2_with fail
    go_ret
    exact ⟨by rw [HB.out]; rfl, HN.out⟩
  · have d1 : decide (a2 < b2) = false := decide_eq_false h1
    by_cases h2 : a2 = b2
    · have d2 : (a2 == b2) = true := by simpa using h2
      have HB := Lib.hid (show bef ⟨a1, a2, a3⟩ ⟨b1, b2, b3⟩ = decide (a1 < b1) from by simp [bef, h2])
      clear h1 h2
      go_enter Tryd.func35, Tryd.ntmps35
      go_wp2_with fail
      go_ret
      exact ⟨by rw [HB.out]; rfl, HN.out⟩
    · have d2 : (a2 == b2) = false := by simpa using h2
      have HB := Lib.hid (show bef ⟨a1, a2, a3⟩ ⟨b1, b2, b3⟩ = false from by simp [bef, h1, h2])
      clear h1 h2
      go_enter Tryd.func35, Tryd.ntmps35
      go_wp2_with fail
      go_ret
      exact ⟨by rw [HB.out]; rfl, HN.out⟩
end Go.Proofs.YtfcdplfnhjbdnabDoor
