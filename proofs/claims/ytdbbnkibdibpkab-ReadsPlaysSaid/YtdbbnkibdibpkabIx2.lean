/- slices.IndexFunc and slices.ContainsFunc over those that wait. -/
import Derived.Test.YtdbbnkibdibpkabIdx
namespace Go.Proofs.Ytdbbnkibdibpkab
open Go.RowKit
set_option linter.unusedVariables false

set_option maxRecDepth 100000 in
theorem index25 (B b : Nat) (s : RS) (W : List Rdg) (v : Value) (w : World) (h : Rd w B b s W v) (id : Int) (ib : Nat) (hc : w.cell? ⟨ib, 0, none⟩ = some (.int .i64 id)) :
    Calls Try.prog 26 #[v, .func (.func 25) #[] #[.pointer (some ⟨ib, 0, none⟩)]] w fun e w' => e = .returned (.int .i64 (firstIdx (fun x => x.1 == id) W)) ∧ NewW w w' := by
  obtain ⟨A, q, rfl⟩ := own_form h.own
  obtain ⟨R, hR⟩ : ∃ R, firstIdx (fun x => x.1 == id) W = R := ⟨_, rfl⟩
  rw [hR]
  have HR := Lib.hid hR
  clear hR
  have HH := Lib.hid (And.intro h (show True ∧ w.cell? ⟨ib, 0, none⟩ = some (.int .i64 id) from ⟨trivial, hc⟩))
  have h64 := h.len
  clear h hc
  go_enter Try.func26, Try.ntmps26
  go_wp2_with fail
  go_loopw [8] (fun i w' => ∃ k : Nat, k ≤ W.length ∧ i = .int .i64 k ∧ (∀ j y, j < k → W[j]? = some y → (fun x => x.1 == id) y = false) ∧ NewW w w') (fun i _ => W.length - (intOf i).toNat)
  case atStart => exact ⟨0, by omega, rfl, fun j y hj => absurd hj (by omega), Ch.refl _ _⟩
  case round =>
    obtain ⟨k, hk, rfl, hpre, hC⟩ := hrel
    by_cases hlt : k < W.length
    · obtain ⟨x, hx⟩ := some_of_lt hlt
      obtain ⟨h, _, hc⟩ := HH.out
      obtain ⟨g, cap, hv, hg, hgl⟩ := h.own.form (by omega)
      injection hv with hA hn hq
      subst hA
      obtain ⟨r0, r1, r2⟩ := row_cell h hx
      have e0 := (ch_cell hC (block_lt_of_cell r0)).trans r0
      have e1 := (ch_cell hC (block_lt_of_cell r1)).trans r1
      have e2 := (ch_cell hC (block_lt_of_cell r2)).trans r2
      have hcl := Lib.hid (same25 x.1 x.2.1 x.2.2 id ib wr ((ch_cell hC (block_lt_of_cell hc)).trans hc))
      have HPRE := Lib.hid hpre
      have HX := Lib.hid hx
      have HC := Lib.hid hC
      clear r0 r1 r2 hpre hx hC h hc hq hn
      rcases hpx : (fun x => x.1 == id) x with _ | _
      · rw [show (x.1 == id) = false from hpx] at hcl
        have HPX := Lib.hid hpx
        clear hpx
        go_wp2_with (go_at_call 25; (with_reducible refine (hcl.out).mono ?_); rintro e w2 ⟨rfl, hN⟩; have HN := Lib.hid hN; clear hN)
        refine ⟨⟨k + 1, by omega, by go_num, fun j y hj hy => ?_, HC.out.trans' HN.out⟩, by simp [intOf]; omega⟩
        by_cases hjk : j = k
        · subst hjk
          have := HX.out.symm.trans hy
          injection this with this
          rw [← this]; exact HPX.out
        · exact HPRE.out j y (by omega) hy
      · rw [show (x.1 == id) = true from hpx] at hcl
        have HRK := Lib.hid (HR.out.symm.trans (firstIdx_at HX.out hpx HPRE.out))
        clear hpx
        go_wp2_with (go_at_call 25; (with_reducible refine (hcl.out).mono ?_); rintro e w2 ⟨rfl, hN⟩; have HN := Lib.hid hN; clear hN)
        go_ret
        exact ⟨by rw [HRK.out]; rfl, HC.out.trans' HN.out⟩
    · obtain rfl : k = W.length := by omega
      have HRK := Lib.hid (HR.out.symm.trans (firstIdx_none hpre))
      have HC := Lib.hid hC
      clear hlt hk hpre hC
      go_wp2_with fail
      go_ret
      exact ⟨by rw [HRK.out]; rfl, HC.out⟩
set_option maxRecDepth 100000 in
theorem index27 (B b : Nat) (s : RS) (W : List Rdg) (v : Value) (w : World) (h : Rd w B b s W v) (S : Int) (sb pb : Nat) (hs : w.cell? ⟨sb, 0, none⟩ = some (.int .i64 S)) (hp : w.cell? ⟨pb, 0, none⟩ = some (.pointer (some ⟨b, 0, none⟩))) :
    Calls Try.prog 26 #[v, .func (.func 27) #[] #[.pointer (some ⟨sb, 0, none⟩), .pointer (some ⟨pb, 0, none⟩)]] w fun e w' => e = .returned (.int .i64 (firstIdx (blocked S s.applied) W)) ∧ NewW w w' := by
  obtain ⟨A, q, rfl⟩ := own_form h.own
  obtain ⟨R, hR⟩ : ∃ R, firstIdx (blocked S s.applied) W = R := ⟨_, rfl⟩
  rw [hR]
  have HR := Lib.hid hR
  clear hR
  have HH := Lib.hid (And.intro h (show True ∧ w.cell? ⟨sb, 0, none⟩ = some (.int .i64 S) ∧ w.cell? ⟨pb, 0, none⟩ = some (.pointer (some ⟨b, 0, none⟩)) from ⟨trivial, hs, hp⟩))
  have h64 := h.len
  clear h hs hp
  go_enter Try.func26, Try.ntmps26
  go_wp2_with fail
  go_loopw [8] (fun i w' => ∃ k : Nat, k ≤ W.length ∧ i = .int .i64 k ∧ (∀ j y, j < k → W[j]? = some y → (blocked S s.applied) y = false) ∧ NewW w w') (fun i _ => W.length - (intOf i).toNat)
  case atStart => exact ⟨0, by omega, rfl, fun j y hj => absurd hj (by omega), Ch.refl _ _⟩
  case round =>
    obtain ⟨k, hk, rfl, hpre, hC⟩ := hrel
    by_cases hlt : k < W.length
    · obtain ⟨x, hx⟩ := some_of_lt hlt
      obtain ⟨h, _, hs, hp⟩ := HH.out
      obtain ⟨g, cap, hv, hg, hgl⟩ := h.own.form (by omega)
      injection hv with hA hn hq
      subst hA
      obtain ⟨r0, r1, r2⟩ := row_cell h hx
      have e0 := (ch_cell hC (block_lt_of_cell r0)).trans r0
      have e1 := (ch_cell hC (block_lt_of_cell r1)).trans r1
      have e2 := (ch_cell hC (block_lt_of_cell r2)).trans r2
      have hcl := Lib.hid (blocked27 x.1 x.2.1 x.2.2 S s.applied sb pb b wr ((ch_cell hC (block_lt_of_cell hs)).trans hs) ((ch_cell hC (block_lt_of_cell hp)).trans hp) ((ch_cell hC (Blk.lt h.blk)).trans h.c11))
      have HPRE := Lib.hid hpre
      have HX := Lib.hid hx
      have HC := Lib.hid hC
      clear r0 r1 r2 hpre hx hC h hs hp hq hn
      rcases hpx : (blocked S s.applied) x with _ | _
      · rw [show (blocked S s.applied (x.1, x.2.1, x.2.2)) = false from hpx] at hcl
        have HPX := Lib.hid hpx
        clear hpx
        go_wp2_with (go_at_call 27; (with_reducible refine (hcl.out).mono ?_); rintro e w2 ⟨rfl, hN⟩; have HN := Lib.hid hN; clear hN)
        refine ⟨⟨k + 1, by omega, by go_num, fun j y hj hy => ?_, HC.out.trans' HN.out⟩, by simp [intOf]; omega⟩
        by_cases hjk : j = k
        · subst hjk
          have := HX.out.symm.trans hy
          injection this with this
          rw [← this]; exact HPX.out
        · exact HPRE.out j y (by omega) hy
      · rw [show (blocked S s.applied (x.1, x.2.1, x.2.2)) = true from hpx] at hcl
        have HRK := Lib.hid (HR.out.symm.trans (firstIdx_at HX.out hpx HPRE.out))
        clear hpx
        go_wp2_with (go_at_call 27; (with_reducible refine (hcl.out).mono ?_); rintro e w2 ⟨rfl, hN⟩; have HN := Lib.hid hN; clear hN)
        go_ret
        exact ⟨by rw [HRK.out]; rfl, HC.out.trans' HN.out⟩
    · obtain rfl : k = W.length := by omega
      have HRK := Lib.hid (HR.out.symm.trans (firstIdx_none hpre))
      have HC := Lib.hid hC
      clear hlt hk hpre hC
      go_wp2_with fail
      go_ret
      exact ⟨by rw [HRK.out]; rfl, HC.out⟩
theorem contains_any (B b : Nat) (s : RS) (W : List Rdg) (v : Value) (w : World) (h : Rd w B b s W v) (id : Int) (ib : Nat) (hc : w.cell? ⟨ib, 0, none⟩ = some (.int .i64 id)) :
    Calls Try.prog 24 #[v, .func (.func 25) #[] #[.pointer (some ⟨ib, 0, none⟩)]] w fun e w' => e = .returned (.bool (decide (0 ≤ firstIdx (fun x => x.1 == id) W))) ∧ NewW w w' := by
  have hi := index25 B b s W v w h id ib hc
  generalize firstIdx (fun x => x.1 == id) W = R at hi ⊢
  have hi := Lib.hid hi
  clear h hc
  go_enter Try.func24, Try.ntmps24
  go_wp2_with (go_at_call 26; (with_reducible refine (hi.out).mono ?_); rintro e w2 ⟨rfl, hN⟩; have HN := Lib.hid hN; clear hN)
  go_ret
  exact ⟨rfl, HN.out⟩
end Go.Proofs.Ytdbbnkibdibpkab
