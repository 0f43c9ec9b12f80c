/- The reference's graph: rows of nodes and edges: Stamp, Has, Elder. -/
import Derived.Test.YtfcdplfnhjbdnabDoorYw
namespace Go.Proofs.YtfcdplfnhjbdnabDoor
open Go.RowKit Go.Sort
set_option linter.unusedVariables false

theorem pair_cells {w w' : World} {B n c : Nat} {e : TypeId} {A : Option Addr} {es : List (Int × Int)} (ho : w.ownsRow B e 2 (.slice A n c) n (flatE es)) (hn : es.length = n) (hc : NewW w w') {k : Nat} {x : Int × Int} (he : es[k]? = some x) :
    ∃ g, A = some ⟨g, 0, none⟩ ∧ w'.cell? ⟨g, k * 2, none⟩ = some (.int .i64 x.1) ∧ w'.cell? ⟨g, k * 2 + 1, none⟩ = some (.int .i64 x.2) := by
  obtain ⟨g, q, hv, _, _⟩ := ho.form (by have := lt_of_some he; omega)
  injection hv with hv _ _
  subst hv
  obtain ⟨r0, r1⟩ := flatE_get es he
  have a := ho.cells (g := g) rfl _ _ r0
  have b := ho.cells (g := g) rfl _ _ r1
  rw [add_mk, Nat.zero_add] at a b
  exact ⟨g, rfl, new_cell hc a, new_cell hc b⟩
/-- The rows' memory. -/
structure RM (w : World) (B rb : Nat) (N E : List (Int × Int)) (vn ve : Value) : Prop where
  blk : Blk w rb 47 #[vn, ve]
  on : w.ownsRow B 69 2 vn N.length (flatE N)
  oe : w.ownsRow B 41 2 ve E.length (flatE E)
  bB : B ≤ rb
  nl : N.length ≤ 64
  el : E.length ≤ 1000
section
variable {w w' : World} {B rb : Nat} {N E : List (Int × Int)} {vn ve : Value}
theorem RM.ch {S : Nat → Prop} (h : RM w B rb N E vn ve) (hc : Ch S w w') (h1 : ¬ S rb) (h2 : ∀ k, vn.ownBlock = some k → ¬ S k) (h3 : ∀ k, ve.ownBlock = some k → ¬ S k) : RM w' B rb N E vn ve :=
  ⟨h.blk.ch hc h1, own_ch h.on hc h2, own_ch h.oe hc h3, h.bB, h.nl, h.el⟩
theorem RM.new_ (h : RM w B rb N E vn ve) (hc : NewW w w') : RM w' B rb N E vn ve := h.ch hc (fun h => h) (fun _ _ h => h) (fun _ _ h => h)
theorem RM.c0 (h : RM w B rb N E vn ve) : w.cell? ⟨rb, 0, none⟩ = some vn := by rw [h.blk.cell]; rfl
theorem RM.c1 (h : RM w B rb N E vn ve) : w.cell? ⟨rb, 1, none⟩ = some ve := by rw [h.blk.cell]; rfl
end
/-- Is there such a node; its stamp. -/
def stB (N : List (Int × Int)) (id : Int) : Bool := N.any (fun p => p.1 == id)
def stS (N : List (Int × Int)) (id : Int) : Int := ((N.find? (fun p => p.1 == id)).map Prod.snd).getD 0
theorem st_at {N : List (Int × Int)} {id s : Int} {k : Nat} (hx : N[k]? = some (id, s)) (hb : ∀ (j : Nat) (p : Int × Int), j < k → N[j]? = some p → p.1 ≠ id) : stB N id = true ∧ stS N id = s := by
  induction N generalizing k with
  | nil => simp at hx
  | cons p r ih =>
    unfold stB stS at *
    cases k with
    | zero =>
      simp at hx
      subst hx
      simp
    | succ k =>
      have h0 := hb 0 p (by omega) rfl
      simp at hx
      have := ih hx (fun j q hj hq => hb (j + 1) q (by omega) (by simpa using hq))
      have e : (p.1 == id) = false := by simpa using h0
      rw [List.any_cons, List.find?_cons, e]
      simpa using this
theorem st_none {N : List (Int × Int)} {id : Int} (hb : ∀ (j : Nat) (p : Int × Int), j < N.length → N[j]? = some p → p.1 ≠ id) : stB N id = false ∧ stS N id = 0 := by
  have : ∀ p, p ∈ N → (p.1 == id) = false := fun p hp => by
    obtain ⟨j, hj⟩ := List.mem_iff_getElem?.1 hp
    have := hb j p (lt_of_some hj) hj
    simpa using this
  unfold stB stS
  rw [List.find?_eq_none.2 (fun p hp => by rw [this p hp]; simp)]
  refine ⟨?_, rfl⟩
  rw [List.any_eq_false]
  exact fun p hp => by rw [this p hp]; simp
section
variable {w : World} {B rb : Nat} {N E : List (Int × Int)} {vn ve : Value}
set_option maxHeartbeats 1000000 in
theorem stamp_r (h : RM w B rb N E vn ve) (id : Int) :
    Calls Tryd.prog 25 #[.pointer (some ⟨rb, 0, none⟩), .int .i64 id] w fun e w' => e = .returned (.tuple #[.int .i64 (stS N id), .bool (stB N id)]) ∧ NewW w w' := by
  obtain ⟨A, q, rfl⟩ := own_form h.on
  have c0 := h.c0
  have h64 := h.nl
  have HH := Lib.hid h
  clear h
  generalize hn : N.length = n at *
  have HN := Lib.hid hn
  clear hn
  have hmax : (n : Int) ≤ 64 := by omega
  go_enter Tryd.func25, Tryd.ntmps25
  go_wp2_with fail
  go_loopw [13] (fun i w' => ∃ k : Nat, k ≤ n ∧ i = .int .i64 k ∧ (∀ (j : Nat) (p : Int × Int), j < k → N[j]? = some p → p.1 ≠ id) ∧ NewW w w') (fun i _ => n - (intOf i).toNat)
  case atStart => exact ⟨0, by omega, rfl, fun j p hj => absurd hj (by omega), Ch.refl _ _⟩
  case round =>
    obtain ⟨k, hk, rfl, hno, hC⟩ := hrel
    have HC := Lib.hid hC
    by_cases hlt : k < n
    · obtain ⟨⟨a, s⟩, hx⟩ := some_of_lt (L := N) (i := k) (by rw [HN.out]; exact hlt)
      obtain ⟨g, rfl, x0, x1⟩ := pair_cells (by have := (HH.out.new_ hC).on; rw [HN.out] at this; exact this) HN.out (Ch.refl _ _) hx
      dsimp only at x0 x1
      by_cases e : a = id
      · subst e
        have HS := Lib.hid (st_at hx hno)
        clear hC hx hno
        go_wp2_with fail
        go_ret2
        exact ⟨by rw [HS.out.1, HS.out.2]; rfl, HC.out.alloc _⟩
      · have d : (a == id) = false := by simpa using e
        have d' : decide (a = id) = false := by simpa using e
        have HNO := Lib.hid (show ∀ (j : Nat) (p : Int × Int), j < k + 1 → N[j]? = some p → p.1 ≠ id from fun j p hj hp => by
          by_cases ej : j = k
          · subst ej
            rw [hx] at hp
            injection hp with hp
            subst hp
            exact e
          · exact hno j p (by omega) hp)
        clear hC hx hno e
        go_wp2_with fail
        exact ⟨⟨k + 1, by omega, by go_num, HNO.out, HC.out.alloc _⟩, by simp [intOf]; omega⟩
    · obtain rfl : k = n := by omega
      have HS := Lib.hid (st_none (N := N) (id := id) (fun j p hj hp => hno j p (by rw [HN.out] at hj; exact hj) hp))
      clear hno hC hlt hk
      go_wp2_with fail
      go_ret2
      exact ⟨by rw [HS.out.1, HS.out.2]; rfl, HC.out⟩
theorem hasB_step {E : List (Int × Int)} {a b : Int} {k : Nat} (hx : E[k]? = some (a, b)) : decide ((a, b) ∈ E) = true := by simpa using mem_of_some hx
set_option maxHeartbeats 1000000 in
theorem has_r (h : RM w B rb N E vn ve) (x y : Int) :
    Calls Tryd.prog 41 #[.pointer (some ⟨rb, 0, none⟩), .int .i64 x, .int .i64 y] w fun e w' => e = .returned (.bool (decide ((x, y) ∈ E))) ∧ NewW w w' := by
  obtain ⟨A, q, rfl⟩ := own_form h.oe
  have c0 := h.c1
  have h64 := h.el
  have HH := Lib.hid h
  clear h
  generalize hn : E.length = n at *
  have HN := Lib.hid hn
  clear hn
  have hmax : (n : Int) ≤ 1000 := by omega
  go_enter Tryd.func41, Tryd.ntmps41
  go_wp2_with fail
  go_loopw [14] (fun i w' => ∃ k : Nat, k ≤ n ∧ i = .int .i64 k ∧ (∀ j, j < k → E[j]? ≠ some (x, y)) ∧ NewW w w') (fun i _ => n - (intOf i).toNat)
  case atStart => exact ⟨0, by omega, rfl, fun j hj => absurd hj (by omega), Ch.refl _ _⟩
  case round =>
    obtain ⟨k, hk, rfl, hno, hC⟩ := hrel
    have HC := Lib.hid hC
    by_cases hlt : k < n
    · obtain ⟨⟨a, b⟩, hx⟩ := some_of_lt (L := E) (i := k) (by rw [HN.out]; exact hlt)
      obtain ⟨g, rfl, x0, x1⟩ := pair_cells (by have := (HH.out.new_ hC).oe; rw [HN.out] at this; exact this) HN.out (Ch.refl _ _) hx
      dsimp only at x0 x1
      by_cases e : (a, b) = (x, y)
      · injection e with e1 e2
        subst e1 e2
        have HS := Lib.hid (hasB_step hx)
        clear hC hx hno
        go_wp2_with fail
        go_ret
        exact ⟨by rw [HS.out]; rfl, HC.out.alloc _⟩
      · have HNO := Lib.hid (show ∀ j, j < k + 1 → E[j]? ≠ some (x, y) from fun j hj hp => by
          by_cases ej : j = k
          · subst ej
            rw [hx] at hp
            injection hp with hp
            exact e hp
          · exact hno j (by omega) hp)
        by_cases e1 : a = x
        · subst e1
          have d : (b == y) = false := by simp; intro e2; exact e (by rw [e2])
          have d' : decide (b = y) = false := by simp; intro e2; exact e (by rw [e2])
          clear hC hx hno e
          go_wp2_with fail
          exact ⟨⟨k + 1, by omega, by go_num, HNO.out, HC.out.alloc _⟩, by simp [intOf]; omega⟩
        · have d : (a == x) = false := by simpa using e1
          have d' : decide (a = x) = false := by simpa using e1
          clear hC hx hno e e1
          go_wp2_with fail
          exact ⟨⟨k + 1, by omega, by go_num, HNO.out, HC.out.alloc _⟩, by simp [intOf]; omega⟩
    · obtain rfl : k = n := by omega
      have HS := Lib.hid (show decide ((x, y) ∈ E) = false from by
        simp
        intro hm
        obtain ⟨j, hj⟩ := List.mem_iff_getElem?.1 hm
        exact hno j (by rw [← HN.out]; exact lt_of_some hj) hj)
      clear hno hC hlt hk
      go_wp2_with fail
      go_ret
      exact ⟨by rw [HS.out]; rfl, HC.out⟩
def elderN (N : List (Int × Int)) (a b : Int) : Bool := stB N a && (stB N b && (decide (stS N a < stS N b) || ((stS N a == stS N b) && decide (a < b))))
set_option maxHeartbeats 1000000 in
theorem elder_r (h : RM w B rb N E vn ve) (x y : Int) :
    Calls Tryd.prog 31 #[.pointer (some ⟨rb, 0, none⟩), .int .i64 x, .int .i64 y] w fun e w' => e = .returned (.bool (elderN N x y)) ∧ NewW w w' := by
  have HA := Lib.hid (stamp_r h x)
  have HB := Lib.hid (fun w' (hc : NewW w w') => stamp_r (h.new_ hc) y)
  obtain ⟨R, hR⟩ : ∃ R, elderN N x y = R := ⟨_, rfl⟩
  rw [hR]
  unfold elderN at hR
  clear h
  generalize stS N x = s at *
  generalize stS N y = t at *
  generalize stB N x = bx at *
  generalize stB N y = by_ at *
  obtain ⟨d1, hd1⟩ : ∃ d, decide (s < t) = d := ⟨_, rfl⟩
  obtain ⟨d2, hd2⟩ : ∃ d, (s == t) = d := ⟨_, rfl⟩
  obtain ⟨d3, hd3⟩ : ∃ d, decide (x < y) = d := ⟨_, rfl⟩
  have hd2' : decide (s = t) = d2 := by rw [← hd2]; by_cases e : s = t <;> simp [e]
  rw [hd1, hd2, hd3] at hR
  have HR := Lib.hid hR
  clear hR
  cases bx <;> cases by_ <;> cases d1 <;> cases d2 <;> cases d3
  all_goals
    go_enter Tryd.func31, Tryd.ntmps31
    go_wp2_with fail
    refine HA.out.mono ?_
    rintro e w2 ⟨rfl, hN⟩
    have HN2 := Lib.hid hN
    clear hN HA
    dsimp only
    go_wp2_with fail
    refine (HB.out _ HN2.out).mono ?_
    rintro e w3 ⟨rfl, hN⟩
    have HN3 := Lib.hid (HN2.out.trans' hN)
    clear hN HB HN2
    dsimp only
    go_wp2_with fail
    go_ret
    exact ⟨by rw [← HR.out]; rfl, HN3.out⟩
end
end Go.Proofs.YtfcdplfnhjbdnabDoor
