/- A leader's readings: its block, told by its numbers and the row of those that wait; the contracts of its small methods. -/
import Derived.Test.YtdbbnkibdibpkabLib
import Derived.Test.YtdbbnkibdibpkabLibRows
import Derived.Test.YtdbbnkibdibpkabLibArgs
import Derived.Test.YtdbbnkibdibpkabRows
import Derived.RegionTactic
import Derived.BigRegion
namespace Go.Proofs.Ytdbbnkibdibpkab
open Go.RowKit
set_option linter.unusedVariables false

/-- A reading: its name, the rounds, the index. -/
abbrev Rdg := Int × Int × Int
def flatW (W : List Rdg) : List Value := W.flatMap fun x => [.int .i64 x.1, .int .i64 x.2.1, .int .i64 x.2.2]
/-- What a leader knows. -/
structure RS where
  self : Nat
  n : Nat
  ans : Nat → Int
  rounds : Int
  commit : Int
  applied : Int
def RS.cells (s : RS) (v : Value) : Array Value :=
  #[.int .i64 s.self, .int .i64 s.n, .int .i64 (s.ans 0), .int .i64 (s.ans 1), .int .i64 (s.ans 2), .int .i64 (s.ans 3), .int .i64 (s.ans 4), .int .i64 (s.ans 5), .int .i64 (s.ans 6),
    .int .i64 s.rounds, .int .i64 s.commit, .int .i64 s.applied, v]
def upd (c : Nat → Int) (i : Nat) (v : Int) : Nat → Int := fun j => if j = i then v else c j
theorem RS.ans_cell (s : RS) (v : Value) {i : Nat} (hi : i < 7) : (s.cells v)[2 + i]? = some (.int .i64 (s.ans i)) := by
  have : i = 0 ∨ i = 1 ∨ i = 2 ∨ i = 3 ∨ i = 4 ∨ i = 5 ∨ i = 6 := by omega
  rcases this with rfl | rfl | rfl | rfl | rfl | rfl | rfl <;> rfl
theorem RS.ans_set (s : RS) (v : Value) {i : Nat} (hi : i < 7) (x : Int) : (s.cells v).setIfInBounds (2 + i) (.int .i64 x) = ({ s with ans := upd s.ans i x } : RS).cells v := by
  have : i = 0 ∨ i = 1 ∨ i = 2 ∨ i = 3 ∨ i = 4 ∨ i = 5 ∨ i = 6 := by omega
  rcases this with rfl | rfl | rfl | rfl | rfl | rfl | rfl <;> simp [RS.cells, upd]

structure Rd (w : World) (B b : Nat) (s : RS) (W : List Rdg) (v : Value) : Prop where
  blk : Blk w b 50 (s.cells v)
  own : w.ownsRow B 53 3 v W.length (flatW W)
  bB : B ≤ b
  n1 : 1 ≤ s.n
  n7 : s.n ≤ 7
  me : s.self < s.n
  len : W.length ≤ 64
/-- Only the struct's block may have turned. -/
def Only (b : Nat) (w w' : World) : Prop := Ch (fun k => k = b) w w'
theorem Rd.set {w : World} {B b : Nat} {s s' : RS} {W : List Rdg} {v : Value} (h : Rd w B b s W v) (i : Nat) (u : Value) (hc : (s.cells v).setIfInBounds i u = s'.cells v) (h1 : s'.n = s.n) (h2 : s'.self = s.self) :
    Rd (w.setCell ⟨b, i, none⟩ u) B b s' W v ∧ Only b w (w.setCell ⟨b, i, none⟩ u) := by
  have hne : v.ownBlock ≠ some b := own_blk_ne h.own h.blk (by decide)
  refine ⟨⟨?_, own_set_far h.own hne _, h.bB, by rw [h1]; exact h.n1, by rw [h1]; exact h.n7, by rw [h1, h2]; exact h.me, h.len⟩, (Ch.refl (fun k => k = b) w).setCell (p := ⟨b, i, none⟩) (.inl rfl) _⟩
  have := h.blk.set_ i u
  rwa [hc] at this
theorem Rd.ch {w w' : World} {S : Nat → Prop} {B b : Nat} {s : RS} {W : List Rdg} {v : Value} (h : Rd w B b s W v) (hc : Ch S w w') (h1 : ¬ S b) (h2 : ∀ k, v.ownBlock = some k → ¬ S k) : Rd w' B b s W v :=
  ⟨h.blk.ch hc h1, own_ch h.own hc h2, h.bB, h.n1, h.n7, h.me, h.len⟩
theorem Rd.drew {w : World} {B b : Nat} {s : RS} {W : List Rdg} {v : Value} (h : Rd w B b s W v) : Rd w.drew B b s W v := h.ch (Ch.refl (fun _ => False) w).drew (fun h => h) (fun _ _ h => h)
theorem Rd.drewN {w : World} {B b : Nat} {s : RS} {W : List Rdg} {v : Value} (h : Rd w B b s W v) (n : Nat) : Rd (w.drewN n) B b s W v := h.ch ((Ch.refl (fun _ => False) w).drewN n) (fun h => h) (fun _ _ h => h)
section
variable {w : World} {B b : Nat} {s : RS} {W : List Rdg} {v : Value}
theorem Rd.c0 (h : Rd w B b s W v) : w.cell? ⟨b, 0, none⟩ = some (.int .i64 s.self) := by rw [h.blk.cell]; rfl
theorem Rd.c1 (h : Rd w B b s W v) : w.cell? ⟨b, 1, none⟩ = some (.int .i64 s.n) := by rw [h.blk.cell]; rfl
theorem Rd.ca (h : Rd w B b s W v) {i : Nat} (hi : i < 7) : w.cell? ⟨b, 2 + i, none⟩ = some (.int .i64 (s.ans i)) := by rw [h.blk.cell, RS.ans_cell s v hi]
theorem Rd.c9 (h : Rd w B b s W v) : w.cell? ⟨b, 9, none⟩ = some (.int .i64 s.rounds) := by rw [h.blk.cell]; rfl
theorem Rd.c10 (h : Rd w B b s W v) : w.cell? ⟨b, 10, none⟩ = some (.int .i64 s.commit) := by rw [h.blk.cell]; rfl
theorem Rd.c11 (h : Rd w B b s W v) : w.cell? ⟨b, 11, none⟩ = some (.int .i64 s.applied) := by rw [h.blk.cell]; rfl
theorem Rd.c12 (h : Rd w B b s W v) : w.cell? ⟨b, 12, none⟩ = some v := by rw [h.blk.cell]; rfl
theorem Rd.fz (h : Rd w B b s W v) (i : Nat) : w.frozen? ⟨b, i, none⟩ = false := h.blk.frozen i
end

/-! ### Commit, Apply, Beat, Ack, Waiting -/
def commitE (s : RS) (x : Int) : Int := if x < 0 then 1 else if x < s.commit then 5 else 0
def commitS (s : RS) (x : Int) : RS := if x < 0 then s else if x < s.commit then s else { s with commit := x }
def RP (B b : Nat) (s : RS) (W : List Rdg) (v : Value) (w w' : World) : Prop := Rd w' B b s W v ∧ Only b w w'
theorem RP.refl {B b : Nat} {s : RS} {W : List Rdg} {v : Value} {w : World} (h : Rd w B b s W v) : RP B b s W v w w := ⟨h, Ch.refl _ _⟩
theorem commit_any (B b : Nat) (s : RS) (W : List Rdg) (v : Value) (w : World) (h : Rd w B b s W v) (x : Int) :
    Calls Try.prog 8 #[.pointer (some ⟨b, 0, none⟩), .int .i64 x] w fun e w' => e = .returned (.int .i64 (commitE s x)) ∧ RP B b (commitS s x) W v w w' := by
  by_cases h1 : x < 0
  · have e1 : commitE s x = 1 := by unfold commitE; rw [if_pos h1]
    have e2 : commitS s x = s := by unfold commitS; rw [if_pos h1]
    rw [e1, e2]
    have HR := Lib.hid (RP.refl h)
    have hd : decide (x < 0) = true := by simpa using h1
    clear h e1 e2
    go_enter Try.func8, Try.ntmps8
    go_wp2
    go_ret
    exact ⟨rfl, HR.out⟩
  · have hd : decide (x < 0) = false := by simpa using h1
    have c10 := h.c10
    have fz := h.fz 10
    by_cases h2 : x < s.commit
    · have e1 : commitE s x = 5 := by unfold commitE; rw [if_neg h1, if_pos h2]
      have e2 : commitS s x = s := by unfold commitS; rw [if_neg h1, if_pos h2]
      rw [e1, e2]
      have HR := Lib.hid (RP.refl h)
      have hd2 : decide (x < s.commit) = true := by simpa using h2
      clear h e1 e2
      generalize s.commit = C at *
      go_enter Try.func8, Try.ntmps8
      go_wp2
      go_ret
      exact ⟨rfl, HR.out⟩
    · have e1 : commitE s x = 0 := by unfold commitE; rw [if_neg h1, if_neg h2]
      have e2 : commitS s x = { s with commit := x } := by unfold commitS; rw [if_neg h1, if_neg h2]
      rw [e1, e2]
      have HR := Lib.hid (show RP B b { s with commit := x } W v w (w.setCell ⟨b, 10, none⟩ (.int .i64 x)) from h.set 10 _ (by simp [RS.cells]) rfl rfl)
      have hd2 : decide (x < s.commit) = false := by simpa using h2
      clear h e1 e2
      generalize ({ s with commit := x } : RS) = s' at *
      generalize s.commit = C at *
      go_enter Try.func8, Try.ntmps8
      go_wp2
      go_ret
      exact ⟨rfl, HR.out⟩

def applyE (s : RS) (x : Int) : Int := if x < 0 then 1 else if x < s.applied ∨ s.commit < x then 5 else 0
def applyS (s : RS) (x : Int) : RS := if x < 0 then s else if x < s.applied ∨ s.commit < x then s else { s with applied := x }
theorem apply_any (B b : Nat) (s : RS) (W : List Rdg) (v : Value) (w : World) (h : Rd w B b s W v) (x : Int) :
    Calls Try.prog 10 #[.pointer (some ⟨b, 0, none⟩), .int .i64 x] w fun e w' => e = .returned (.int .i64 (applyE s x)) ∧ RP B b (applyS s x) W v w w' := by
  by_cases h1 : x < 0
  · have e1 : applyE s x = 1 := by unfold applyE; rw [if_pos h1]
    have e2 : applyS s x = s := by unfold applyS; rw [if_pos h1]
    rw [e1, e2]
    have HR := Lib.hid (RP.refl h)
    have hd : decide (x < 0) = true := by simpa using h1
    clear h e1 e2
    go_enter Try.func10, Try.ntmps10
    go_wp2
    go_ret
    exact ⟨rfl, HR.out⟩
  · have hd : decide (x < 0) = false := by simpa using h1
    have c10 := h.c10
    have c11 := h.c11
    have fz := h.fz 11
    by_cases h2 : x < s.applied ∨ s.commit < x
    · have e1 : applyE s x = 5 := by unfold applyE; rw [if_neg h1, if_pos h2]
      have e2 : applyS s x = s := by unfold applyS; rw [if_neg h1, if_pos h2]
      rw [e1, e2]
      have HR := Lib.hid (RP.refl h)
      clear h e1 e2
      generalize s.commit = C at *
      generalize s.applied = D at *
      by_cases h3 : x < D
      · have hd2 : decide (x < D) = true := by simpa using h3
        clear h2
        go_enter Try.func10, Try.ntmps10
        go_wp2
        go_ret
        exact ⟨rfl, HR.out⟩
      · have hd2 : decide (x < D) = false := by simpa using h3
        have hd3 : decide (C < x) = true := by simp; omega
        clear h2
        go_enter Try.func10, Try.ntmps10
        go_wp2
        go_ret
        exact ⟨rfl, HR.out⟩
    · have e1 : applyE s x = 0 := by unfold applyE; rw [if_neg h1, if_neg h2]
      have e2 : applyS s x = { s with applied := x } := by unfold applyS; rw [if_neg h1, if_neg h2]
      rw [e1, e2]
      have HR := Lib.hid (show RP B b { s with applied := x } W v w (w.setCell ⟨b, 11, none⟩ (.int .i64 x)) from h.set 11 _ (by simp [RS.cells]) rfl rfl)
      have hd2 : decide (x < s.applied) = false := by simp; omega
      have hd3 : decide (s.commit < x) = false := by simp; omega
      clear h e1 e2 h2
      generalize ({ s with applied := x } : RS) = s' at *
      generalize s.commit = C at *
      generalize s.applied = D at *
      go_enter Try.func10, Try.ntmps10
      go_wp2
      go_ret
      exact ⟨rfl, HR.out⟩
def beatS (s : RS) : RS := { s with rounds := s.rounds + 1, ans := upd s.ans s.self (s.rounds + 1) }
theorem beat_any (B b : Nat) (s : RS) (W : List Rdg) (v : Value) (w : World) (h : Rd w B b s W v) (h0 : 0 ≤ s.rounds) (h1 : s.rounds ≤ 1000) :
    Calls Try.prog 14 #[.pointer (some ⟨b, 0, none⟩)] w fun e w' => e = .returned (.int .i64 (s.rounds + 1)) ∧ RP B b (beatS s) W v w w' := by
  have hme : s.self < 7 := by have := h.me; have := h.n7; omega
  have hA := h.set (s' := { s with rounds := s.rounds + 1 }) 9 (.int .i64 (s.rounds + 1)) (by simp [RS.cells]) rfl rfl
  have hB := hA.1.set (s' := beatS s) (2 + s.self) (.int .i64 (s.rounds + 1)) (RS.ans_set { s with rounds := s.rounds + 1 } v hme _) rfl rfl
  have HR := Lib.hid (show RP B b (beatS s) W v w _ from ⟨hB.1.drew, (hA.2.trans' hB.2).drew⟩)
  have c9 := h.c9
  have f9 := h.fz 9
  have d0 := hA.1.c0
  have d9 := hA.1.c9
  have da := hA.1.ca hme
  have fa := hA.1.fz (2 + s.self)
  have g9 := hB.1.c9
  simp only [beatS] at d0 d9 da g9
  clear h hA hB
  generalize beatS s = s' at *
  generalize s.rounds = R at *
  generalize s.ans s.self = A at *
  generalize s.self = M at *
  go_enter Try.func14, Try.ntmps14
  go_wp2_with fail
  go_region
  go_wp2
  go_ret
  exact ⟨rfl, HR.out⟩
/-- Why an answer is refused. -/
def ackE (s : RS) (node round : Int) : Int := if node < 0 ∨ (s.n : Int) ≤ node ∨ node = s.self then 1 else if round < 1 ∨ s.rounds < round then 5 else 0
theorem ack_bad (B b : Nat) (s : RS) (W : List Rdg) (v : Value) (w : World) (h : Rd w B b s W v) (node round : Int) (hb : node < 0 ∨ (s.n : Int) ≤ node ∨ node = s.self) :
    Calls Try.prog 15 #[.pointer (some ⟨b, 0, none⟩), .int .i64 node, .int .i64 round] w fun e w' => e = .returned (.int .i64 1) ∧ w = w' := by
  have c0 := h.c0
  have c1 := h.c1
  have n7 := h.n7
  have me := h.me
  clear h
  generalize s.self = M at *
  generalize s.n = n at *
  by_cases h1 : node < 0
  · have hd : decide (node < 0) = true := by simpa using h1
    clear hb
    go_enter Try.func15, Try.ntmps15
    go_wp2
    go_ret
    exact ⟨rfl, rfl⟩
  · have hd : decide (node < 0) = false := by simpa using h1
    by_cases h2 : (n : Int) ≤ node
    · have hd2 : decide ((n : Int) ≤ node) = true := by simpa using h2
      clear hb
      go_enter Try.func15, Try.ntmps15
      go_wp2
      go_ret
      exact ⟨rfl, rfl⟩
    · have hd2 : decide ((n : Int) ≤ node) = false := by simpa using h2
      obtain rfl : node = M := by omega
      clear hb
      go_enter Try.func15, Try.ntmps15
      go_wp2
      go_ret
      exact ⟨rfl, rfl⟩
theorem ack_range (B b : Nat) (s : RS) (W : List Rdg) (v : Value) (w : World) (h : Rd w B b s W v) (k : Nat) (hk : k < s.n) (hs : k ≠ s.self) (round : Int) (hb : round < 1 ∨ s.rounds < round) :
    Calls Try.prog 15 #[.pointer (some ⟨b, 0, none⟩), .int .i64 k, .int .i64 round] w fun e w' => e = .returned (.int .i64 5) ∧ w = w' := by
  have c0 := h.c0
  have c1 := h.c1
  have c9 := h.c9
  clear h
  generalize s.self = M at *
  generalize s.n = n at *
  generalize s.rounds = R at *
  have hd : decide ((n : Int) ≤ (k : Int)) = false := by simp; omega
  have hd1 : ((k : Int) == (M : Int)) = false := by simp; omega
  by_cases h1 : round < 1
  · have hd2 : decide (round < 1) = true := by simpa using h1
    clear hb hs
    go_enter Try.func15, Try.ntmps15
    go_wp2
    go_ret
    exact ⟨rfl, rfl⟩
  · have hd2 : decide (round < 1) = false := by simpa using h1
    have hd3 : decide (R < round) = true := by simp; omega
    clear hb hs
    go_enter Try.func15, Try.ntmps15
    go_wp2
    go_ret
    exact ⟨rfl, rfl⟩
def ackS (s : RS) (k : Nat) (round : Int) : RS := { s with ans := upd s.ans k (max (s.ans k) round) }
theorem ack_ok (B b : Nat) (s : RS) (W : List Rdg) (v : Value) (w : World) (h : Rd w B b s W v) (k : Nat) (hk : k < s.n) (hs : k ≠ s.self) (round : Int) (h1 : 1 ≤ round) (h2 : round ≤ s.rounds) :
    Calls Try.prog 15 #[.pointer (some ⟨b, 0, none⟩), .int .i64 k, .int .i64 round] w fun e w' => e = .returned (.int .i64 0) ∧ RP B b (ackS s k round) W v w w' := by
  have h7 : k < 7 := by have := h.n7; omega
  have hB := h.set (s' := ackS s k round) (2 + k) (.int .i64 (max (s.ans k) round)) (RS.ans_set s v h7 _) rfl rfl
  have HR := Lib.hid (show RP B b (ackS s k round) W v w _ from ⟨hB.1.drew, hB.2.drew⟩)
  have c0 := h.c0
  have c1 := h.c1
  have c9 := h.c9
  have ca := h.ca h7
  have fa := h.fz (2 + k)
  clear h hB
  generalize ackS s k round = s' at *
  generalize s.ans k = A at *
  generalize s.self = M at *
  generalize s.n = n at *
  generalize s.rounds = R at *
  have hd : decide ((n : Int) ≤ (k : Int)) = false := by simp; omega
  have hd1 : ((k : Int) == (M : Int)) = false := by simp; omega
  have hd2 : decide (round < 1) = false := by simp; omega
  have hd3 : decide (R < round) = false := by simp; omega
  clear hs
  go_enter Try.func15, Try.ntmps15
  go_wp2_with fail
  go_region
  go_wp2
  all_goals
    go_ret
    refine ⟨rfl, ?_⟩
    have hr := HR.out
    first
      | (rw [Int.max_eq_right (by omega)] at hr; exact hr)
      | (rw [Int.max_eq_left (by omega)] at hr; exact hr)
theorem waiting_any (B b : Nat) (s : RS) (W : List Rdg) (v : Value) (w : World) (h : Rd w B b s W v) :
    Calls Try.prog 23 #[.pointer (some ⟨b, 0, none⟩)] w fun e w' => e = .returned (.int .i64 (W.length : Nat)) ∧ w = w' := by
  have c := h.c12
  obtain ⟨A, q, rfl⟩ := own_form h.own
  generalize W.length = n at *
  clear h
  go_enter Try.func23, Try.ntmps23
  go_wp2
  go_ret
  exact ⟨rfl, rfl⟩
end Go.Proofs.Ytdbbnkibdibpkab
