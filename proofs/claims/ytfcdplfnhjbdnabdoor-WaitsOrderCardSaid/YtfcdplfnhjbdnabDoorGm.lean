/- A graph's memory, and the small functions over it. -/
import Derived.Test.YtfcdplfnhjbdnabDoorLib
import Derived.Test.YtfcdplfnhjbdnabDoorLibRows
import Derived.Test.YtfcdplfnhjbdnabDoorLibArgs
import Derived.Test.YtfcdplfnhjbdnabDoorRows
import Derived.RegionTactic
import Derived.BigRegion
import Derived.Laws.BitsAllLaws
import Derived.WalkArith
import Derived.WalkSmall
namespace Go.Proofs.YtfcdplfnhjbdnabDoor
open Go.RowKit
set_option linter.unusedVariables false

/-- A node: its number, its stamp, to whom it has edges (places, as bits). -/
structure Nd where
  id : Int
  st : Int
  to : Nat
def flatN (l : List Nd) : List Value := l.flatMap fun x => [.int .i64 x.id, .int .i64 x.st, .int .u64 x.to]
structure Ok (l : List Nd) : Prop where
  len : l.length ≤ 64
  bits : ∀ x : Nd, x ∈ l → x.to < 2 ^ l.length
  ids : (l.map Nd.id).Nodup
  self : ∀ (i : Nat) (x : Nd), l[i]? = some x → x.to.testBit i = false
  id0 : ∀ x : Nd, x ∈ l → 0 ≤ x.id ∧ x.id ≤ 9223372036854775807
  st0 : ∀ x : Nd, x ∈ l → 0 ≤ x.st ∧ x.st ≤ 1099511627776
def NewW (w w' : World) : Prop := Ch (fun _ => False) w w'
theorem ch_cell {w w' : World} (h : NewW w w') {a : Addr} (ha : a.block < w.heap.size) : w'.cell? a = w.cell? a := World.cell?_of_block (h.block a.block ha (fun h => h))
theorem new_cell {w w' : World} (h : NewW w w') {a : Addr} {v : Value} (ha : w.cell? a = some v) : w'.cell? a = some v := by
  obtain ⟨b, o, s⟩ := a
  exact (ch_cell h (block_lt_of_cell ha)).trans ha
/-- The graph at a block. -/
structure GM (w : World) (B gb : Nat) (l : List Nd) (v : Value) : Prop where
  blk : Blk w gb 60 #[v]
  own : w.ownsRow B 57 3 v l.length (flatN l)
  bB : B ≤ gb
  ok : Ok l
theorem bit64 {l : List Nd} (h : Ok l) {x : Nd} (hx : x ∈ l) : x.to < 18446744073709551616 := by
  have h1 := h.bits x hx
  have h2 : 2 ^ l.length ≤ 2 ^ 64 := Nat.pow_le_pow_right (by decide) h.len
  omega
section
variable {w w' : World} {B gb : Nat} {l : List Nd} {v : Value}
theorem GM.ch {S : Nat → Prop} (h : GM w B gb l v) (hc : Ch S w w') (h1 : ¬ S gb) (h2 : ∀ k, v.ownBlock = some k → ¬ S k) : GM w' B gb l v :=
  ⟨h.blk.ch hc h1, own_ch h.own hc h2, h.bB, h.ok⟩
theorem GM.new_ (h : GM w B gb l v) (hc : NewW w w') : GM w' B gb l v := h.ch hc (fun h => h) (fun _ _ h => h)
theorem GM.c0 (h : GM w B gb l v) : w.cell? ⟨gb, 0, none⟩ = some v := by rw [h.blk.cell]; rfl
theorem GM.f0 (h : GM w B gb l v) : w.frozen? ⟨gb, 0, none⟩ = false := h.blk.frozen 0
theorem flatN_get (l : List Nd) {i : Nat} {x : Nd} (h : l[i]? = some x) : (flatN l)[i * 3]? = some (.int .i64 x.id) ∧ (flatN l)[i * 3 + 1]? = some (.int .i64 x.st) ∧ (flatN l)[i * 3 + 2]? = some (.int .u64 x.to) := by
  have g : ∀ j, j < 3 → (flatN l)[i * 3 + j]? = ([.int .i64 x.id, .int .i64 x.st, .int .u64 x.to] : List Value)[j]? := fun j hj => flat_get (f := fun x : Nd => [Value.int .i64 x.id, .int .i64 x.st, .int .u64 x.to]) (m := 3) (fun _ _ => rfl) h hj
  exact ⟨g 0 (by omega), g 1 (by omega), g 2 (by omega)⟩
theorem GM.at_ (h : GM w B gb l v) {i : Nat} {x : Nd} (hx : l[i]? = some x) : ∃ g c, v = .slice (some ⟨g, 0, none⟩) l.length c ∧ w.cell? ⟨g, i * 3, none⟩ = some (.int .i64 x.id) ∧ w.cell? ⟨g, i * 3 + 1, none⟩ = some (.int .i64 x.st) ∧
    w.cell? ⟨g, i * 3 + 2, none⟩ = some (.int .u64 x.to) := by
  obtain ⟨g, c, hv, _, _⟩ := h.own.form (Nat.lt_of_le_of_lt (Nat.zero_le _) (lt_of_some hx))
  obtain ⟨r0, r1, r2⟩ := flatN_get l hx
  have a := h.own.cells (g := g) (by rw [hv]; rfl) _ _ r0
  have b := h.own.cells (g := g) (by rw [hv]; rfl) _ _ r1
  have d := h.own.cells (g := g) (by rw [hv]; rfl) _ _ r2
  rw [add_mk, Nat.zero_add] at a b d
  exact ⟨g, c, hv, a, b, d⟩
end
/-! ### Bits -/
theorem pow64 {i : Nat} (h : i < 64) : (2 : Nat) ^ i < 18446744073709551616 := by
  have : (2 : Nat) ^ i < 2 ^ 64 := Nat.pow_lt_pow_right (by decide) h
  omega
theorem bit_of {s i : Nat} (hs : s < 18446744073709551616) (hi : i < 64) : (bits BinOp.and IntKind.u64 ((s : Int) / 2 ^ i) 1 == 1) = s.testBit i := by
  have h1 : (s : Int) / 2 ^ i = ((s / 2 ^ i : Nat) : Int) := by simp
  have h2 : s / 2 ^ i ≤ s := Nat.div_le_self _ _
  rw [h1, Nat.testBit_eq_decide_div_mod_eq]
  generalize s / 2 ^ i = q at *
  rw [and_one_u64 _ (by omega) (by omega)]
  by_cases h : q % 2 = 1
  · rw [decide_eq_true h, show (q : Int) % 2 = 1 by omega]; rfl
  · rw [decide_eq_false h, show (q : Int) % 2 = 0 by omega]; rfl
theorem has_any (s i : Nat) (hs : s < 18446744073709551616) (hi : i < 64) (w : World) : Calls Tryd.prog 38 #[.int .u64 s, .int .i64 i] w fun e w' => e = .returned (.bool (s.testBit i)) ∧ w = w' := by
  have hiI : (i : Int) < 64 := by omega
  go_enter Tryd.func38, Tryd.ntmps38
  go_wp2_with fail
  go_ret
  refine ⟨?_, rfl⟩
  show Ending.returned (.bool (bits BinOp.and IntKind.u64 ((s : Int) / 2 ^ i) 1 == 1)) = _
  rw [bit_of hs hi]
theorem new_any (w : World) : Calls Tryd.prog 19 #[] w fun e w' => e = .returned (.pointer (some ⟨w.heap.size, 0, none⟩)) ∧ w' = w.alloc (.cells #[.slice none 0 0] 60) := by
  go_enter Tryd.func19, Tryd.ntmps19
  go_wp2_with fail
  go_ret
  exact ⟨rfl, rfl⟩
end Go.Proofs.YtfcdplfnhjbdnabDoor
