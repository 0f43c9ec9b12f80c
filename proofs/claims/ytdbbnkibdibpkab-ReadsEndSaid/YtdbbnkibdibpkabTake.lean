/- The first readings are taken out. -/
import Derived.Shelf.SlLaysE0
import Derived.Test.YtdbbnkibdibpkabSure
namespace Go.Proofs
open Go.Shelf
def Try.laysC32_ren : Go.Shelf.Ren := ⟨fun | 41 => 32 | n => n, fun | 22 => 48 | 23 => 53 | 4 => 4 | n => n, fun | n => n⟩
theorem Try.laysC32 : Go.Proofs.SlLaysE0.n41 Try.prog Try.laysC32_ren := {
  mixed := by kernel_rfl
  f41 := ⟨Try.f32.name, by decide, Try.func32.trans (congrArg some (by kernel_rfl))⟩
  t4 := Try.underlying4
  a4 := Try.isAgg4
  z4 := Try.sizeOf4
  v4 := Try.zeroValue4
  t22 := Try.underlying48
  a22 := Try.isAgg48
  z22 := Try.sizeOf48
  v22 := Try.zeroValue48 }
end Go.Proofs
namespace Go.Proofs.Ytdbbnkibdibpkab
open Go.RowKit Go.Shelf
set_option linter.unusedVariables false

theorem int_info : (Try.prog.info? 3).map (fun i => (i.zero, i.size, i.bytes)) = some (some (.int .i64 0), 1, 8) := by kernel_rfl
theorem rdg_info : (Try.prog.info? 53).map (fun i => (i.zero, i.size, i.bytes)) = some (some (.agg #[.int .i64 0, .int .i64 0, .int .i64 0]), 3, 24) := by kernel_rfl
theorem info_parts {t : TypeId} {z : Option Value} {a b : Nat} (h : (Try.prog.info? t).map (fun i => (i.zero, i.size, i.bytes)) = some (z, a, b)) : ∃ i, Try.prog.info? t = some i ∧ i.zero = z ∧ i.size = a ∧ i.bytes = b := by
  obtain ⟨i, h1, h2⟩ := Option.map_eq_some_iff.1 h
  injection h2 with h2 h3
  injection h3 with h3 h4
  exact ⟨i, h1, h2, h3, h4⟩
theorem clone_some (b off n c : Nat) (news : List Value) (w : World) (hl : news.length = n * 3) (hn : n ≤ 64) (hc : ∀ j u, news[j]? = some u → w.cell? ⟨b, off + j, none⟩ = some u) (h1 : ∀ u ∈ news, u.oneCell' = true) :
    Calls Try.prog 32 #[.slice (some ⟨b, off, none⟩) n c] w fun e w' => ∃ v', e = .returned v' ∧ w'.ownsRow w.heap.size 53 3 v' n news ∧ Below w.heap.size w w' := by
  obtain ⟨i0, hi0, hz0, hz1, hz2⟩ := info_parts rdg_info
  exact (AnyE.slices_Clone Try.laysC32 i0 _ 3 24 hi0 hz0 hz1 hz2 rfl (by omega) (fun w => by kernel_rfl) b off n c news w hl (by unfold maxLen; omega) (by omega) hc h1).mono fun e w' ⟨v', h1, h2, h3, h4⟩ => ⟨v', h1, h2, h4⟩
theorem clone_none (n c : Nat) (w : World) : Calls Try.prog 32 #[.slice none n c] w fun e w' => e = .returned (.slice none 0 0) ∧ w' = w := AnyE.slices_Clone_nil Try.laysC32 n c w
def ids (W : List Rdg) : List Value := W.map fun x => .int .i64 x.1
theorem flatW_len (W : List Rdg) : (flatW W).length = W.length * 3 := flat_len (m := 3) (fun _ _ => rfl)
theorem flatW_get (W : List Rdg) {i : Nat} {x : Rdg} (h : W[i]? = some x) : (flatW W)[i * 3]? = some (.int .i64 x.1) ∧ (flatW W)[i * 3 + 1]? = some (.int .i64 x.2.1) ∧ (flatW W)[i * 3 + 2]? = some (.int .i64 x.2.2) := by
  refine ⟨?_, ?_, ?_⟩
  · have := flat_get (f := fun x : Rdg => [Value.int .i64 x.1, .int .i64 x.2.1, .int .i64 x.2.2]) (m := 3) (fun _ _ => rfl) h (j := 0) (by omega); simpa [flatW] using this
  · have := flat_get (f := fun x : Rdg => [Value.int .i64 x.1, .int .i64 x.2.1, .int .i64 x.2.2]) (m := 3) (fun _ _ => rfl) h (j := 1) (by omega); simpa [flatW] using this
  · have := flat_get (f := fun x : Rdg => [Value.int .i64 x.1, .int .i64 x.2.1, .int .i64 x.2.2]) (m := 3) (fun _ _ => rfl) h (j := 2) (by omega); simpa [flatW] using this
theorem flatW_drop (W : List Rdg) (k : Nat) : (flatW W).drop (k * 3) = flatW (W.drop k) := by
  induction k generalizing W with
  | zero => simp
  | succ k ih =>
    cases W with
    | nil => simp [flatW]
    | cons x r =>
      have : flatW (x :: r) = [.int .i64 x.1, .int .i64 x.2.1, .int .i64 x.2.2] ++ flatW r := by simp [flatW]
      rw [this, List.drop_succ_cons, ← ih r, Nat.add_mul, Nat.one_mul, Nat.add_comm (k * 3) 3, ← List.drop_drop]
      rfl
theorem flatW_one (W : List Rdg) : ∀ u ∈ flatW W, u.oneCell' = true := by
  intro u hu
  obtain ⟨x, _, hx⟩ := List.mem_flatMap.1 hu
  simp at hx
  rcases hx with rfl | rfl | rfl <;> rfl
theorem own_mono {w : World} {B B' : Nat} {e : TypeId} {size n : Nat} {v : Value} {xs : List Value} (h : w.ownsRow B e size v n xs) (hB : B' ≤ B) : w.ownsRow B' e size v n xs := by
  refine ⟨h.1, ?_⟩
  rcases h.2 with h2 | ⟨g, cap, cur, rfl, hg, r⟩
  · exact .inl h2
  · exact .inr ⟨g, cap, cur, rfl, by omega, r⟩
theorem row_cell {w : World} {B b : Nat} {s : RS} {W : List Rdg} {g q : Nat} (h : Rd w B b s W (.slice (some ⟨g, 0, none⟩) W.length q)) {i : Nat} {x : Rdg} (hx : W[i]? = some x) :
    w.cell? ⟨g, i * 3, none⟩ = some (.int .i64 x.1) ∧ w.cell? ⟨g, i * 3 + 1, none⟩ = some (.int .i64 x.2.1) ∧ w.cell? ⟨g, i * 3 + 2, none⟩ = some (.int .i64 x.2.2) := by
  obtain ⟨h0, h1, h2⟩ := flatW_get W hx
  have a := h.own.cells (g := g) rfl _ _ h0
  have b := h.own.cells (g := g) rfl _ _ h1
  have c := h.own.cells (g := g) rfl _ _ h2
  rw [add_mk, Nat.zero_add] at a b c
  exact ⟨a, b, c⟩
end Go.Proofs.Ytdbbnkibdibpkab
