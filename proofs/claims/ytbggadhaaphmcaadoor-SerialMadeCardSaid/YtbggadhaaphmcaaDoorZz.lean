/- serial: the fixed histories, in plain words and in memory. -/
import Derived.Test.YtbggadhaaphmcaaDoorZk
import Derived.Test.YtbggadhaaphmcaaDoorFx
namespace Go.Proofs.YtbggadhaaphmcaaDoor
open Go.Lib Go.RowKit
set_option linter.unusedVariables false

def t1 : ByteArray := ⟨#[49]⟩
def pA : List OpD := [⟨2, ka, t1, 0⟩]
def pB : List OpD := [⟨1, ka, emp, 0⟩]
def dA : DeedD := ⟨0, 1, pA, [(emp, false)], false⟩
def dB (f : Int) : DeedD := ⟨f, 3, pB, [(emp, false)], false⟩
def H1 : Hist := [dA, dB 2]
def H2 : Hist := [dA, dB 1]
def H3 : Hist := [⟨1, 0, [], [], false⟩]
def fA : Has := putF none0 [97] (some t1)
theorem goodA : goodB pA = true := by decide
theorem goodB_ : goodB pB = true := by decide
theorem runA : runS none0 pA = ⟨fA, none, [none]⟩ := by
  show stepS ⟨none0, none, []⟩ _ = _
  rw [stepS_put (s := ⟨none0, none, []⟩) rfl]
  rfl
theorem runB (f : Has) : runS f pB = ⟨f, f [97], [f [97]]⟩ := by
  show stepS ⟨f, none, []⟩ _ = _
  rw [stepS_get (s := ⟨f, none, []⟩) rfl]
  rfl
theorem outA : runO none0 pA = [none] ∧ runF none0 pA = fA := by
  obtain ⟨a, b⟩ := run_good (f := none0) goodA
  rw [a, b, runA]
  exact ⟨rfl, rfl⟩
theorem outB (f : Has) : runO f pB = [f [97]] ∧ runF f pB = f := by
  obtain ⟨a, b⟩ := run_good (f := f) goodB_
  rw [a, b, runB]
  exact ⟨rfl, rfl⟩
theorem tell_of {d : DeedD} {f : Has} {r : List Res} {b : Bool} (h : runO f d.plan = r) (hb : (d.op || decide (r.map prR = d.res)) = b) : tellB d f = b := by
  subst h; exact hb
theorem tellA : tellB dA none0 = true := tell_of (r := [none]) outA.1 (by decide)
theorem tellB0 (f : Int) : tellB (dB f) none0 = true := tell_of (r := [none]) (outB none0).1 (by show (false || decide ([none].map prR = [(emp, false)])) = true; decide)
theorem tellBA (f : Int) : tellB (dB f) fA = false := tell_of (r := [some t1]) (outB fA).1 (by show (false || decide ([some t1].map prR = [(emp, false)])) = false; decide)
theorem h1r : rightD H1 = 0 := by decide
theorem h2r : rightD H2 = 0 := by decide
theorem h3r : rightD H3 = 5 := by decide
theorem find1 : findS H1 2 [] none0 = none := by
  have a0 : allB H1 [] = false := by decide
  have a1 : allB H1 [0] = false := by decide
  have m0 : mayB H1 [] 0 = true := by decide
  have m1 : mayB H1 [] 1 = false := by decide
  have m2 : mayB H1 [0] 0 = false := by decide
  have m3 : mayB H1 [0] 1 = true := by decide
  have hr : List.range H1.length = [0, 1] := rfl
  have g0 : H1.get 0 = dA := rfl
  have g1 : H1.get 1 = dB 2 := rfl
  have r0 : runF none0 dA.plan = fA := outA.2
  simp [findS, a0, a1, m0, m1, m2, m3, hr, g0, g1, r0, tellA, tellBA]
theorem find2 : findS H2 2 [] none0 = some [1, 0] := by
  have a0 : allB H2 [] = false := by decide
  have a1 : allB H2 [0] = false := by decide
  have a2 : allB H2 [1] = false := by decide
  have a3 : allB H2 [1, 0] = true := by decide
  have m0 : mayB H2 [] 0 = true := by decide
  have m1 : mayB H2 [] 1 = true := by decide
  have m2 : mayB H2 [0] 0 = false := by decide
  have m3 : mayB H2 [0] 1 = true := by decide
  have m4 : mayB H2 [1] 0 = true := by decide
  have hr : List.range H2.length = [0, 1] := rfl
  have g0 : H2.get 0 = dA := rfl
  have g1 : H2.get 1 = dB 1 := rfl
  have r0 : runF none0 dA.plan = fA := outA.2
  have r1 : runF none0 (dB 1).plan = none0 := (outB none0).2
  simp [findS, a0, a1, a2, a3, m0, m1, m2, m3, m4, hr, g0, g1, r0, r1, tellA, tellBA, tellB0]
theorem expl1 : explO H1 = none := by unfold explO; rw [if_pos h1r]; exact find1
theorem expl2 : explO H2 = some [1, 0] := by unfold explO; rw [if_pos h2r]; exact find2
theorem expl3 : explO H3 = none := by unfold explO; rw [if_neg (by rw [h3r]; decide)]
theorem check1 : checkO H2 [0, 1] = false := by
  unfold checkO
  have r0 : runF none0 dA.plan = fA := outA.2
  have m0 : mayB H2 [] 0 = true := by decide
  have m3 : mayB H2 [0] 1 = true := by decide
  have g0 : H2.get 0 = dA := rfl
  have g1 : H2.get 1 = dB 1 := rfl
  simp [chkB, h2r, m0, m3, g0, g1, r0, tellA, tellBA]
theorem check2 : checkO H2 [1, 0] = true := by
  unfold checkO
  have hl : H2.length = 2 := rfl
  have m1 : mayB H2 [] 1 = true := by decide
  have m4 : mayB H2 [1] 0 = true := by decide
  have a3 : allB H2 [1, 0] = true := by decide
  have g0 : H2.get 0 = dA := rfl
  have g1 : H2.get 1 = dB 1 := rfl
  have r1 : runF none0 (dB 1).plan = none0 := (outB none0).2
  simp [chkB, hl, h2r, m1, m4, a3, g0, g1, r1, tellA, tellB0]
theorem fAt1 : fAt [pA, pB] 1 = fA := outA.2
theorem fAt2 : fAt [pA, pB] 2 = fA := by
  show runF (runF none0 pA) pB = fA
  rw [outA.2]
  exact (outB fA).2
theorem out_row : runO (fAt [pA, pB] 1) pB = [some t1] := by rw [fAt1]; exact (outB fA).1
theorem all_fA {L : Wl} (h : SortedW L fA) : L.length = 1 := by
  have : SortedW [(ka, t1)] fA := by
    refine ⟨by simp, fun k v => ?_⟩
    simp only [List.mem_cons, List.not_mem_nil, or_false, Prod.mk.injEq]
    unfold fA putF
    by_cases h1 : k.data.toList = [97]
    · have e : k = ka := key_inj h1
      subst e
      simp [ka, eq_comm]
    · rw [if_neg h1]
      constructor
      · rintro ⟨rfl, _⟩
        exact absurd rfl h1
      · intro h; cases h
  rw [sorted_unique h this]
  rfl
theorem und34 : Tryd.prog.underlying 34 = some (.slice 45) := by kernel_rfl
theorem mk_ress (w : World) : (Instr.makeSlice 34 (.int .i64 1) (.int .i64 1)).run Tryd.prog w = .ok (.slice (some ⟨w.heap.size, 0, none⟩) 1 1) (w.alloc (.cells #[.string ⟨#[]⟩, .bool false] 45)) := by
  obtain ⟨i, h1, h2, h3, h4⟩ := info_parts res_info
  simp only [Instr.makeSlice, asInt, asIntOf, newRow]
  simp [run_underlying und34, typeInfo, h1, h4, show IntKind.i64.wrap 1 = 1 by decide]
  exact congrArg (fun a => w.alloc (.cells a 45)) (show madeCells (Value.agg #[.string ⟨#[]⟩, .bool false]).cells (1 * 2) = #[.string ⟨#[]⟩, .bool false] from by kernel_rfl)
theorem prs_new (w : World) : Prs (w.alloc (.cells #[.string ⟨#[]⟩, .bool false] 45)) (some ⟨w.heap.size, 0, none⟩) 1 [(emp, false)] :=
  ⟨rfl, fun _ => ⟨w.heap.size, 0, rfl, by simp, fun i v hv => by
    rw [Nat.zero_add, (Blk.new w 45 #[.string ⟨#[]⟩, .bool false]).cell]
    simpa [flatP, emp] using hv⟩⟩
def rowPD (k : Nat) : Array Value := #[.int .i64 0, .int .i64 1, .slice (some ⟨k, 0, none⟩) 1 1, .slice (some ⟨k + 1, 0, none⟩) 1 1, .bool false]
def rowGD (f : Int) (k : Nat) : Array Value := #[.int .i64 f, .int .i64 3, .slice (some ⟨k + 1 + 1 + 1, 0, none⟩) 1 1, .slice (some ⟨k + 1 + 1 + 1 + 1, 0, none⟩) 1 1, .bool false]
structure FxS (w : World) (k : Nat) (f : Int) : Prop where
  blkP : Blk w (k + 1 + 1) 89 (rowPD k)
  blkG : Blk w (k + 1 + 1 + 1 + 1 + 1) 89 (rowGD f k)
  oA : Ops w (some ⟨k, 0, none⟩) 1 pA
  rA : Prs w (some ⟨k + 1, 0, none⟩) 1 [(emp, false)]
  oB : Ops w (some ⟨k + 1 + 1 + 1, 0, none⟩) 1 pB
  rB : Prs w (some ⟨k + 1 + 1 + 1 + 1, 0, none⟩) 1 [(emp, false)]
theorem FxS.new_ {w w' : World} {k : Nat} {f : Int} (h : FxS w k f) (hc : NewW w w') : FxS w' k f :=
  ⟨h.blkP.ch hc (fun h => h), h.blkG.ch hc (fun h => h), h.oA.new_ hc, h.rA.new_ hc, h.oB.new_ hc, h.rB.new_ hc⟩
theorem FxS.set_ {w : World} {k : Nat} {f : Int} (h : FxS w k f) (x : Int) : FxS (w.setCell ⟨k + 1 + 1 + 1 + 1 + 1, 0, none⟩ (.int .i64 x)) k x := by
  have hc : Ch (fun g => g = k + 1 + 1 + 1 + 1 + 1) w (w.setCell ⟨k + 1 + 1 + 1 + 1 + 1, 0, none⟩ (.int .i64 x)) := Ch.setCell (Ch.refl (fun g => g = k + 1 + 1 + 1 + 1 + 1) w) (p := ⟨k + 1 + 1 + 1 + 1 + 1, 0, none⟩) (.inl rfl) _
  have hs : ∀ {g : Nat}, g < k + 1 + 1 + 1 + 1 + 1 → ∀ b off, (some (⟨g, 0, none⟩ : Addr)) = some ⟨b, off, none⟩ → ¬ b = k + 1 + 1 + 1 + 1 + 1 := fun hg b off e => by
    injection e with e
    injection e with e _ _
    omega
  exact ⟨h.blkP.ch hc (by omega), h.blkG.set_ 0 _, ⟨h.oA.1, h.oA.2.ch hc (hs (by omega))⟩, ⟨h.rA.1, h.rA.2.ch hc (hs (by omega))⟩, ⟨h.oB.1, h.oB.2.ch hc (hs (by omega))⟩, ⟨h.rB.1, h.rB.2.ch hc (hs (by omega))⟩⟩
theorem fx_start (w : World) : ∃ w6, (((((w.alloc (.cells #[.int .i64 2, .string ⟨#[97]⟩, .string ⟨#[49]⟩, .int .i64 0] 41)).alloc (.cells #[.string ⟨#[]⟩, .bool false] 45)).alloc (.cells #[.int .i64 0, .int .i64 1, .slice (some ⟨w.heap.size, 0, none⟩) 1 1, .slice (some ⟨w.heap.size + 1, 0, none⟩) 1 1, .bool false] 89)).alloc
      (.cells #[.int .i64 1, .string ⟨#[97]⟩, .string ⟨#[]⟩, .int .i64 0] 41)).alloc (.cells #[.string ⟨#[]⟩, .bool false] 45)).alloc (.cells #[.int .i64 2, .int .i64 3, .slice (some ⟨w.heap.size + 1 + 1 + 1, 0, none⟩) 1 1, .slice (some ⟨w.heap.size + 1 + 1 + 1 + 1, 0, none⟩) 1 1, .bool false] 89) = w6 ∧
    w6.heap.size = w.heap.size + 1 + 1 + 1 + 1 + 1 + 1 ∧ NewW w w6 ∧ FxS w6 w.heap.size 2 := by
  refine ⟨_, rfl, by simp, (((((((Ch.refl (fun _ => False) w).alloc _).alloc _).alloc _).alloc _).alloc _).alloc _), ?_⟩
  have nw : ∀ (w : World) o, NewW w (w.alloc o) := fun w o => (Ch.refl (fun _ => False) w).alloc o
  have s1 : (w.alloc (.cells #[.int .i64 2, .string ⟨#[97]⟩, .string ⟨#[49]⟩, .int .i64 0] 41)).heap.size = w.heap.size + 1 := by simp
  obtain ⟨w1, hw1⟩ : ∃ w1, w.alloc (.cells #[.int .i64 2, .string ⟨#[97]⟩, .string ⟨#[49]⟩, .int .i64 0] 41) = w1 := ⟨_, rfl⟩
  have o1 : Ops w1 (some ⟨w.heap.size, 0, none⟩) 1 pA := by rw [← hw1]; exact ops_new w pA
  rw [hw1] at s1 ⊢
  obtain ⟨w2, hw2⟩ : ∃ w2, w1.alloc (.cells #[.string ⟨#[]⟩, .bool false] 45) = w2 := ⟨_, rfl⟩
  have s2 : w2.heap.size = w.heap.size + 1 + 1 := by rw [← hw2]; simp [s1]
  have r1 : Prs w2 (some ⟨w.heap.size + 1, 0, none⟩) 1 [(emp, false)] := by rw [← hw2, ← s1]; exact prs_new w1
  have o1 := o1.new_ (nw w1 (.cells #[.string ⟨#[]⟩, .bool false] 45))
  rw [hw2] at o1 ⊢
  obtain ⟨w3, hw3⟩ : ∃ w3, w2.alloc (.cells (rowPD w.heap.size) 89) = w3 := ⟨_, rfl⟩
  have s3 : w3.heap.size = w.heap.size + 1 + 1 + 1 := by rw [← hw3]; simp [s2]
  have b1 : Blk w3 (w.heap.size + 1 + 1) 89 (rowPD w.heap.size) := by rw [← hw3, ← s2]; exact Blk.new w2 89 _
  have o1 := o1.new_ (nw w2 (.cells (rowPD w.heap.size) 89))
  have r1 := r1.new_ (nw w2 (.cells (rowPD w.heap.size) 89))
  rw [hw3] at o1 r1
  unfold rowPD at hw3
  rw [hw3]
  obtain ⟨w4, hw4⟩ : ∃ w4, w3.alloc (.cells #[.int .i64 1, .string ⟨#[97]⟩, .string ⟨#[]⟩, .int .i64 0] 41) = w4 := ⟨_, rfl⟩
  have s4 : w4.heap.size = w.heap.size + 1 + 1 + 1 + 1 := by rw [← hw4]; simp [s3]
  have o2 : Ops w4 (some ⟨w.heap.size + 1 + 1 + 1, 0, none⟩) 1 pB := by rw [← hw4, ← s3]; exact ops_new w3 pB
  have o1 := o1.new_ (nw w3 (.cells #[.int .i64 1, .string ⟨#[97]⟩, .string ⟨#[]⟩, .int .i64 0] 41))
  have r1 := r1.new_ (nw w3 (.cells #[.int .i64 1, .string ⟨#[97]⟩, .string ⟨#[]⟩, .int .i64 0] 41))
  have b1 := Blk.ch b1 (nw w3 (.cells #[.int .i64 1, .string ⟨#[97]⟩, .string ⟨#[]⟩, .int .i64 0] 41)) (fun h => h)
  rw [hw4] at o1 r1 b1 ⊢
  obtain ⟨w5, hw5⟩ : ∃ w5, w4.alloc (.cells #[.string ⟨#[]⟩, .bool false] 45) = w5 := ⟨_, rfl⟩
  have s5 : w5.heap.size = w.heap.size + 1 + 1 + 1 + 1 + 1 := by rw [← hw5]; simp [s4]
  have r2 : Prs w5 (some ⟨w.heap.size + 1 + 1 + 1 + 1, 0, none⟩) 1 [(emp, false)] := by rw [← hw5, ← s4]; exact prs_new w4
  have n5 := nw w4 (.cells #[.string ⟨#[]⟩, .bool false] 45)
  rw [hw5] at n5 ⊢
  have n6 := nw w5 (.cells (rowGD 2 w.heap.size) 89)
  have b2 : Blk (w5.alloc (.cells (rowGD 2 w.heap.size) 89)) (w.heap.size + 1 + 1 + 1 + 1 + 1) 89 (rowGD 2 w.heap.size) := by rw [← s5]; exact Blk.new w5 89 _
  exact ⟨Blk.ch (Blk.ch b1 n5 (fun h => h)) n6 (fun h => h), b2, (o1.new_ n5).new_ n6, (r1.new_ n5).new_ n6, (o2.new_ n5).new_ n6, r2.new_ n6⟩
theorem deeds2 {w : World} {k h : Nat} {f : Int} (H : FxS w k f) (hk : w.heap.size = h) :
    Deeds (w.alloc (.cells #[.int .i64 0, .int .i64 1, .slice (some ⟨k, 0, none⟩) 1 1, .slice (some ⟨k + 1, 0, none⟩) 1 1, .bool false, .int .i64 f, .int .i64 3, .slice (some ⟨k + 1 + 1 + 1, 0, none⟩) 1 1, .slice (some ⟨k + 1 + 1 + 1 + 1, 0, none⟩) 1 1, .bool false] 89)) (some ⟨h, 0, none⟩) 2 [dA, dB f] := by
  subst hk
  have hb := Blk.new w 89 #[.int .i64 0, .int .i64 1, .slice (some ⟨k, 0, none⟩) 1 1, .slice (some ⟨k + 1, 0, none⟩) 1 1, .bool false, .int .i64 f, .int .i64 3, .slice (some ⟨k + 1 + 1 + 1, 0, none⟩) 1 1, .slice (some ⟨k + 1 + 1 + 1 + 1, 0, none⟩) 1 1, .bool false]
  have hc := (Ch.refl (fun _ => False) w).alloc (.cells #[.int .i64 0, .int .i64 1, .slice (some ⟨k, 0, none⟩) 1 1, .slice (some ⟨k + 1, 0, none⟩) 1 1, .bool false, .int .i64 f, .int .i64 3, .slice (some ⟨k + 1 + 1 + 1, 0, none⟩) 1 1, .slice (some ⟨k + 1 + 1 + 1 + 1, 0, none⟩) 1 1, .bool false] 89)
  have l1 : 1 ≤ maxLen := by decide
  refine ⟨rfl, by decide, fun _ => ⟨w.heap.size, 0, rfl, by simp, fun i d hi => ?_⟩⟩
  rcases i with _ | _ | i
  · simp only [List.getElem?_cons_zero, Option.some.injEq] at hi
    subst hi
    exact ⟨hb.cell 0, hb.cell 1, ⟨_, 1, hb.cell 2, H.oA.new_ hc⟩, ⟨_, 1, hb.cell 3, H.rA.new_ hc⟩, hb.cell 4, l1, l1⟩
  · simp only [List.getElem?_cons_succ, List.getElem?_cons_zero, Option.some.injEq, Nat.zero_add] at hi
    subst hi
    exact ⟨hb.cell 5, hb.cell 6, ⟨_, 1, hb.cell 7, H.oB.new_ hc⟩, ⟨_, 1, hb.cell 8, H.rB.new_ hc⟩, hb.cell 9, l1, l1⟩
  · simp at hi
theorem deeds1 (w : World) : Deeds (w.alloc (.cells #[.int .i64 1, .int .i64 0, .slice none 0 0, .slice none 0 0, .bool false] 89)) (some ⟨w.heap.size, 0, none⟩) 1 H3 := by
  have hb := Blk.new w 89 #[.int .i64 1, .int .i64 0, .slice none 0 0, .slice none 0 0, .bool false]
  have l1 : 0 ≤ maxLen := by decide
  refine ⟨rfl, by decide, fun _ => ⟨w.heap.size, 0, rfl, by simp, fun i d hi => ?_⟩⟩
  rcases i with _ | i
  · simp only [List.getElem?_cons_zero, Option.some.injEq, H3] at hi
    subst hi
    exact ⟨hb.cell 0, hb.cell 1, ⟨none, 0, hb.cell 2, rfl, Rd.nil_ _ _⟩, ⟨none, 0, hb.cell 3, rfl, Rd.nil_ _ _⟩, hb.cell 4, l1, l1⟩
  · simp [H3] at hi
theorem plans2 {w : World} {k : Nat} {f : Int} (H : FxS w k f) : Plans (w.alloc (.cells #[.slice (some ⟨k, 0, none⟩) 1 1, .slice (some ⟨k + 1 + 1 + 1, 0, none⟩) 1 1] 31)) (some ⟨w.heap.size, 0, none⟩) 2 [pA, pB] := by
  have hb := Blk.new w 31 #[.slice (some ⟨k, 0, none⟩) 1 1, .slice (some ⟨k + 1 + 1 + 1, 0, none⟩) 1 1]
  have hc := (Ch.refl (fun _ => False) w).alloc (.cells #[.slice (some ⟨k, 0, none⟩) 1 1, .slice (some ⟨k + 1 + 1 + 1, 0, none⟩) 1 1] 31)
  have l1 : 1 ≤ maxLen := by decide
  refine ⟨rfl, by decide, fun _ => ⟨w.heap.size, 0, rfl, by simp, fun i d hi => ?_⟩⟩
  rcases i with _ | _ | i
  · simp only [List.getElem?_cons_zero, Option.some.injEq] at hi
    subst hi
    exact ⟨⟨_, 1, hb.cell 0, H.oA.new_ hc⟩, l1⟩
  · simp only [List.getElem?_cons_succ, List.getElem?_cons_zero, Option.some.injEq, Nat.zero_add] at hi
    subst hi
    exact ⟨⟨_, 1, hb.cell 1, H.oB.new_ hc⟩, l1⟩
  · simp at hi
theorem nums2 {w w1 : World} {h : Nat} (a b : Int) (hk : w.heap.size = h) : Nums (w.alloc (.cells #[.int .i64 a, .int .i64 b] 3)) (some ⟨h, 0, none⟩) 2 [a, b] := by
  subst hk
  exact ⟨rfl, fun _ => ⟨w.heap.size, 0, rfl, by simp, fun i v hv => by
    rw [Nat.zero_add, (Blk.new w 3 #[.int .i64 a, .int .i64 b]).cell]
    simpa using hv⟩⟩
theorem expl_c {w : World} {A : Option Addr} {n c : Nat} {l : Hist} {r : Option (List Nat)} {v : Int} (h : Deeds w A n l) (hr : ∀ d ∈ l, d.res.length ≤ 1000) (hE : Env w) (h1 : explO l = r) (h2 : rightD l = v) :
    Calls Tryd.prog 43 #[.slice A n c] w fun e w' => ∃ (A' : Option Addr) (c' : Nat), e = .returned (.tuple #[.slice A' (r.getD []).length c', .bool r.isSome, .int .i64 v]) ∧ Nums w' A' (r.getD []).length (natL (r.getD [])) ∧ NewW w w' := by
  subst h1 h2
  exact Explain_any h hr hE
theorem check_c {w : World} {A A2 : Option Addr} {n c n2 c2 : Nat} {l : Hist} {o : List Int} {b : Bool} {v : Int} (h : Deeds w A n l) (hr : ∀ d ∈ l, d.res.length ≤ 1000) (hO : Nums w A2 n2 o) (hn2 : n2 ≤ 50) (hE : Env w) (h1 : checkO l o = b) (h2 : rightD l = v) :
    Calls Tryd.prog 47 #[.slice A n c, .slice A2 n2 c2] w fun e w' => e = .returned (.tuple #[.bool b, .int .i64 v]) ∧ NewW w w' := by
  subst h1 h2
  exact Check_any h hr hO hn2 hE
theorem replay_c {w : World} {A : Option Addr} {c : Nat} (hP : Plans w A 2 [pA, pB]) (hE : Env w) :
    Calls Tryd.prog 50 #[.slice A 2 c] w fun e w' => ∃ (b1 o1 c1 : Nat) (A2 : Option Addr) (c2 b3 o3 c3 : Nat), e = .returned (.tuple #[.slice (some ⟨b1, o1, none⟩) 2 c1, .slice A2 1 c2]) ∧
      w'.cell? ⟨b1, o1 + 1, none⟩ = some (.slice (some ⟨b3, o3, none⟩) 1 c3) ∧ w'.cell? ⟨b3, o3, none⟩ = some (.string ⟨#[49]⟩) ∧ NewW w w' := by
  refine (Replay_any hP (by decide) hE).mono ?_
  rintro e w' ⟨A1, A2, c1, c2, vals, M, rfl, ho, hr, hs, hw, hm, hN⟩
  obtain ⟨A3, c3, hv, hrow⟩ := hr.at_ 1 pB (by omega) rfl
  rw [out_row] at hv hrow
  rw [fAt2] at hs
  obtain ⟨b1, o1, rfl, _, hc1⟩ := Rd.own ho (ne_of_get hv)
  obtain ⟨b3, o3, rfl, _, hc3⟩ := Rd.own hrow (by decide)
  refine ⟨b1, o1, c1, A2, c2, b3, o3, c3, by rw [all_fA hs], hc1 1 _ hv, hc3 0 _ rfl, hN⟩
theorem res_small (f : Int) : ∀ d ∈ [dA, dB f], d.res.length ≤ 1000 := by
  intro d hd
  simp only [List.mem_cons, List.not_mem_nil, or_false] at hd
  rcases hd with rfl | rfl <;> exact (by decide : (1 : Nat) ≤ 1000)
theorem res_small3 : ∀ d ∈ H3, d.res.length ≤ 1000 := by
  intro d hd
  simp only [H3, List.mem_cons, List.not_mem_nil, or_false] at hd
  subst hd
  exact Nat.zero_le _
end Go.Proofs.YtbggadhaaphmcaaDoor
