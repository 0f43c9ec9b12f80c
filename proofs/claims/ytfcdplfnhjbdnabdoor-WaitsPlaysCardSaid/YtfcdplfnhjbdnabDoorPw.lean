/- WaitsPlays: the law's walk. -/
import Derived.Test.YtfcdplfnhjbdnabDoorRb
import Derived.Test.YtfcdplfnhjbdnabDoorEw
import Derived.Test.YtfcdplfnhjbdnabDoorEl
import Derived.Deep.RegionHeld3
import Derived.Laws.StructEq
namespace Go.Proofs.YtfcdplfnhjbdnabDoor
open Go.RowKit Go.Sort
set_option linter.unusedVariables false

def ActsAt (w : World) (A : Option Addr) (n : Nat) : Prop :=
  n ≤ maxLen ∧ (0 < n → ∃ b off, A = some ⟨b, off, none⟩ ∧ b < w.heap.size ∧ ∀ i, i < n → ∃ K X Y : Int, (0 ≤ K ∧ K ≤ 255) ∧ X ≤ 9223372036854775807 ∧
    w.cell? ⟨b, off + i * 3, none⟩ = some (.int .u8 K) ∧ w.cell? ⟨b, off + i * 3 + 1, none⟩ = some (.int .i64 X) ∧ w.cell? ⟨b, off + i * 3 + 2, none⟩ = some (.int .i64 Y))
/-- What holds between two acts. -/
structure ST (w0 : World) (gb rb k : Nat) (G : List Nd) (N E : List (Int × Int)) (w : World) : Prop where
  kg : KG w0 gb G w
  rg : RG w0 rb N E w
  rel : Rel G N E
  len : E.length ≤ k
/-- Amid an act. -/
structure PQ (w0 : World) (gb rb b0 : Nat) (K X Y : Int) (G : List Nd) (N E : List (Int × Int)) (w : World) : Prop where
  kg : KG w0 gb G w
  rg : RG w0 rb N E w
  bx : Blk w b0 49 #[.int .u8 K, .int .i64 X, .int .i64 Y]
section
variable {w0 w w' : World} {gb rb b0 k : Nat} {K X Y : Int} {G G' : List Nd} {N E N' E' : List (Int × Int)}
theorem PQ.drew (h : PQ w0 gb rb b0 K X Y G N E w) : PQ w0 gb rb b0 K X Y G N E w.drew := ⟨h.kg.new_ (Ch.drew (Ch.refl _ _)), h.rg.new_ (Ch.drew (Ch.refl _ _)), h.bx.drew⟩
theorem PQ.drewN (h : PQ w0 gb rb b0 K X Y G N E w) (n : Nat) : PQ w0 gb rb b0 K X Y G N E (w.drewN n) := ⟨h.kg.new_ (Ch.drewN (Ch.refl _ _) n), h.rg.new_ (Ch.drewN (Ch.refl _ _) n), h.bx.drewN n⟩
theorem PQ.cells (h : PQ w0 gb rb b0 K X Y G N E w) : w.cell? ⟨b0, 1, none⟩ = some (.int .i64 X) ∧ w.cell? ⟨b0, 2, none⟩ = some (.int .i64 Y) := ⟨by rw [h.bx.cell]; rfl, by rw [h.bx.cell]; rfl⟩
theorem pq_begin (h : ST w0 gb rb k G N E w) (K X Y : Int) : PQ w0 gb rb w.heap.size K X Y G N E (w.alloc (.cells #[.int .u8 K, .int .i64 X, .int .i64 Y] 49)) :=
  ⟨h.kg.new_ (Ch.alloc (Ch.refl _ _) _), h.rg.new_ (Ch.alloc (Ch.refl _ _) _), Blk.new _ _ _⟩
theorem pq_end (h : PQ w0 gb rb b0 K X Y G N E w) (hr : Rel G N E) (hk : E.length ≤ k) : ST w0 gb rb k G N E w := ⟨h.kg, h.rg, hr, hk⟩
theorem pq_g {f : FuncId} {args : Array Value} {r r' : Ending} (hc : ∀ w, KG w0 gb G w → Calls Tryd.prog f args w fun e w' => e = r ∧ KG w0 gb G' w' ∧ KpT w w') (hr : r = r') :
    ∀ N E w, PQ w0 gb rb b0 K X Y G N E w → Calls Tryd.prog f args w fun e w' => e = r' ∧ PQ w0 gb rb b0 K X Y G' N E w' :=
  fun N E w h => (hc w h.kg).mono fun e w' ⟨h1, h2, h3⟩ => ⟨h1.trans hr, h2, h.rg.kept h3 h2.below, h3 _ _ _ (by decide) (by decide) h.bx⟩
theorem pq_r {f : FuncId} {args : Array Value} {r r' : Ending} (hc : ∀ w, RG w0 rb N E w → Calls Tryd.prog f args w fun e w' => e = r ∧ RG w0 rb N' E' w' ∧ KpR w w') (hr : r = r') :
    ∀ G w, PQ w0 gb rb b0 K X Y G N E w → Calls Tryd.prog f args w fun e w' => e = r' ∧ PQ w0 gb rb b0 K X Y G N' E' w' :=
  fun G w h => (hc w h.rg).mono fun e w' ⟨h1, h2, h3⟩ => ⟨h1.trans hr, h.kg.kept h3 h2.below, h2, h3 _ _ _ (.inr (.inr rfl)) h.bx⟩
theorem st_new (h : KG w0 gb [] w) : ST w0 gb w.heap.size 0 [] [] [] (w.alloc (.cells #[.slice none 0 0, .slice none 0 0] 47)) :=
  ⟨h.new_ (Ch.alloc (Ch.refl _ _) _), ⟨⟨.slice none 0 0, .slice none 0 0, Blk.new _ _ _, ⟨rfl, .inl ⟨rfl, rfl⟩⟩, ⟨rfl, .inl ⟨rfl, rfl⟩⟩, h.size, by simp, by simp⟩, Ch.below h.below (Ch.alloc (Ch.refl (fun _ => False) _) _) (fun _ h => h.elim) h.size⟩, rel_nil, Nat.le_refl _⟩
/-- The oldest one, as the program tells it. -/
def OldG (G : List Nd) (o : Int) (s : Bool) : Prop := (G = [] ∧ o = 0 ∧ s = false) ∨ (∃ y : Nd, y ∈ G ∧ o = y.id ∧ s = true ∧ ∀ x : Nd, x ∈ G → bef x y = false)
end
theorem tup2 {a a' : Int} {b b' : Bool} (h : a = a') (h' : b = b') : Ending.returned (.tuple #[.int .i64 a, .bool b]) = .returned (.tuple #[.int .i64 a', .bool b']) := by rw [h, h']
set_option maxRecDepth 100000 in
set_option maxHeartbeats 8000000 in
theorem plays_walk (A1 : Option Addr) (n1 c1 : Nat) (a b : Int) (w : World) (hT : Tab w) (hA : ActsAt w A1 n1) :
    Calls Tryd.prog 6 #[.slice A1 n1 c1, .int .i64 a, .int .i64 b] w fun e w' => e = .returned (.bool true) ∧ Below w.heap.size w w' := by
  have hm1 : (n1 : Int) ≤ 9223372036854775807 := by have := hA.1; unfold maxLen at this; omega
  have HA := Lib.hid hA
  have HFX := Lib.hid (fixed_any w hT)
  have HTB := Lib.hid (fun w' (hb : Below w.heap.size w w') => (show Tab w' from fun j hj => (hb.cell (block_lt_of_cell (hT j hj))).trans (hT j hj)))
  clear hA hT
  go_enter Tryd.func6, Tryd.ntmps6
  go_wp2_with fail
  refine HFX.out.mono ?_
  rintro e w1 ⟨rfl, hb⟩
  dsimp only
  have HB := Lib.hid hb
  clear hb HFX
  by_cases hk1 : 100 < n1
  · have d : decide (100 < (n1 : Int)) = true := by simp; omega
    have d' : decide (100 < n1) = true := by simpa using hk1
    go_wp2_with fail
    go_ret
    exact ⟨rfl, HB.out⟩
  have d1 : decide (100 < (n1 : Int)) = false := by simp; omega
  have d1' : decide (100 < n1) = false := by simp; omega
  have hn100 : n1 ≤ 100 := by omega
  have HNW := Lib.hid (kg_new w w1 HB.out)
  go_wp2_with fail
  refine HNW.out.mono ?_
  rintro e w2 ⟨rfl, hK, hN⟩
  dsimp only
  have HS := Lib.hid (st_new hK)
  clear hK hN HNW HB hk1 d1 d1'
  generalize w1.heap.size = gb at *
  go_upto_region 6 with (fail)
  generalize w2.alloc (.cells #[.slice none 0 0, .slice none 0 0] 47) = w3 at *
  generalize w2.heap.size = rb at *
  go_wp2_with fail
  go_loopw [32] (fun i w' => ∃ (q : Nat) (G : List Nd) (N E : List (Int × Int)), q ≤ n1 ∧ i = .int .i64 q ∧ ST w gb rb q G N E w') (fun i _ => n1 - (intOf i).toNat)
  case atStart => exact ⟨0, [], [], [], by omega, rfl, HS.out⟩
  case round =>
    obtain ⟨q, G, N, E, hq, rfl, hS⟩ := hrel
    by_cases hlt : q < n1
    · obtain ⟨b0, off, rfl, hb0, hc⟩ := HA.out.2 (by omega)
      obtain ⟨K, X, Y, ⟨hK0, hK1⟩, hX, x0, x1, x2⟩ := hc q hlt
      have x0 := (hS.kg.below.cell (p := ⟨b0, off + q * 3, none⟩) hb0).trans x0
      have x1 := (hS.kg.below.cell (p := ⟨b0, off + q * 3 + 1, none⟩) hb0).trans x1
      have x2 := (hS.kg.below.cell (p := ⟨b0, off + q * 3 + 2, none⟩) hb0).trans x2
      have HQ := Lib.hid (pq_begin hS K X Y)
      have HOK := Lib.hid hS.kg.ok
      have HRL := Lib.hid hS.rel
      have HEL := Lib.hid hS.len
      have HX := Lib.hid hX
      clear hc hS HS hX
      rcases (by omega : K % 3 = 0 ∨ K % 3 = 1 ∨ K % 3 = 2) with e | e | e
      · have d0 : (K % 3 == 0) = true := by rw [e]; rfl
        obtain ⟨R, hR⟩ : ∃ R, nodeE G X Y = R := ⟨_, rfl⟩
        have HG := Lib.hid (pq_g (rb := rb) (b0 := wr.heap.size) (K := K) (X := X) (Y := Y) (fun w' (h : KG w gb G w') => node_any h X Y HX.out) (r' := .returned (.int .i64 R)) (by rw [hR]))
        have HR := Lib.hid (pq_r (gb := gb) (b0 := wr.heap.size) (K := K) (X := X) (Y := Y) (fun w' (h : RG w rb N E w') => node_r h X Y) (r' := .returned (.int .i64 R)) (by rw [← hR, ← rel_nodeE HOK.out HRL.out]))
        have HR1 := Lib.hid (rel_node HOK.out HRL.out X Y)
        have HR2 := Lib.hid (show (E).length ≤ q + 1 from by have := HEL.out; omega)
        have hxx : (R != R) = false := by simp
        clear e hR
        generalize nodeL G X Y = G1 at *
        generalize nodeRL N X Y = N1 at *
        go_wp2_with fail
        generalize wr.alloc (.cells #[.int .u8 K, .int .i64 X, .int .i64 Y] 49) = wq at *
        generalize wr.heap.size = bx at *
        obtain ⟨k1, k2⟩ := HQ.out.cells
        clear x0 x1 x2
        go_region_held3 (fun w' => w'.cell? ⟨bx, 1, none⟩ = some (.int .i64 X) ∧ w'.cell? ⟨bx, 2, none⟩ = some (.int .i64 Y)) (first | with_reducible exact PQ.cells hQa | with_reducible exact PQ.cells (PQ.drew hQa) | with_reducible exact PQ.cells (PQ.drew (PQ.drew hQa)) | with_reducible exact PQ.cells (PQ.drewN hQa _) | with_reducible exact PQ.cells hQb | with_reducible exact PQ.cells (PQ.drew hQb) | with_reducible exact PQ.cells (PQ.drew (PQ.drew hQb)) | with_reducible exact PQ.cells (PQ.drewN hQb _) | with_reducible exact PQ.cells HQ.out | with_reducible exact PQ.cells (PQ.drew HQ.out) | with_reducible exact PQ.cells (PQ.drew (PQ.drew HQ.out)) | with_reducible exact PQ.cells (PQ.drewN HQ.out _))
          (first
            | (go_at_call 20; (first | with_reducible refine (HG.out _ _ _ hQb).mono ?_ | with_reducible refine (HG.out _ _ _ (PQ.drew hQb)).mono ?_ | with_reducible refine (HG.out _ _ _ (PQ.drew (PQ.drew hQb))).mono ?_ | with_reducible refine (HG.out _ _ _ (PQ.drewN hQb _)).mono ?_ | with_reducible refine (HG.out _ _ _ HQ.out).mono ?_ | with_reducible refine (HG.out _ _ _ (PQ.drew HQ.out)).mono ?_ | with_reducible refine (HG.out _ _ _ (PQ.drew (PQ.drew HQ.out))).mono ?_ | with_reducible refine (HG.out _ _ _ (PQ.drewN HQ.out _)).mono ?_); rintro e wa ⟨rfl, hQa⟩)
            | (go_at_call 21; (first | with_reducible refine (HR.out _ _ hQa).mono ?_ | with_reducible refine (HR.out _ _ (PQ.drew hQa)).mono ?_ | with_reducible refine (HR.out _ _ (PQ.drew (PQ.drew hQa))).mono ?_ | with_reducible refine (HR.out _ _ (PQ.drewN hQa _)).mono ?_ | with_reducible refine (HR.out _ _ HQ.out).mono ?_ | with_reducible refine (HR.out _ _ (PQ.drew HQ.out)).mono ?_ | with_reducible refine (HR.out _ _ (PQ.drew (PQ.drew HQ.out))).mono ?_ | with_reducible refine (HR.out _ _ (PQ.drewN HQ.out _)).mono ?_); rintro e wb ⟨rfl, hQb⟩))
        all_goals
          first
            | have HZ := Lib.hid (pq_end (show PQ w gb rb bx K X Y G1 N1 E wa from hQa) HR1.out HR2.out)
            | have HZ := Lib.hid (pq_end (show PQ w gb rb bx K X Y G1 N1 E wb from hQb) HR1.out HR2.out)
          clear hQa hQb k1 k2 HQ HG HR
          go_wp2_with fail
          exact ⟨⟨q + 1, _, _, _, by omega, by go_num, HZ.out⟩, by simp [intOf]; omega⟩
      · have d0 : (K % 3 == 0) = false := by rw [e]; rfl
        have d1 : (K % 3 == 1) = true := by rw [e]; rfl
        obtain ⟨R, hR⟩ : ∃ R, edgeE G X Y = R := ⟨_, rfl⟩
        have HG := Lib.hid (pq_g (rb := rb) (b0 := wr.heap.size) (K := K) (X := X) (Y := Y) (fun w' (h : KG w gb G w') => edge_any h X Y) (r' := .returned (.int .i64 R)) (by rw [hR]))
        have HR := Lib.hid (pq_r (gb := gb) (b0 := wr.heap.size) (K := K) (X := X) (Y := Y) (fun w' (h : RG w rb N E w') => edge_r h (by have := HEL.out; omega) X Y) (r' := .returned (.int .i64 R)) (by rw [← hR, ← rel_edgeE HRL.out]))
        have HR1 := Lib.hid (rel_edge HOK.out HRL.out X Y)
        have HR2 := Lib.hid (show (edgeRL N E X Y).length ≤ q + 1 from by have := HEL.out; have := edgeRL_len N E X Y; omega)
        have hxx : (R != R) = false := by simp
        clear e hR
        generalize edgeL G X Y = G1 at *
        generalize edgeRL N E X Y = E1 at *
        go_wp2_with fail
        generalize wr.alloc (.cells #[.int .u8 K, .int .i64 X, .int .i64 Y] 49) = wq at *
        generalize wr.heap.size = bx at *
        obtain ⟨k1, k2⟩ := HQ.out.cells
        clear x0 x1 x2
        go_region_held3 (fun w' => w'.cell? ⟨bx, 1, none⟩ = some (.int .i64 X) ∧ w'.cell? ⟨bx, 2, none⟩ = some (.int .i64 Y)) (first | with_reducible exact PQ.cells hQa | with_reducible exact PQ.cells (PQ.drew hQa) | with_reducible exact PQ.cells (PQ.drew (PQ.drew hQa)) | with_reducible exact PQ.cells (PQ.drewN hQa _) | with_reducible exact PQ.cells hQb | with_reducible exact PQ.cells (PQ.drew hQb) | with_reducible exact PQ.cells (PQ.drew (PQ.drew hQb)) | with_reducible exact PQ.cells (PQ.drewN hQb _) | with_reducible exact PQ.cells HQ.out | with_reducible exact PQ.cells (PQ.drew HQ.out) | with_reducible exact PQ.cells (PQ.drew (PQ.drew HQ.out)) | with_reducible exact PQ.cells (PQ.drewN HQ.out _))
          (first
            | (go_at_call 9; (first | with_reducible refine (HG.out _ _ _ hQb).mono ?_ | with_reducible refine (HG.out _ _ _ (PQ.drew hQb)).mono ?_ | with_reducible refine (HG.out _ _ _ (PQ.drew (PQ.drew hQb))).mono ?_ | with_reducible refine (HG.out _ _ _ (PQ.drewN hQb _)).mono ?_ | with_reducible refine (HG.out _ _ _ HQ.out).mono ?_ | with_reducible refine (HG.out _ _ _ (PQ.drew HQ.out)).mono ?_ | with_reducible refine (HG.out _ _ _ (PQ.drew (PQ.drew HQ.out))).mono ?_ | with_reducible refine (HG.out _ _ _ (PQ.drewN HQ.out _)).mono ?_); rintro e wa ⟨rfl, hQa⟩)
            | (go_at_call 22; (first | with_reducible refine (HR.out _ _ hQa).mono ?_ | with_reducible refine (HR.out _ _ (PQ.drew hQa)).mono ?_ | with_reducible refine (HR.out _ _ (PQ.drew (PQ.drew hQa))).mono ?_ | with_reducible refine (HR.out _ _ (PQ.drewN hQa _)).mono ?_ | with_reducible refine (HR.out _ _ HQ.out).mono ?_ | with_reducible refine (HR.out _ _ (PQ.drew HQ.out)).mono ?_ | with_reducible refine (HR.out _ _ (PQ.drew (PQ.drew HQ.out))).mono ?_ | with_reducible refine (HR.out _ _ (PQ.drewN HQ.out _)).mono ?_); rintro e wb ⟨rfl, hQb⟩))
        all_goals
          first
            | have HZ := Lib.hid (pq_end (show PQ w gb rb bx K X Y G1 N E1 wa from hQa) HR1.out HR2.out)
            | have HZ := Lib.hid (pq_end (show PQ w gb rb bx K X Y G1 N E1 wb from hQb) HR1.out HR2.out)
          clear hQa hQb k1 k2 HQ HG HR
          go_wp2_with fail
          exact ⟨⟨q + 1, _, _, _, by omega, by go_num, HZ.out⟩, by simp [intOf]; omega⟩
      · have d0 : (K % 3 == 0) = false := by rw [e]; rfl
        have d1 : (K % 3 == 1) = false := by rw [e]; rfl
        have d2 : (K % 3 == 2) = true := by rw [e]; rfl
        obtain ⟨R, hR⟩ : ∃ R, dropE G X = R := ⟨_, rfl⟩
        have HG := Lib.hid (pq_g (rb := rb) (b0 := wr.heap.size) (K := K) (X := X) (Y := Y) (fun w' (h : KG w gb G w') => drop_any h X) (r' := .returned (.int .i64 R)) (by rw [hR]))
        have HR := Lib.hid (pq_r (gb := gb) (b0 := wr.heap.size) (K := K) (X := X) (Y := Y) (fun w' (h : RG w rb N E w') => drop_r h X) (r' := .returned (.int .i64 R)) (by rw [← hR, ← rel_dropE HRL.out]))
        have HR1 := Lib.hid (rel_drop HOK.out HRL.out X)
        have HR2 := Lib.hid (show (dropRE N E X).length ≤ q + 1 from by have := HEL.out; have := dropRE_len N E X; omega)
        have hxx : (R != R) = false := by simp
        clear e hR
        generalize dropI G X = G1 at *
        generalize dropRN N X = N1 at *
        generalize dropRE N E X = E1 at *
        go_wp2_with fail
        generalize wr.alloc (.cells #[.int .u8 K, .int .i64 X, .int .i64 Y] 49) = wq at *
        generalize wr.heap.size = bx at *
        obtain ⟨k1, k2⟩ := HQ.out.cells
        clear x0 x1 x2
        go_region_held3 (fun w' => w'.cell? ⟨bx, 1, none⟩ = some (.int .i64 X) ∧ w'.cell? ⟨bx, 2, none⟩ = some (.int .i64 Y)) (first | with_reducible exact PQ.cells hQa | with_reducible exact PQ.cells (PQ.drew hQa) | with_reducible exact PQ.cells (PQ.drew (PQ.drew hQa)) | with_reducible exact PQ.cells (PQ.drewN hQa _) | with_reducible exact PQ.cells hQb | with_reducible exact PQ.cells (PQ.drew hQb) | with_reducible exact PQ.cells (PQ.drew (PQ.drew hQb)) | with_reducible exact PQ.cells (PQ.drewN hQb _) | with_reducible exact PQ.cells HQ.out | with_reducible exact PQ.cells (PQ.drew HQ.out) | with_reducible exact PQ.cells (PQ.drew (PQ.drew HQ.out)) | with_reducible exact PQ.cells (PQ.drewN HQ.out _))
          (first
            | (go_at_call 14; (first | with_reducible refine (HG.out _ _ _ hQb).mono ?_ | with_reducible refine (HG.out _ _ _ (PQ.drew hQb)).mono ?_ | with_reducible refine (HG.out _ _ _ (PQ.drew (PQ.drew hQb))).mono ?_ | with_reducible refine (HG.out _ _ _ (PQ.drewN hQb _)).mono ?_ | with_reducible refine (HG.out _ _ _ HQ.out).mono ?_ | with_reducible refine (HG.out _ _ _ (PQ.drew HQ.out)).mono ?_ | with_reducible refine (HG.out _ _ _ (PQ.drew (PQ.drew HQ.out))).mono ?_ | with_reducible refine (HG.out _ _ _ (PQ.drewN HQ.out _)).mono ?_); rintro e wa ⟨rfl, hQa⟩)
            | (go_at_call 23; (first | with_reducible refine (HR.out _ _ hQa).mono ?_ | with_reducible refine (HR.out _ _ (PQ.drew hQa)).mono ?_ | with_reducible refine (HR.out _ _ (PQ.drew (PQ.drew hQa))).mono ?_ | with_reducible refine (HR.out _ _ (PQ.drewN hQa _)).mono ?_ | with_reducible refine (HR.out _ _ HQ.out).mono ?_ | with_reducible refine (HR.out _ _ (PQ.drew HQ.out)).mono ?_ | with_reducible refine (HR.out _ _ (PQ.drew (PQ.drew HQ.out))).mono ?_ | with_reducible refine (HR.out _ _ (PQ.drewN HQ.out _)).mono ?_); rintro e wb ⟨rfl, hQb⟩))
        all_goals
          first
            | have HZ := Lib.hid (pq_end (show PQ w gb rb bx K X Y G1 N1 E1 wa from hQa) HR1.out HR2.out)
            | have HZ := Lib.hid (pq_end (show PQ w gb rb bx K X Y G1 N1 E1 wb from hQb) HR1.out HR2.out)
          clear hQa hQb k1 k2 HQ HG HR
          go_wp2_with fail
          exact ⟨⟨q + 1, _, _, _, by omega, by go_num, HZ.out⟩, by simp [intOf]; omega⟩
    · obtain rfl : q = n1 := by omega
      have hG64 := hS.kg.ok.len
      have hNl := hS.rel.len
      have HOK := Lib.hid hS.kg.ok
      have HRL := Lib.hid hS.rel
      obtain ⟨v, hm⟩ := hS.kg.gm
      obtain ⟨vn, ve, hr⟩ := hS.rg.rm
      have HBW := Lib.hid (fun w' (hc : NewW wr w') => (hS.kg.new_ hc).below)
      have hTT : ∀ w', NewW wr w' → Tab w' := fun w' hc => HTB.out _ (HBW.out _ hc)
      -- stamps
      obtain ⟨ss, sk, hst⟩ : ∃ ss sk, stampOf G a = (ss, sk) := ⟨_, _, rfl⟩
      have hst2 := HRL.out.stamp a
      rw [hst] at hst2
      injection hst2 with hs1 hs2
      have HSG := Lib.hid (fun w' (hc : NewW wr w') => (stamp_any (hm.new_ hc) a).mono fun e w'' ⟨h1, h2⟩ => (show e = Ending.returned (.tuple #[.int .i64 ss, .bool sk]) ∧ NewW wr w'' from ⟨by rw [h1, hst], hc.trans' h2⟩))
      have HSR := Lib.hid (fun w' (hc : NewW wr w') => (stamp_r (hr.new_ hc) a).mono fun e w'' ⟨h1, h2⟩ => (show e = Ending.returned (.tuple #[.int .i64 ss, .bool sk]) ∧ NewW wr w'' from ⟨by rw [h1, hs1, hs2], hc.trans' h2⟩))
      -- the oldest
      have HOG := Lib.hid (fun w' (hc : NewW wr w') => (oldest_any (hm.new_ hc)).mono fun e w'' ⟨h1, h2⟩ => (show (∃ o s, e = Ending.returned (.tuple #[.int .i64 o, .bool s]) ∧ ∀ e', OldR N e' → e' = Ending.returned (.tuple #[.int .i64 o, .bool s])) ∧ NewW wr w'' from ⟨by
        have key := fun e' h2 => (HRL.out.oldest HOK.out h1 (e' := e') h2).symm
        rcases h1 with ⟨_, rfl⟩ | ⟨y, _, rfl, _⟩
        · exact ⟨_, _, rfl, key⟩
        · exact ⟨_, _, rfl, key⟩, hc.trans' h2⟩))
      have HORR := Lib.hid (fun w' (hc : NewW wr w') => (oldest_r (hr.new_ hc)).mono fun e w'' ⟨h1, h2⟩ => (show OldR N e ∧ NewW wr w'' from ⟨h1, hc.trans' h2⟩))
      -- edges
      have hed := HRL.out.edgesG_ HOK.out
      have hel : (edgesG G).length ≤ 4096 := Nat.le_trans edgesG_len (Nat.mul_le_mul hG64 hG64)
      have HEG := Lib.hid (fun w' (hc : NewW wr w') => (edges_any (hm.new_ hc)).mono fun e w'' ⟨A, c, h1, h2, h3⟩ => (show (∃ A c, e = Ending.returned (.slice A (edgesG G).length c) ∧ w''.ownsRow 0 41 2 (.slice A (edgesG G).length c) (edgesG G).length (flatE (edgesG G))) ∧ NewW w' w'' from ⟨⟨A, c, h1, own_mono h2 (Nat.zero_le _)⟩, h3⟩))
      have HER := Lib.hid (fun w' (hc : NewW wr w') => (edges_r (hr.new_ hc)).mono fun e w'' ⟨A, c, h1, h2, h3⟩ => (show (∃ A c, e = Ending.returned (.slice A (edgesG G).length c) ∧ w''.ownsRow 0 41 2 (.slice A (edgesG G).length c) (edgesG G).length (flatE (edgesG G))) ∧ NewW w' w'' from by rw [hed]; exact ⟨⟨A, c, h1, own_mono h2 (Nat.zero_le _)⟩, h3⟩))
      -- nodes
      have hso := HRL.out.sorted HOK.out
      have HNG := Lib.hid (fun w' (hc : NewW wr w') => (nodes_any (hm.new_ hc)).mono fun e w'' ⟨A, c, h1, h2, h3⟩ => (show (∃ A c, e = Ending.returned (.slice A G.length c) ∧ w''.ownsRow 0 3 1 (.slice A G.length c) G.length (ints (sortI (G.map Nd.id)))) ∧ NewW w' w'' from ⟨⟨A, c, h1, own_mono h2 (Nat.zero_le _)⟩, h3⟩))
      have HNR := Lib.hid (fun w' (hc : NewW wr w') => (nodes_r (hr.new_ hc)).mono fun e w'' ⟨A, c, h1, h2, h3⟩ => (show (∃ A c, e = Ending.returned (.slice A G.length c) ∧ w''.ownsRow 0 3 1 (.slice A G.length c) G.length (ints (sortI (G.map Nd.id)))) ∧ NewW w' w'' from by rw [← hso, ← hNl]; exact ⟨⟨A, c, h1, own_mono h2 (Nat.zero_le _)⟩, h3⟩))
      -- victims
      have hvi := HRL.out.victims HOK.out
      have hvl : (vicK G G.length).length = ((sortI (N.map Prod.fst)).filter (victR N E)).length := by rw [← hvi, List.length_mergeSort]
      have hvn : (vicK G G.length).length ≤ 1000 := by
        rw [hvl]
        refine Nat.le_trans (List.length_filter_le _ _) ?_
        rw [List.length_mergeSort, List.length_map]
        omega
      have HVG := Lib.hid (fun w' (hc : NewW wr w') => (victims_any (hm.new_ hc) (hTT w' hc)).mono fun e w'' ⟨A, c, h1, h2, h3⟩ => (show (∃ A c, e = Ending.returned (.slice A (vicK G G.length).length c) ∧ w''.ownsRow 0 3 1 (.slice A (vicK G G.length).length c) (vicK G G.length).length (ints (sortI (vicK G G.length)))) ∧ NewW w' w'' from ⟨⟨A, c, h1, own_mono h2 (Nat.zero_le _)⟩, h3⟩))
      have HVR := Lib.hid (fun w' (hc : NewW wr w') => (victims_r (hr.new_ hc)).mono fun e w'' ⟨A, c, h1, h2, h3⟩ => (show (∃ A c, e = Ending.returned (.slice A (vicK G G.length).length c) ∧ w''.ownsRow 0 3 1 (.slice A (vicK G G.length).length c) (vicK G G.length).length (ints (sortI (vicK G G.length)))) ∧ NewW w' w'' from by rw [hvl, hvi]; exact ⟨⟨A, c, h1, own_mono h2 (Nat.zero_le _)⟩, h3⟩))
      -- elder, reaches, cyclic
      obtain ⟨eb, heb⟩ : ∃ eb, elderB G a b = eb := ⟨_, rfl⟩
      have HLG := Lib.hid (fun w' (hc : NewW wr w') => (elder_any (hm.new_ hc) a b).mono fun e w'' ⟨h1, h2⟩ => (show e = Ending.returned (.bool eb) ∧ NewW wr w'' from ⟨by rw [h1, heb], hc.trans' h2⟩))
      have HLR := Lib.hid (fun w' (hc : NewW wr w') => (elder_r (hr.new_ hc) a b).mono fun e w'' ⟨h1, h2⟩ => (show e = Ending.returned (.bool eb) ∧ NewW wr w'' from ⟨by rw [h1, HRL.out.elder, heb], hc.trans' h2⟩))
      obtain ⟨rb2, hrb⟩ : ∃ rb2, reachB G a b = rb2 := ⟨_, rfl⟩
      have HWG := Lib.hid (fun w' (hc : NewW wr w') => (reaches_any (hm.new_ hc) (hTT w' hc) a b).mono fun e w'' ⟨h1, h2⟩ => (show e = Ending.returned (.bool rb2) ∧ NewW wr w'' from ⟨by rw [h1, hrb], hc.trans' h2⟩))
      have HWR := Lib.hid (fun w' (hc : NewW wr w') => (reaches_r (hr.new_ hc) a b).mono fun e w'' ⟨r, h1, h2, h3⟩ => (show e = Ending.returned (.bool rb2) ∧ NewW wr w'' from ⟨by rw [h1, ← hrb, Bool.eq_iff_iff.2 (h2.trans (HRL.out.reach HOK.out a b).symm)], hc.trans' h3⟩))
      have HCG := Lib.hid (fun w' (hc : NewW wr w') => (cyclic_any (hm.new_ hc) (hTT w' hc)).mono fun e w'' ⟨⟨r, h1, h2⟩, h3⟩ => (show (∃ r, e = Ending.returned (.bool r) ∧ Cyc G r) ∧ NewW wr w'' from ⟨⟨r, h1, h2⟩, hc.trans' h3⟩))
      have HCR := Lib.hid (fun r (hr' : Cyc G r) w' (hc : NewW wr w') => (cyclic_r (hr.new_ hc)).mono fun e w'' ⟨r', h1, h2, h3⟩ => (show e = Ending.returned (.bool r) ∧ NewW wr w'' from ⟨by rw [h1, HRL.out.cyc HOK.out hr' h2], hc.trans' h3⟩))
      generalize edgesG G = L at *
      generalize sortI (N.map Prod.fst) = S at *
      generalize sortI (G.map Nd.id) = S2 at *
      generalize sortI (vicK G G.length) = V at *
      generalize (vicK G G.length).length = vn2 at *
      obtain ⟨m, hmL⟩ : ∃ m, L.length = m := ⟨_, rfl⟩
      have HML := Lib.hid hmL
      rw [hmL] at HEG HER hel
      generalize G.length = gn at *
      have hmm : (m : Int) ≤ 4096 := by omega
      have hssb : (ss == ss) = true := by simp
      have hskb : (sk == sk) = true := by simp
      have hebb : (eb == eb) = true := by simp
      have hrbb : (rb2 == rb2) = true := by simp
      have hmne : ((m : Int) != (m : Int)) = false := by simp
      have HG64 := Lib.hid hG64
      have HVN := Lib.hid hvn
      clear hS HS hlt hq hG64 hvn hNl hst hs1 hs2 hed hel hso hvi hvl heb hrb hTT hmL
      have HZ0 := Lib.hid (Ch.refl (fun _ => False) wr : NewW wr wr)
      go_wp2_with fail
      refine (HSG.out _ HZ0.out).mono ?_
      rintro e w4 ⟨rfl, hN⟩
      dsimp only
      have HN4 := Lib.hid hN
      clear hN HSG
      go_wp2_with fail
      refine (HSR.out _ HN4.out).mono ?_
      rintro e w5 ⟨rfl, hN⟩
      dsimp only
      have HN5 := Lib.hid hN
      clear hN HSR HN4
      go_wp2_with fail
      refine (HOG.out _ HN5.out).mono ?_
      rintro e w6 ⟨⟨o, s, rfl, hold⟩, hN⟩
      dsimp only
      have HN6 := Lib.hid hN
      have HOL := Lib.hid hold
      have hoo : (o == o) = true := by simp
      have hsb : (s == s) = true := by simp
      clear hN HOG HN5 hold
      go_wp2_with fail
      refine (HORR.out _ HN6.out).mono ?_
      rintro e w7 ⟨hold, hN⟩
      obtain rfl := HOL.out _ hold
      dsimp only
      have HN7 := Lib.hid hN
      clear hN HORR HN6 hold HOL
      go_wp2_with fail
      refine (HEG.out _ HN7.out).mono ?_
      rintro e w8 ⟨⟨Ae, ce, rfl, hoe⟩, hN⟩
      dsimp only
      have HN8 := Lib.hid (HN7.out.trans' hN)
      clear hN HEG HN7
      have HOE := Lib.hid hoe
      clear hoe
      go_wp2_with fail
      refine (HER.out _ HN8.out).mono ?_
      rintro e w9 ⟨⟨Af, cf, rfl, hof⟩, hN⟩
      dsimp only
      have HN9 := Lib.hid (HN8.out.trans' hN)
      have HOE9 := Lib.hid (own_ch HOE.out hN (fun _ _ h => h))
      have HOF := Lib.hid hof
      clear hN HER HN8 HOE hof
      go_wp2_with fail
      refine (HNG.out _ HN9.out).mono ?_
      rintro e w10 ⟨⟨Ag, cg, rfl, hog⟩, hN⟩
      dsimp only
      have HD10 := Lib.hid hN
      have HN10 := Lib.hid (HN9.out.trans' hN)
      have HOGG := Lib.hid hog
      clear hN HNG hog
      go_wp2_with fail
      refine (HNR.out _ HN10.out).mono ?_
      rintro e w11 ⟨⟨Ah, ch, rfl, hoh⟩, hN⟩
      dsimp only
      have HD11 := Lib.hid (HD10.out.trans' hN)
      have HN11 := Lib.hid (HN10.out.trans' hN)
      have HSM := Lib.hid (same_any (own_ch HOGG.out hN (fun _ _ h => h)) hoh (by have := HG64.out; omega))
      clear hN HNR HOGG hoh HD10 HN10
      go_wp2_with fail
      refine HSM.out.mono ?_
      rintro e w12 ⟨rfl, hN⟩
      dsimp only
      have HD12 := Lib.hid (HD11.out.trans' hN)
      have HN12 := Lib.hid (HN11.out.trans' hN)
      clear hN HSM HD11 HN11
      go_wp2_with fail
      refine (HVG.out _ HN12.out).mono ?_
      rintro e w13 ⟨⟨Ai, ci, rfl, hoi⟩, hN⟩
      dsimp only
      have HD13 := Lib.hid (HD12.out.trans' hN)
      have HN13 := Lib.hid (HN12.out.trans' hN)
      have HOI := Lib.hid hoi
      clear hN HVG hoi HD12 HN12
      go_wp2_with fail
      refine (HVR.out _ HN13.out).mono ?_
      rintro e w14 ⟨⟨Aj, cj, rfl, hoj⟩, hN⟩
      dsimp only
      have HD14 := Lib.hid (HD13.out.trans' hN)
      have HN14 := Lib.hid (HN13.out.trans' hN)
      have HSM := Lib.hid (same_any (own_ch HOI.out hN (fun _ _ h => h)) hoj HVN.out)
      clear hN HVR HOI hoj HD13 HN13
      go_wp2_with fail
      refine HSM.out.mono ?_
      rintro e w15 ⟨rfl, hN⟩
      dsimp only
      have HD15 := Lib.hid (HD14.out.trans' hN)
      have HN15 := Lib.hid (HN14.out.trans' hN)
      clear hN HSM HD14 HN14
      go_wp2_with fail
      go_loopw [130] (fun i w' => ∃ j : Nat, j ≤ m ∧ i = .int .i64 j ∧ NewW w15 w') (fun i _ => m - (intOf i).toNat)
      case atStart => exact ⟨0, by omega, rfl, Ch.refl _ _⟩
      case round =>
        obtain ⟨j, hj, rfl, hC⟩ := hrel
        have HC := Lib.hid hC
        clear hC
        by_cases hlt : j < m
        · obtain ⟨e, he⟩ := some_of_lt (show j < L.length by rw [HML.out]; exact hlt)
          obtain ⟨g1, rfl, y0, y1⟩ := edge_cells HOE9.out HML.out (HD15.out.trans' HC.out) he
          obtain ⟨g2, rfl, z0, z1⟩ := edge_cells HOF.out HML.out (HD15.out.trans' HC.out) he
          obtain ⟨ea, eb'⟩ := e
          dsimp only at y0 y1 z0 z1
          have hj0 : (0 : Int) ≤ (j : Int) := by omega
          have hj1 : (j : Int) < (m : Int) := by omega
          have q1 : (ea == ea) = true := by simp
          have q2 : (eb' == eb') = true := by simp
          have HE := Lib.hid he
          clear he
          go_wp2_with fail
          go_quiet (fail)
          go_wp2_with fail
          exact ⟨⟨j + 1, by omega, by go_num, by first | exact HC.out | exact Ch.drewN HC.out _ | exact Ch.drew HC.out⟩, by simp [intOf]; omega⟩
        · obtain rfl : j = m := by omega
          have HN16 := Lib.hid (HN15.out.trans' HC.out)
          clear hlt hj HC HOE9 HOF
          go_wp2_with fail
          refine (HLG.out _ HN16.out).mono ?_
          rintro e w17 ⟨rfl, hN⟩
          dsimp only
          have HN17 := Lib.hid hN
          clear hN HLG
          go_wp2_with fail
          refine (HLR.out _ HN17.out).mono ?_
          rintro e w18 ⟨rfl, hN⟩
          dsimp only
          have HN18 := Lib.hid hN
          clear hN HLR
          go_wp2_with fail
          refine (HWG.out _ HN18.out).mono ?_
          rintro e w19 ⟨rfl, hN⟩
          dsimp only
          have HN19 := Lib.hid hN
          clear hN HWG
          go_wp2_with fail
          refine (HWR.out _ HN19.out).mono ?_
          rintro e w20 ⟨rfl, hN⟩
          dsimp only
          have HN20 := Lib.hid hN
          clear hN HWR
          go_wp2_with fail
          refine (HCG.out _ HN20.out).mono ?_
          rintro e w21 ⟨⟨r, rfl, hcy⟩, hN⟩
          dsimp only
          have HN21 := Lib.hid hN
          have HCY := Lib.hid hcy
          have hrr : (r == r) = true := by simp
          clear hN HCG hcy
          go_wp2_with fail
          refine (HCR.out r HCY.out _ HN21.out).mono ?_
          rintro e w22 ⟨rfl, hN⟩
          dsimp only
          have HN22 := Lib.hid (HBW.out _ hN)
          clear hN HCR
          go_wp2_with fail
          go_ret
          exact ⟨rfl, HN22.out⟩
end Go.Proofs.YtfcdplfnhjbdnabDoor
