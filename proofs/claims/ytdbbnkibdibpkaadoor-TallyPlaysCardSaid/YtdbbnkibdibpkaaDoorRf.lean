/- The reference's plain numbers beside a tally: the contracts of its functions. -/
import Derived.Test.YtdbbnkibdibpkaaDoorFix
import Derived.Test.YtdbbnkibdibpkaaDoorLibRows
import Derived.Test.YtdbbnkibdibpkaaDoorLibArgs
namespace Go.Proofs.YtdbbnkibdibpkaaDoor
open Go.RowKit
set_option linter.unusedVariables false

/-! ### Plain words -/
def nowc (c : Nat → Int) : Array Value := Array.ofFn (n := 16) fun i => .int .i64 (c (i * 2))
theorem nowc_get (c : Nat → Int) {i : Nat} (h : i < 16) : (nowc c)[i]? = some (.int .i64 (c (i * 2))) := by simp [nowc, h]
theorem nowc_size (c : Nat → Int) : (nowc c).size = 16 := by simp [nowc]
theorem lay_even (c : Nat → Int) (k i : Nat) (v : Int) : lay c k v (i * 2) = put c (k * 2) v (i * 2) := by
  unfold lay
  split
  · rfl
  · rw [put_other _ _ _ _ (by omega)]
theorem nowc_set (c : Nat → Int) {k : Nat} (hk : k < 16) (v : Int) : (nowc c).setIfInBounds k (.int .i64 v) = nowc (lay c k v) := by
  apply Array.ext
  · simp [nowc]
  · intro j h1 h2
    have hj : j < 16 := by simpa [nowc] using h2
    rw [Array.getElem_setIfInBounds]
    · by_cases e : k = j
      · subst e; simp [nowc, lay_even, put]
      · simp [nowc, e, lay_even, put, show ¬ j * 2 = k * 2 by omega]
    · simpa [nowc] using hj
/-- The greatest number that a kind ever was. -/
def best (L : List (Nat × Int)) (i : Nat) : Int := L.foldl (fun b x => if x.1 = i ∧ b < x.2 then x.2 else b) 0
theorem best_nil (i : Nat) : best [] i = 0 := rfl
theorem best_snoc (L : List (Nat × Int)) (k : Nat) (v : Int) (i : Nat) : best (L ++ [(k, v)]) i = if k = i ∧ best L i < v then v else best L i := by unfold best; rw [List.foldl_append]; rfl
def wasL (L : List (Nat × Int)) : List Value := L.flatMap fun x => [.int .i64 x.1, .int .i64 x.2]
theorem wasL_snoc (L : List (Nat × Int)) (k : Nat) (v : Int) : wasL (L ++ [(k, v)]) = wasL L ++ [.int .i64 k, .int .i64 v] := by simp [wasL]
theorem wasL_len (L : List (Nat × Int)) : (wasL L).length = L.length * 2 := flat_len (m := 2) (fun _ _ => rfl)
theorem wasL_get (L : List (Nat × Int)) {i : Nat} {x : Nat × Int} (h : L[i]? = some x) : (wasL L)[i * 2]? = some (.int .i64 x.1) ∧ (wasL L)[i * 2 + 1]? = some (.int .i64 x.2) :=
  ⟨by have := flat_get (f := fun x : Nat × Int => [Value.int .i64 x.1, .int .i64 x.2]) (m := 2) (fun _ _ => rfl) h (j := 0) (by omega); simpa [wasL] using this,
   by have := flat_get (f := fun x : Nat × Int => [Value.int .i64 x.1, .int .i64 x.2]) (m := 2) (fun _ _ => rfl) h (j := 1) (by omega); simpa [wasL] using this⟩

theorem lay_high (c : Nat → Int) (k i : Nat) (x : Int) : (if k = i ∧ c (i * 2 + 1) < x then x else c (i * 2 + 1)) = lay c k x (i * 2 + 1) := by
  by_cases hv : x ≤ c (k * 2 + 1)
  · have e : lay c k x = put c (k * 2) x := by unfold lay; rw [if_pos hv]
    rw [e, put_other _ _ _ _ (by omega)]
    by_cases hki : k = i
    · subst hki; rw [if_neg (by omega)]
    · rw [if_neg (fun h => hki h.1)]
  · have e : lay c k x = put (put c (k * 2) x) (k * 2 + 1) x := by unfold lay; rw [if_neg hv]
    rw [e]
    by_cases hki : k = i
    · subst hki; rw [put_same, if_pos ⟨rfl, by omega⟩]
    · rw [if_neg (fun h => hki h.1), put_other _ _ _ _ (by omega), put_other _ _ _ _ (by omega)]

/-! ### The reference's struct, its row of numbers, and all that each one was -/
structure Ref (w : World) (B rb nb : Nat) (v : Value) (L : List (Nat × Int)) (s : St) : Prop where
  blk : Blk w rb 37 #[.slice (some ⟨nb, 0, none⟩) 16 16, v, .int .u64 s.flags, .int .i64 s.tried]
  now : Blk w nb 3 (nowc s.c)
  was : w.ownsRow B 3 1 v (L.length * 2) (wasL L)
  ne : v.ownBlock ≠ some nb
  rB : B ≤ rb
  nB : B ≤ nb
  best : ∀ i, i < 16 → best L i = s.c (i * 2 + 1)
  len : L.length ≤ 200


theorem make_run (w : World) : (Instr.makeSlice 35 (.int .i64 16) (.int .i64 16)).run Tryd.prog w = .ok (.slice (some ⟨w.heap.size, 0, none⟩) 16 16) (w.alloc (.cells (nowc (fun _ => 0)) 3)) := by kernel_rfl
def rblk (nb : Nat) (v : Value) (s : St) : Array Value := #[.slice (some ⟨nb, 0, none⟩) 16 16, v, .int .u64 s.flags, .int .i64 s.tried]
theorem rnew_any (w : World) : Calls Tryd.prog 8 #[] w fun e w' => e = .returned (.pointer (some ⟨w.heap.size + 1, 0, none⟩)) ∧ w' = (w.alloc (.cells (nowc (fun _ => 0)) 3)).alloc (.cells (rblk w.heap.size (.slice none 0 0) St.zero) 37) := by
  have hm := make_run
  have hs := nowc_size (fun _ => 0)
  unfold rblk St.zero
  generalize nowc (fun _ => 0) = Z at *
  go_enter Tryd.func8, Tryd.ntmps8
  go_wp2
  go_ret
  exact ⟨by simp, by simp⟩

/-- What a call on the reference may turn. -/
def RFoot (rb nb : Nat) (v : Value) (k : Nat) : Prop := k = rb ∨ k = nb ∨ v.ownBlock = some k
def RPost (B rb nb : Nat) (v : Value) (L : List (Nat × Int)) (s : St) (w w' : World) : Prop := ∃ v', Ref w' B rb nb v' L s ∧ Ch (RFoot rb nb v) w w' ∧ ∀ k, v'.ownBlock = some k → v.ownBlock = some k ∨ w.heap.size ≤ k
set_option maxRecDepth 100000 in
theorem rset_any (B rb nb : Nat) (v : Value) (L : List (Nat × Int)) (s : St) (w : World) (h : Ref w B rb nb v L s) (hB : B ≤ w.heap.size) (hL : L.length ≤ 199) (k : Nat) (hk : k < 16) (x : Int) :
    Calls Tryd.prog 10 #[.pointer (some ⟨rb, 0, none⟩), .int .i64 k, .int .i64 x] w fun e w' => e = .returned (.tuple #[]) ∧ RPost B rb nb v (L ++ [(k, x)]) { s with c := lay s.c k x } w w' := by
  obtain ⟨i0, hi0, hz0, hz1, hz2⟩ := info_parts int_info
  obtain ⟨hb, hn, ho, hne, h1, h2, hbest, hlen⟩ := h
  have hrn : rb ≠ nb := Blk.ne_ hb hn (by decide)
  have hvr : v.ownBlock ≠ some rb := own_blk_ne ho hb (by decide)
  have c0 := hb.cell 0
  have c1 := hb.cell 1
  have z1 := hb.frozen 1
  have d0 := hn.cell k
  have z0 := hn.frozen k
  rw [nowc_get _ hk] at d0
  simp at c0 c1
  -- the world behind the first store
  have hb1 : Blk (w.setCell ⟨nb, k, none⟩ (.int .i64 x)) rb 37 (rblk nb v s) := hb.far (by exact hrn) _
  have hn1 : Blk (w.setCell ⟨nb, k, none⟩ (.int .i64 x)) nb 3 (nowc (lay s.c k x)) := by have := hn.set_ k (.int .i64 x); rwa [nowc_set _ hk] at this
  have ho1 : (w.setCell ⟨nb, k, none⟩ (.int .i64 x)).ownsRow B 3 1 v (L.length * 2) (wasL L) := own_set_far ho hne _
  have hc1 : Ch (RFoot rb nb v) w (w.setCell ⟨nb, k, none⟩ (.int .i64 x)) := (Ch.refl _ w).setCell (.inl (.inr (.inl rfl))) _
  have hb1' := hb1.cell 1
  have hsz : (w.setCell ⟨nb, k, none⟩ (.int .i64 x)).heap.size = w.heap.size := by simp [World.setCell]
  have HB1 := Lib.hid hb1
  have HN1 := Lib.hid hn1
  have HO1 := Lib.hid ho1
  have HC1 := Lib.hid hc1
  have HBEST := Lib.hid hbest
  have HSZ := Lib.hid hsz
  clear ho hb1 hn1 ho1 hc1 hbest hb hn hb1' hsz
  go_enter Tryd.func10, Tryd.ntmps10
  go_wp2_with (first
    | (at_builtin
       refine wpList_append_any _ rfl (.tmp 17) (.tmp 20) _ rfl B 3 i0 _ 1 8 Tryd.underlying35 hi0 hz0 hz1 hz2 rfl (by omega) v (L.length * 2) (wasL L) rfl
         (HO1.out.alloc _) (w.heap.size + 1) (some ⟨w.heap.size, 0, none⟩) 2 2 [.int .i64 k, .int .i64 x] rfl ?_ ?_ (by simp only [maxLen]; omega) (by omega) (by simp; omega) ?_
       rotate_left 2
       intro v1 w1 hown1 hg1 hat1
       have hbw : Blk w1 rb 37 _ := (HB1.out.alloc _).grown hg1 (fun e => hvr e.symm)
       have d3 := hbw.cell 1
       have e3 := hbw.frozen 1
       simp [rblk] at d3
       have hne1 : v1.ownBlock ≠ some rb := own_blk_ne hown1 hbw (by decide)
       obtain ⟨A1, q1, rfl⟩ := own_form hown1
       have HO := Lib.hid hown1; clear hown1
       have HG := Lib.hid hg1; clear hg1
       have HBW := Lib.hid hbw; clear hbw
       have HA := Lib.hid hat1; clear hat1))
  · refine bodyPost_end (results_none rfl _ _ _) rfl ?_
    have hg := HG.out
    have hrow := own_set_far (w := w1) HO.out (a := ⟨rb, 1, none⟩) hne1 (.slice A1 (L.length * 2 + 2) q1)
    have hB1 : B ≤ (w.setCell ⟨nb, k, none⟩ (.int .i64 x)).heap.size := by rw [HSZ.out]; exact hB
    have hvn : v.ownBlock ≠ some nb := hne
    have hnw : Blk w1 nb 3 (nowc (lay s.c k x)) := (HN1.out.alloc _).grown hg (fun e => hvn e.symm)
    have hfar : (Value.slice A1 (L.length * 2 + 2) q1).ownBlock ≠ some nb := by
      rcases HA.out with e | e
      · rw [e]; exact hvn
      · rw [e]
        have := Blk.lt HN1.out
        simp
        rw [HSZ.out] at this
        omega
    refine ⟨rfl, .slice A1 (L.length * 2 + 2) q1, ⟨?_, hnw.far (by show nb ≠ rb; exact fun e => hrn e.symm) _, ?_, hfar, h1, h2, ?_, by simp; omega⟩, ?_, ?_⟩
    · have := HBW.out.set_ 1 (.slice A1 (L.length * 2 + 2) q1)
      exact this
    · rw [wasL_snoc, List.length_append, List.length_singleton, Nat.add_mul]
      exact hrow
    · intro i hi
      rw [best_snoc, HBEST.out i hi]
      exact lay_high s.c k i x
    · exact (((HC1.out.alloc _).grown hg (fun j hj => .inl (.inr (.inr hj)))).setCell (.inl (.inl rfl)) _)
    · intro j hj
      rcases HA.out with e | e
      · exact .inl (e ▸ hj)
      · rw [e] at hj
        right
        injection hj with hj
        subst hj
        simp
  · have := reads_new (w.setCell ⟨nb, k, none⟩ (.int .i64 x)) 3 #[.int .i64 k, .int .i64 x] 2 1 rfl
    rw [HSZ.out] at this
    exact this
  · simp [Value.oneCell']

theorem best_pos (L : List (Nat × Int)) (i : Nat) : 0 ≤ best L i := by
  unfold best
  suffices h : ∀ b : Int, 0 ≤ b → 0 ≤ L.foldl (fun b x => if x.1 = i ∧ b < x.2 then x.2 else b) b from h 0 (Int.le_refl 0)
  induction L with
  | nil => exact fun b h => h
  | cons x r ih =>
    intro b h
    rw [List.foldl_cons]
    apply ih
    split <;> omega
theorem best_take (L : List (Nat × Int)) (i j : Nat) {x : Nat × Int} (h : L[j]? = some x) : best (L.take (j + 1)) i = if x.1 = i ∧ best (L.take j) i < x.2 then x.2 else best (L.take j) i := by
  rw [List.take_add_one, h, Option.toList_some, ← best_snoc]
set_option maxRecDepth 100000 in
theorem rhigh_any (B rb nb : Nat) (v : Value) (L : List (Nat × Int)) (s : St) (w : World) (h : Ref w B rb nb v L s) (k : Nat) (hk : k < 16) :
    Calls Tryd.prog 21 #[.pointer (some ⟨rb, 0, none⟩), .int .i64 k] w fun e w' => e = .returned (.int .i64 (s.c (k * 2 + 1))) ∧ w = w' := by
  obtain ⟨hb, hn, ho, hne, h1, h2, hbest, hlen⟩ := h
  have hbk := hbest k hk
  generalize s.c (k * 2 + 1) = H at hbk ⊢
  have hbk := Lib.hid hbk
  have c1 := hb.cell 1
  simp at c1
  obtain ⟨A, q, rfl⟩ := own_form ho
  have HO := Lib.hid ho
  have hb := Lib.hid hb
  have hn := Lib.hid hn
  have hbest := Lib.hid hbest
  clear ho
  go_enter Tryd.func21, Tryd.ntmps21
  go_wp2_with fail
  go_loop [5, 6] (fun b i => ∃ j : Nat, j ≤ L.length ∧ i = .int .i64 ((j * 2 : Nat) : Int) ∧ b = .int .i64 (best (L.take j) k)) (fun _ i => L.length * 2 - (intOf i).toNat)
  case atStart => exact ⟨0, by omega, rfl, rfl⟩
  case round =>
    obtain ⟨j, hj, rfl, rfl⟩ := hrel
    by_cases hlt : j < L.length
    · obtain ⟨x, hx⟩ := some_of_lt hlt
      obtain ⟨g, cap, hv, hg, hgl⟩ := HO.out.form (by omega)
      injection hv with hA hn' hq
      subst hA
      have e0 : w.cell? ⟨g, j * 2, none⟩ = some (.int .i64 x.1) := by
        have := HO.out.cells (g := g) rfl (j * 2) _ (wasL_get L hx).1
        rwa [add_mk, Nat.zero_add] at this
      have e1 : w.cell? ⟨g, j * 2 + 1, none⟩ = some (.int .i64 x.2) := by
        have := HO.out.cells (g := g) rfl (j * 2 + 1) _ (wasL_get L hx).2
        rwa [add_mk, Nat.zero_add] at this
      have ht := Lib.hid (best_take L k j hx)
      obtain ⟨x1, x2⟩ := x
      simp only at e0 e1 ht
      generalize best (L.take j) k = b at *
      by_cases hk1 : x1 = k
      · subst hk1
        by_cases hlt2 : b < x2
        · rw [if_pos ⟨rfl, hlt2⟩] at ht
          go_wp2
          go_round
          case rel => exact ⟨j + 1, by omega, by go_num, by rw [ht.out]⟩
          case measure => simp [intOf]; omega
        · rw [if_neg (fun h => hlt2 h.2)] at ht
          have hd : decide (b < x2) = false := by simpa using hlt2
          go_wp2
          go_round
          case rel => exact ⟨j + 1, by omega, by go_num, by rw [ht.out]⟩
          case measure => simp [intOf]; omega
      · rw [if_neg (fun h => hk1 h.1)] at ht
        have hd : ((x1 : Int) == (k : Int)) = false := by simp; omega
        clear hk1
        go_wp2
        go_round
        case rel => exact ⟨j + 1, by omega, by go_num, by rw [ht.out]⟩
        case measure => simp [intOf]; omega
    · obtain rfl : j = L.length := by omega
      rw [List.take_length, hbk.out]
      go_wp2
      go_ret
      exact ⟨rfl, rfl⟩
end Go.Proofs.YtdbbnkibdibpkaaDoor
