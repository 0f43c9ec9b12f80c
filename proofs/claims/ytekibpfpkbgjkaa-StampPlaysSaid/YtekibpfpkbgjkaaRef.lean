/- The contracts of the reference of layer 29: what each function answers and what it leaves in memory. -/
import Derived.Test.YtekibpfpkbgjkaaWalks

namespace Go.Proofs.Ytekibpfpkbgjkaa
open Go.RowKit
set_option linter.unusedVariables false

/-- The reference's source at block b: all that it knows is the list known. -/
def Ref (w : World) (B b : Nat) (node nodes taken : Int) (known : List Int) (v : Value) : Prop :=
  Blk w b 29 #[.int .i64 node, .int .i64 nodes, .int .i64 taken, v] ∧ w.ownsRow B 3 1 v known.length (known.map (Value.int .i64))

theorem int_info : (Try.prog.info? 3).map (fun i => (i.zero, i.size, i.bytes)) = some (some (.int .i64 0), 1, 8) := by kernel_rfl

/-- What Last tells. -/
def lastOf (l : List Int) : Int := l.foldl (fun b x => if b < x then x else b) (-1)

theorem lastOf_snoc (l : List Int) (x : Int) : lastOf (l ++ [x]) = if lastOf l < x then x else lastOf l := by rw [lastOf, List.foldl_append]; rfl

theorem rlast_any (B b : Nat) (node nodes taken : Int) (known : List Int) (v : Value) (w : World) (h : Ref w B b node nodes taken known v) :
    Calls Try.prog 13 #[.pointer (some ⟨b, 0, none⟩)] w fun e w' => e = .returned (.int .i64 (lastOf known)) ∧ w = w' := by
  obtain ⟨hb, ho⟩ := h
  have c3 := hb.cell 3
  simp at c3
  obtain ⟨A, n, c, rfl, hn⟩ : ∃ A n c, v = .slice A n c ∧ n = known.length := by
    rcases ho.2 with ⟨rfl, h0⟩ | ⟨g, cap, cur, rfl, _⟩
    · exact ⟨_, _, _, rfl, h0.symm⟩
    · exact ⟨_, _, _, rfl, rfl⟩
  subst hn
  have hr : Reads w w.heap.size 1 A known.length (known.map (Value.int .i64)) := Reads.of_own ho
  have hl : (known.length : Int) ≤ 9223372036854775807 := by
    rcases ho.2 with ⟨h1, h0⟩ | ⟨g, cap, cur, h1, _, _, h2, h3, _⟩
    · omega
    · unfold maxLen at h3; omega
  clear hb ho
  go_enter Try.func13, Try.ntmps13
  go_wp2_with fail
  go_loop [3, 11] (fun s i => ∃ k : Nat, k ≤ known.length ∧ i = .int .i64 k ∧ s = .int .i64 (lastOf (known.take k))) (fun _ i => known.length - (intOf i).toNat)
  case atStart => exact ⟨0, Nat.zero_le _, rfl, rfl⟩
  case round =>
    obtain ⟨k, hk, rfl, rfl⟩ := hrel
    by_cases hlt : k < known.length
    · obtain ⟨ad, u, rfl, _, hx, hc⟩ := hr.at_ hlt
      have hu : u = .int .i64 known[k] := by simpa [List.getElem?_eq_getElem hlt] using hx.symm
      subst hu
      have hs : lastOf (known.take (k + 1)) = if lastOf (known.take k) < known[k] then known[k] else lastOf (known.take k) := by
        rw [List.take_succ_eq_append_getElem hlt, lastOf_snoc]
      have HS := Lib.hid hs
      clear hs hx hr
      generalize known[k] = x at *
      generalize lastOf (known.take k) = y at *
      by_cases hxy : y < x
      · go_wp2_with fail
        go_round
        case rel => exact ⟨k + 1, by omega, by go_num, by rw [HS.out, if_pos hxy]⟩
        case measure => simp [intOf]; omega
      · go_wp2_with fail
        go_round
        case rel => exact ⟨k + 1, by omega, by go_num, by rw [HS.out, if_neg hxy]⟩
        case measure => simp [intOf]; omega
    · have hk' : k = known.length := by omega
      clear hr
      go_wp2_with fail
      go_ret
      exact ⟨rfl, rfl⟩

/-- The blocks that a reference's source lies in. -/
def RFoot (b : Nat) (v : Value) (k : Nat) : Prop := k = b ∨ v.ownBlock = some k

theorem rsaw_out (b : Nat) (x : Int) (w : World) (hx : x < 0 ∨ 1099511627776 < x) :
    Calls Try.prog 9 #[.pointer (some ⟨b, 0, none⟩), .int .i64 x] w fun e w' => e = .returned (.int .i64 1) ∧ w = w' := by
  by_cases h : x < 0
  · clear hx
    go_enter Try.func9, Try.ntmps9
    go_wp2_with fail
    go_ret
    exact ⟨rfl, rfl⟩
  · have h' : 1099511627776 < x := by omega
    clear hx
    go_enter Try.func9, Try.ntmps9
    go_wp2_with fail
    go_ret
    exact ⟨rfl, rfl⟩

def RPost (B b : Nat) (node nodes taken : Int) (known : List Int) (v : Value) (w w' : World) : Prop :=
  ∃ v', Ref w' B b node nodes taken known v' ∧ Ch (RFoot b v) w w' ∧ (∀ k, RFoot b v' k → RFoot b v k ∨ w.heap.size ≤ k)

theorem rsaw_in (B b : Nat) (node nodes taken x : Int) (known : List Int) (v : Value) (w : World) (h : Ref w B b node nodes taken known v) (hB : B ≤ w.heap.size) (hk : known.length ≤ 1000)
    (h0 : 0 ≤ x) (h1 : x ≤ 1099511627776) :
    Calls Try.prog 9 #[.pointer (some ⟨b, 0, none⟩), .int .i64 x] w fun e w' => e = .returned (.int .i64 0) ∧ RPost B b node nodes taken (known ++ [x]) v w w' := by
  obtain ⟨i0, hi0, hz0, hz1, hz2⟩ := info_parts int_info
  obtain ⟨hb, ho⟩ := h
  have c3 := hb.cell 3
  simp at c3
  have hne : v.ownBlock ≠ some b := own_blk_ne ho hb (by decide)
  have H := Lib.hid ho; clear ho
  go_enter Try.func9, Try.ntmps9
  go_wp2_with (first
    | (at_builtin
       refine wpList_append_any _ rfl (.tmp 15) (.tmp 17) _ rfl B 3 i0 _ 1 8 Try.underlying27 hi0 hz0 hz1 hz2 rfl (by omega) v known.length (known.map (Value.int .i64)) rfl
         (H.out.alloc _) (w.heap.size + 1) (some ⟨w.heap.size, 0, none⟩) 1 1 [.int .i64 x] rfl ?_ ?_ (by simp only [maxLen]; omega) (by omega) (by simp; omega) ?_
       rotate_left 2
       intro v1 w1 hown1 hg1 hat1
       have hb1 : Blk w1 b 29 _ := (hb.alloc (.cells #[.int .i64 x] 3)).grown hg1 (fun e => hne e.symm)
       have d3 := hb1.cell 3
       have e3 := hb1.frozen 3
       simp at d3
       have hne1 : v1.ownBlock ≠ some b := own_blk_ne hown1 hb1 (by decide)
       obtain ⟨A1, c1, rfl⟩ := own_form hown1
       have HO := Lib.hid hown1; clear hown1
       have HA := Lib.hid hat1; clear hat1))
  · go_ret
    refine ⟨rfl, _, ⟨hb1.set_ 3 _, ?_⟩, ?_, ?_⟩
    · have h1 := ownsRow_setCell_other HO.out (a := ⟨b, 3, none⟩) hne1 (.slice A1 (known.length + 1) c1)
      simpa using h1
    · have h1 : Ch (RFoot b v) w w1 := ((Ch.refl _ w).alloc _).grown hg1 (fun k hk => .inl (.inr hk))
      exact h1.setCell (.inl (.inl rfl)) _
    · rintro k (rfl | hk)
      · exact .inl (.inl rfl)
      · rcases HA.out with e | e
        · exact .inl (.inr (e ▸ hk))
        · rw [e] at hk
          injection hk with hk
          exact .inr (by simp at hk; omega)
  · exact reads_one _ _ _
  · simp [Value.oneCell']

theorem lastOf_ge (l : List Int) : ∀ b : Int, b ≤ l.foldl (fun b x => if b < x then x else b) b := by
  induction l with
  | nil => intro b; exact Int.le_refl _
  | cons x r ih =>
    intro b
    simp only [List.foldl_cons]
    have h := ih (if b < x then x else b)
    have h2 : b ≤ (if b < x then x else b) := by split <;> omega
    exact Int.le_trans h2 h

theorem rnext_arg (b : Nat) (now : Int) (w : World) (hx : now < 0 ∨ 1099511627776 < now) :
    Calls Try.prog 11 #[.pointer (some ⟨b, 0, none⟩), .int .i64 now] w fun e w' => e = .returned (.tuple #[.int .i64 0, .int .i64 1]) ∧ w = w' := by
  by_cases h : now < 0
  · clear hx
    go_enter Try.func11, Try.ntmps11
    go_wp2_with fail
    go_ret2
    exact ⟨rfl, rfl⟩
  · have h' : 1099511627776 < now := by omega
    clear hx
    go_enter Try.func11, Try.ntmps11
    go_wp2_with fail
    go_ret2
    exact ⟨rfl, rfl⟩

/-- What rnext leaves. -/
def RNext (B b : Nat) (node nodes taken now : Int) (known : List Int) (v : Value) (w : World) (e : Ending) (w' : World) : Prop :=
  if 1099511627776 < aft node nodes (lastOf known + 1) now then e = .returned (.tuple #[.int .i64 0, .int .i64 7]) ∧ ∃ k, w' = w.drewN k
  else e = .returned (.tuple #[.int .i64 (aft node nodes (lastOf known + 1) now), .int .i64 0]) ∧ RPost B b node nodes (taken + 1) (known ++ [aft node nodes (lastOf known + 1) now]) v w w'

set_option maxHeartbeats 2000000 in
theorem rnext_in (B b : Nat) (node nodes taken now : Int) (known : List Int) (v : Value) (w : World) (h : Ref w B b node nodes taken known v) (hB : B ≤ w.heap.size) (hk : known.length ≤ 1000)
    (h0 : 0 ≤ now) (h1 : now ≤ 1099511627776) (hn0 : 0 ≤ node) (hn1 : node < nodes) (hn2 : nodes ≤ 7) (hl : lastOf known ≤ 1099511627776) (ht0 : 0 ≤ taken) (ht1 : taken ≤ 1000000) :
    Calls Try.prog 11 #[.pointer (some ⟨b, 0, none⟩), .int .i64 now] w (RNext B b node nodes taken now known v w) := by
  obtain ⟨i0, hi0, hz0, hz1, hz2⟩ := info_parts int_info
  have hlast := rlast_any B b node nodes taken known v w h
  obtain ⟨hb, ho⟩ := h
  have c0 := hb.cell 0
  have c1 := hb.cell 1
  have c2 := hb.cell 2
  have c3 := hb.cell 3
  simp at c0 c1 c2 c3
  have hne : v.ownBlock ≠ some b := own_blk_ne ho hb (by decide)
  have H := Lib.hid ho; clear ho
  have HL := Lib.hid hlast; clear hlast
  have hl0 : -1 ≤ lastOf known := lastOf_ge _ _
  have hn : ¬ nodes = 0 := by omega
  have m1 := mul_bd now nodes h0 (by omega) (by omega) hn2
  have ha := aft_nonneg node nodes (lastOf known + 1) now hn0 hn1 h0
  have key : ∃ X, aft node nodes (lastOf known + 1) now = X * nodes + node ∧ 0 ≤ X * nodes ∧ X * nodes ≤ 7696581394439 ∧
      ((X = now ∧ (lastOf known < 0 ∨ (0 ≤ lastOf known ∧ 0 ≤ lastOf known / nodes ∧ lastOf known / nodes ≤ 1099511627776 ∧ ¬ now < lastOf known / nodes + 1))) ∨
       (X = lastOf known / nodes + 1 ∧ 0 ≤ lastOf known ∧ 0 ≤ lastOf known / nodes ∧ lastOf known / nodes ≤ 1099511627776 ∧ now < lastOf known / nodes + 1)) := by
    by_cases hb : 0 ≤ lastOf known
    · have q0 : 0 ≤ lastOf known / nodes := Int.ediv_nonneg (by omega) (by omega)
      have q1 : lastOf known / nodes ≤ 1099511627776 := Int.ediv_le_of_le_mul (by omega) (by
        calc lastOf known ≤ 1099511627776 * 1 := by omega
          _ ≤ 1099511627776 * nodes := Int.mul_le_mul_of_nonneg_left (by omega) (by omega))
      have m2 := mul_bd (lastOf known / nodes + 1) nodes (by omega) (by omega) (by omega) hn2
      have e : lastOf known + 1 - 1 = lastOf known := by omega
      by_cases hm : now < lastOf known / nodes + 1
      · refine ⟨lastOf known / nodes + 1, ?_, m2.1, m2.2, .inr ⟨rfl, hb, q0, q1, hm⟩⟩
        unfold aft
        rw [if_pos (by omega), e, Int.max_eq_right (by omega)]
      · refine ⟨now, ?_, m1.1, m1.2, .inl ⟨rfl, .inr ⟨hb, q0, q1, hm⟩⟩⟩
        unfold aft
        rw [if_pos (by omega), e, Int.max_eq_left (by omega)]
    · refine ⟨now, ?_, m1.1, m1.2, .inl ⟨rfl, .inl (by omega)⟩⟩
      unfold aft
      rw [if_neg (by omega)]
  obtain ⟨X, hX, m2, m3, hc⟩ := key
  unfold RNext
  rw [hX] at ha ⊢
  generalize hL : lastOf known = L at *
  clear hL hX
  by_cases hx : 1099511627776 < X * nodes + node
  · simp only [if_pos hx]
    rcases hc with ⟨rfl, hl1 | ⟨hl1, q0, q1, hm⟩⟩ | ⟨rfl, hl1, q0, q1, hm⟩
    all_goals
      go_enter Try.func11, Try.ntmps11
      go_wp2_with (go_at_call 13; refine HL.out.mono ?_; rintro e w' ⟨rfl, rfl⟩)
      go_quiet (fail)
      go_wp2_with fail
      go_ret2
      exact ⟨rfl, _, rfl⟩
  · simp only [if_neg hx]
    rcases hc with ⟨rfl, hl1 | ⟨hl1, q0, q1, hm⟩⟩ | ⟨rfl, hl1, q0, q1, hm⟩
    all_goals
      go_enter Try.func11, Try.ntmps11
      go_wp2_with (go_at_call 13; refine HL.out.mono ?_; rintro e w' ⟨rfl, rfl⟩)
      go_quiet (fail)
      go_wp2_with (first
        | (at_builtin
           refine wpList_append_any _ rfl (.tmp 55) (.tmp 57) _ rfl B 3 i0 _ 1 8 Try.underlying27 hi0 hz0 hz1 hz2 rfl (by omega) v known.length (known.map (Value.int .i64)) rfl
             (own_drewN (H.out.alloc _) _) (w.heap.size + 1) (some ⟨w.heap.size, 0, none⟩) 1 1 [.int .i64 _] rfl ((reads_one _ _ _).drewN _) (by simp [Value.oneCell']) (by simp only [maxLen]; omega) (by omega) (by simp; omega) ?_
           intro v1 w1 hown1 hg1 hat1
           have hb1 : Blk w1 b 29 _ := ((hb.alloc (.cells #[.int .i64 _] 3)).drewN _).grown hg1 (fun e => hne e.symm)
           have d2 := hb1.cell 2
           have d3 := hb1.cell 3
           have e2 := hb1.frozen 2
           have e3 := hb1.frozen 3
           simp at d2 d3
           have hne1 : v1.ownBlock ≠ some b := own_blk_ne hown1 hb1 (by decide)
           obtain ⟨A1, c1, rfl⟩ := own_form hown1
           have HO := Lib.hid hown1; clear hown1
           have HA := Lib.hid hat1; clear hat1))
      go_ret2
      refine ⟨rfl, _, ⟨(hb1.set_ 3 _).set_ 2 _, ?_⟩, ?_, ?_⟩
      · have g1 := ownsRow_setCell_other HO.out (a := ⟨b, 3, none⟩) hne1 (.slice A1 (known.length + 1) c1)
        have g2 := ownsRow_setCell_other g1 (a := ⟨b, 2, none⟩) hne1 (.int .i64 (taken + 1))
        simpa using g2
      · have g1 : Ch (RFoot b v) w w1 := (((Ch.refl _ w).alloc _).drewN _).grown hg1 (fun k hk => .inl (.inr hk))
        exact (g1.setCell (.inl (.inl rfl)) _).setCell (.inl (.inl rfl)) _
      · rintro k (rfl | hk)
        · exact .inl (.inl rfl)
        · rcases HA.out with e | e
          · exact .inl (.inr (e ▸ hk))
          · rw [e] at hk
            injection hk with hk
            exact .inr (by simp at hk; omega)
end Go.Proofs.Ytekibpfpkbgjkaa
