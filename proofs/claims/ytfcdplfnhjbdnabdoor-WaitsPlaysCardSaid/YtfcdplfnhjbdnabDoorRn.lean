/- The reference's Node, Edge, Drop. -/
import Derived.Test.YtfcdplfnhjbdnabDoorRa
namespace Go.Proofs.YtfcdplfnhjbdnabDoor
open Go.RowKit Go.Sort
set_option linter.unusedVariables false

theorem rnode_info : (Tryd.prog.info? 69).map (fun i => (i.zero, i.size, i.bytes)) = some (some (.agg #[.int .i64 0, .int .i64 0]), 2, 16) := by kernel_rfl
structure RG (w0 : World) (rb : Nat) (N E : List (Int × Int)) (w : World) : Prop where
  rm : ∃ vn ve, RM w w0.heap.size rb N E vn ve
  below : Below w0.heap.size w0 w
def KpR (w w' : World) : Prop := ∀ g t cs, (t = 57 ∨ t = 60 ∨ t = 49) → Blk w g t cs → Blk w' g t cs
def Foot (rb : Nat) (vn ve : Value) (g : Nat) : Prop := g = rb ∨ vn.ownBlock = some g ∨ ve.ownBlock = some g
section
variable {w0 w w' : World} {rb : Nat} {N E : List (Int × Int)} {vn ve : Value}
theorem KpR.new_ (h : NewW w w') : KpR w w' := fun g t cs _ hb => hb.ch h (fun h => h)
theorem RG.size (h : RG w0 rb N E w) : w0.heap.size ≤ w.heap.size := h.below.size
theorem RG.new_ (h : RG w0 rb N E w) (hc : NewW w w') : RG w0 rb N E w' := by
  obtain ⟨vn, ve, hm⟩ := h.rm
  exact ⟨⟨vn, ve, hm.new_ hc⟩, Ch.below h.below hc (fun _ h => h.elim) h.below.size⟩
theorem RG.kept (h : RG w0 rb N E w) (hk : KpT w w') (hb : Below w0.heap.size w0 w') : RG w0 rb N E w' := by
  obtain ⟨vn, ve, hm⟩ := h.rm
  refine ⟨⟨vn, ve, hk _ _ _ (by decide) (by decide) hm.blk, ?_, ?_, hm.bB, hm.nl, hm.el⟩, hb⟩
  · refine ⟨hm.on.1, ?_⟩
    rcases hm.on.2 with h2 | ⟨g, cap, cur, rfl, hg, hh, r⟩
    · exact .inl h2
    · exact .inr ⟨g, cap, cur, rfl, hg, hk g 69 cur (by decide) (by decide) hh, r⟩
  · refine ⟨hm.oe.1, ?_⟩
    rcases hm.oe.2 with h2 | ⟨g, cap, cur, rfl, hg, hh, r⟩
    · exact .inl h2
    · exact .inr ⟨g, cap, cur, rfl, hg, hk g 41 cur (by decide) (by decide) hh, r⟩
theorem rg_frame (h : RM w w0.heap.size rb N E vn ve) (hb : Below w0.heap.size w0 w) (hc : Ch (Foot rb vn ve) w w') : Below w0.heap.size w0 w' ∧ KpR w w' := by
  refine ⟨Ch.below hb hc (fun g hg => ?_) hb.size, fun g t cs ht hk => hk.ch hc (fun hg => ?_)⟩
  · rcases hg with rfl | hg | hg
    · exact h.bB
    · exact (own_lt h.on hg).1
    · exact (own_lt h.oe hg).1
  · rcases hg with rfl | hg | hg
    · exact h.blk.ne_ hk (by rcases ht with rfl | rfl | rfl <;> decide) rfl
    · exact own_blk_ne h.on hk (by rcases ht with rfl | rfl | rfl <;> decide) hg
    · exact own_blk_ne h.oe hk (by rcases ht with rfl | rfl | rfl <;> decide) hg
theorem KG.kept {gb : Nat} {l : List Nd} (h : KG w0 gb l w) (hk : KpR w w') (hb : Below w0.heap.size w0 w') : KG w0 gb l w' := by
  obtain ⟨v, hm⟩ := h.gm
  refine ⟨⟨v, hk _ _ _ (.inr (.inl rfl)) hm.blk, ?_, hm.bB, hm.ok⟩, hb⟩
  refine ⟨hm.own.1, ?_⟩
  rcases hm.own.2 with h2 | ⟨g, cap, cur, rfl, hg, hh, r⟩
  · exact .inl h2
  · exact .inr ⟨g, cap, cur, rfl, hg, hk g 57 cur (.inl rfl) hh, r⟩
end
def nodeRE (N : List (Int × Int)) (id st : Int) : Int :=
  if id < 0 ∨ st < 0 ∨ 1099511627776 < st then 1 else if stB N id = true then (if stS N id = st then 0 else 8) else if 64 ≤ N.length then 7 else 0
def nodeRL (N : List (Int × Int)) (id st : Int) : List (Int × Int) := if nodeRE N id st = 0 ∧ stB N id = false then N ++ [(id, st)] else N
def edgeRE (N : List (Int × Int)) (a b : Int) : Int := if a = b then 1 else if stB N a = true ∧ stB N b = true then 0 else 6
def edgeRL (N E : List (Int × Int)) (a b : Int) : List (Int × Int) := if edgeRE N a b = 0 ∧ (a, b) ∉ E then E ++ [(a, b)] else E
section
variable {w0 w : World} {rb : Nat} {N E : List (Int × Int)}
set_option maxHeartbeats 2000000 in
theorem node_r (h : RG w0 rb N E w) (id st : Int) :
    Calls Tryd.prog 21 #[.pointer (some ⟨rb, 0, none⟩), .int .i64 id, .int .i64 st] w fun e w' => e = .returned (.int .i64 (nodeRE N id st)) ∧ RG w0 rb (nodeRL N id st) E w' ∧ KpR w w' := by
  obtain ⟨X, hX⟩ : ∃ X, nodeRE N id st = X := ⟨_, rfl⟩
  obtain ⟨L, hL⟩ : ∃ L, nodeRL N id st = L := ⟨_, rfl⟩
  rw [hX, hL]
  unfold nodeRL at hL
  rw [hX] at hL
  unfold nodeRE at hX
  obtain ⟨vn, ve, hm⟩ := h.rm
  obtain ⟨A, q, rfl⟩ := own_form hm.on
  have HST := Lib.hid (stamp_r hm id)
  by_cases hbad : id < 0 ∨ st < 0 ∨ 1099511627776 < st
  · rw [if_pos hbad] at hX
    subst hX
    rw [if_neg (by simp)] at hL
    subst hL
    have HH := Lib.hid h
    clear h hm HST
    by_cases h1 : id < 0
    · have d : decide (id < 0) = true := decide_eq_true h1
      clear hbad
      go_enter Tryd.func21, Tryd.ntmps21
      go_wp2_with fail
      go_ret
      exact ⟨rfl, HH.out, KpR.new_ (Ch.refl _ _)⟩
    · have d : decide (id < 0) = false := decide_eq_false h1
      by_cases h2 : st < 0
      · have d2 : decide (st < 0) = true := decide_eq_true h2
        clear hbad
        go_enter Tryd.func21, Tryd.ntmps21
        go_wp2_with fail
        go_ret
        exact ⟨rfl, HH.out, KpR.new_ (Ch.refl _ _)⟩
      · have d2 : decide (st < 0) = false := decide_eq_false h2
        have d3 : decide (1099511627776 < st) = true := decide_eq_true (by omega)
        have h3 : 1099511627776 < st := by omega
        clear hbad
        go_enter Tryd.func21, Tryd.ntmps21
        go_wp2_with fail
        go_ret
        exact ⟨rfl, HH.out, KpR.new_ (Ch.refl _ _)⟩
  · rw [if_neg hbad] at hX
    have d1 : decide (id < 0) = false := decide_eq_false (by omega)
    have d2 : decide (st < 0) = false := decide_eq_false (by omega)
    have d3 : decide (1099511627776 < st) = false := decide_eq_false (by omega)
    have h64 := hm.nl
    have HH := Lib.hid h
    have HM := Lib.hid hm
    have hszw := h.size
    clear h hm hbad
    generalize hs : stS N id = s at *
    generalize hb : stB N id = bb at *
    cases bb
    case true =>
      rw [if_neg (by simp)] at hL
      subst hL
      rw [if_pos rfl] at hX
      by_cases hst : s = st
      · rw [if_pos hst] at hX
        have d4 : (s == st) = true := by simpa using hst
        have d4' : decide (s = st) = true := by simpa using hst
        subst hX
        clear hst hs hb
        go_enter Tryd.func21, Tryd.ntmps21
        go_wp2_with fail
        refine HST.out.mono ?_
        rintro e w2 ⟨rfl, hN⟩
        have HN := Lib.hid hN
        clear hN HST
        dsimp only
        go_wp2_with fail
        go_ret
        exact ⟨rfl, HH.out.new_ HN.out, KpR.new_ HN.out⟩
      · rw [if_neg hst] at hX
        have d4 : (s == st) = false := by simpa using hst
        have d4' : decide (s = st) = false := by simpa using hst
        subst hX
        clear hst hs hb
        go_enter Tryd.func21, Tryd.ntmps21
        go_wp2_with fail
        refine HST.out.mono ?_
        rintro e w2 ⟨rfl, hN⟩
        have HN := Lib.hid hN
        clear hN HST
        dsimp only
        go_wp2_with fail
        go_ret
        exact ⟨rfl, HH.out.new_ HN.out, KpR.new_ HN.out⟩
    case false =>
      rw [if_neg (by simp)] at hX
      generalize hn : N.length = n at *
      have HN := Lib.hid hn
      by_cases hfull : 64 ≤ n
      · rw [if_pos hfull] at hX
        subst hX
        rw [if_neg (by simp)] at hL
        subst hL
        have dl : decide ((64 : Int) ≤ (n : Int)) = true := by simp; omega
        have dl' : decide (64 ≤ n) = true := by simp; omega
        clear hn hs hb
        go_enter Tryd.func21, Tryd.ntmps21
        go_wp2_with fail
        refine HST.out.mono ?_
        rintro e w2 ⟨rfl, hN⟩
        have HN2 := Lib.hid hN
        have c0 := (HM.out.new_ hN).c0
        clear hN HST
        dsimp only
        go_wp2_with fail
        go_ret
        exact ⟨rfl, HH.out.new_ HN2.out, KpR.new_ HN2.out⟩
      · rw [if_neg hfull] at hX
        subst hX
        rw [if_pos ⟨rfl, rfl⟩] at hL
        subst hL
        have dl : decide ((64 : Int) ≤ (n : Int)) = false := by simp; omega
        have dl' : decide (64 ≤ n) = false := by simp; omega
        obtain ⟨i1, hi1, hy0, hy1, hy2⟩ := info_parts rnode_info
        have hn64 : n < 64 := by omega
        clear hn hs hb hfull
        go_enter Tryd.func21, Tryd.ntmps21
        go_wp2_with fail
        refine HST.out.mono ?_
        rintro e w2 ⟨rfl, hN⟩
        have HN2 := Lib.hid hN
        have c0 := (HM.out.new_ hN).c0
        have HM2 := Lib.hid (HM.out.new_ hN)
        have hsz2 := (HH.out.new_ hN).size
        clear hN HST
        dsimp only
        go_wp2_with (first
          | (at_builtin
             refine wpList_append_any _ rfl (.tmp 39) (.tmp 43) _ rfl w0.heap.size 69 i1 _ 2 16 Tryd.underlying45 hi1 hy0 hy1 hy2 rfl (by omega) _ n (flatE N) rfl
               (by have := HM2.out.on; rw [HN.out] at this; exact own_ch this ((Ch.refl (fun _ => False) _).alloc _) (fun _ _ h => h)) (w2.heap.size + 1) (some ⟨w2.heap.size, 0, none⟩) 1 1 [.int .i64 id, .int .i64 st] rfl (reads_new w2 69 #[.int .i64 id, .int .i64 st] 1 2 rfl) (by simp [Value.oneCell']) (by simp only [maxLen]; omega) (by omega) (by simp; omega) ?_
             intro v7 w7 hown7 hg7 hat7
             have hb7 := (HM2.out.blk.alloc (.cells #[.int .i64 id, .int .i64 st] 69)).grown hg7 (fun e => own_blk_ne HM2.out.on HM2.out.blk (by decide) e.symm)
             have f7 := hb7.frozen 0
             have e7 := hb7.cell 0
             simp at e7
             have HO7 := Lib.hid hown7
             have HG7 := Lib.hid hg7
             have HB7 := Lib.hid hb7
             obtain ⟨A7, c7, rfl⟩ := own_form hown7
             clear hown7 hg7 hat7 hb7))
        go_ret
        have h7 : Ch (fun g => (Value.slice A n q).ownBlock = some g) w2 w7 := ((Ch.refl _ w2).alloc _).grown HG7.out (fun g hg => .inl hg)
        have hch : Ch (Foot rb (.slice A n q) ve) w (w7.setCell ⟨rb, 0, none⟩ (.slice A7 (n + 1) c7)) :=
          ((HN2.out.mono (fun _ h => h.elim)).trans' (h7.mono (fun g hg => .inr (.inl hg)))).setCell (p := ⟨rb, 0, none⟩) (.inl (.inl rfl)) _
        obtain ⟨f1, f2⟩ := rg_frame HM.out HH.out.below hch
        refine ⟨rfl, ⟨⟨.slice A7 (n + 1) c7, ve, ?_, ?_, ?_, HM.out.bB, by rw [List.length_append, HN.out, List.length_singleton]; omega, HM.out.el⟩, f1⟩, f2⟩
        · have := HB7.out.set_ 0 (.slice A7 (n + 1) c7)
          simpa using this
        · rw [List.length_append, HN.out, List.length_singleton, flatE_snoc]
          exact own_set_far HO7.out (fun e => own_blk_ne HO7.out HB7.out (by decide) e) _
        · have he := own_ch HM2.out.oe h7 (fun k hk hk' => by
            have h1 := HM2.out.on
            rw [HN.out] at h1
            exact own_own_ne HM2.out.oe h1 (by decide) k hk hk')
          exact own_set_far he (fun e => own_blk_ne he HB7.out (by decide) e) _
end
end Go.Proofs.YtfcdplfnhjbdnabDoor
