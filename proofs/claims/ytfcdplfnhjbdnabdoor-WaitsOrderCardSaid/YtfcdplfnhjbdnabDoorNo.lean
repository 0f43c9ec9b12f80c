/- Node, Edge: the walks. -/
import Derived.Test.YtfcdplfnhjbdnabDoorOi
namespace Go.Proofs.YtfcdplfnhjbdnabDoor
open Go.RowKit Go.Sort
set_option linter.unusedVariables false

theorem node_info : (Tryd.prog.info? 57).map (fun i => (i.zero, i.size, i.bytes)) = some (some (.agg #[.int .i64 0, .int .i64 0, .int .u64 0]), 3, 24) := by kernel_rfl
/-- A graph of a law's own, and the world it began in. -/
structure KG (w0 : World) (gb : Nat) (l : List Nd) (w : World) : Prop where
  gm : ∃ v, GM w w0.heap.size gb l v
  below : Below w0.heap.size w0 w
def KpT (w w' : World) : Prop := ∀ g t cs, t ≠ 57 → t ≠ 60 → Blk w g t cs → Blk w' g t cs
theorem KpT.refl (w : World) : KpT w w := fun _ _ _ _ _ h => h
theorem KpT.trans {w w' w'' : World} (h : KpT w w') (h' : KpT w' w'') : KpT w w'' := fun g t cs h1 h2 hb => h' g t cs h1 h2 (h g t cs h1 h2 hb)
theorem KpT.new_ {w w' : World} (h : NewW w w') : KpT w w' := fun g t cs _ _ hb => hb.ch h (fun h => h)
section
variable {w0 w w' : World} {gb : Nat} {l : List Nd}
theorem KG.size (h : KG w0 gb l w) : w0.heap.size ≤ w.heap.size := h.below.size
theorem KG.new_ (h : KG w0 gb l w) (hc : NewW w w') : KG w0 gb l w' := by
  obtain ⟨v, hm⟩ := h.gm
  exact ⟨⟨v, hm.new_ hc⟩, Ch.below h.below hc (fun _ h => h.elim) h.below.size⟩
theorem KG.ok (h : KG w0 gb l w) : Ok l := by
  obtain ⟨v, hm⟩ := h.gm
  exact hm.ok
theorem kg_new (w0 w : World) (hb : Below w0.heap.size w0 w) : Calls Tryd.prog 19 #[] w fun e w' => e = .returned (.pointer (some ⟨w.heap.size, 0, none⟩)) ∧ KG w0 w.heap.size [] w' ∧ NewW w w' :=
  (new_any w).mono fun _ _ ⟨h1, h2⟩ => by
    have hc : NewW w (w.alloc (.cells #[.slice none 0 0] 60)) := (Ch.refl _ w).alloc _
    subst h2
    exact ⟨h1, ⟨⟨_, Blk.new w 60 _, ⟨rfl, .inl ⟨rfl, rfl⟩⟩, hb.size, ⟨by simp, by simp, by simp, by simp, by simp, by simp⟩⟩, Ch.below hb hc (fun _ h => h.elim) hb.size⟩, hc⟩
end
/-! ### Node -/
def nodeE (l : List Nd) (id st : Int) : Int :=
  if id < 0 ∨ st < 0 ∨ 1099511627776 < st then 1 else
    match l.find? (fun x => x.id == id) with
    | some x => if x.st = st then 0 else 8
    | none => if 64 ≤ l.length then 7 else 0
def nodeL (l : List Nd) (id st : Int) : List Nd := if nodeE l id st = 0 ∧ ∀ x : Nd, x ∈ l → x.id ≠ id then l ++ [⟨id, st, 0⟩] else l
theorem nodup_inj {α : Type} {l : List α} (h : l.Nodup) {i j : Nat} (hi : i < l.length) (hj : j < l.length) (e : l[i] = l[j]) : i = j := by
  rcases Nat.lt_trichotomy i j with hl | hl | hl
  · exact absurd e (List.pairwise_iff_getElem.1 h i j hi hj hl)
  · exact hl
  · exact absurd e.symm (List.pairwise_iff_getElem.1 h j i hj hi hl)
theorem find_of {l : List Nd} (hn : (l.map Nd.id).Nodup) {i : Nat} {x : Nd} (hx : l[i]? = some x) : l.find? (fun y => y.id == x.id) = some x := by
  rcases hf : l.find? (fun y => y.id == x.id) with _ | y
  · have := List.find?_eq_none.1 hf x (mem_of_some hx)
    simp at this
  · have h1 := List.find?_some hf
    have h2 := List.mem_of_find?_eq_some hf
    simp at h1
    obtain ⟨j, hj⟩ := List.mem_iff_getElem?.1 h2
    have e1 : (l.map Nd.id)[j]? = some x.id := by rw [List.getElem?_map, hj, Option.map_some, h1]
    have e2 : (l.map Nd.id)[i]? = some x.id := by rw [List.getElem?_map, hx]; rfl
    have hj' := lt_of_some e1
    have hi' := lt_of_some e2
    have : j = i := by
      rw [List.getElem?_eq_getElem hj'] at e1
      rw [List.getElem?_eq_getElem hi'] at e2
      injection e1 with e1
      injection e2 with e2
      exact nodup_inj hn hj' hi' (e1.trans e2.symm)
    subst this
    rw [hx] at hj
    injection hj with hj
    rw [hj]
    rw [hj] at hf
    exact hf
theorem ok_node {l : List Nd} (h : Ok l) {id st : Int} (hl : l.length < 64) (h0 : 0 ≤ id) (h1 : id ≤ 9223372036854775807) (hs : 0 ≤ st ∧ st ≤ 1099511627776) (hn : ∀ x : Nd, x ∈ l → x.id ≠ id) : Ok (l ++ [⟨id, st, 0⟩]) := by
  refine ⟨by simp; omega, fun x hx => ?_, ?_, fun i x hx => ?_, fun x hx => ?_, fun x hx => ?_⟩
  · rw [List.length_append, List.length_singleton]
    rcases List.mem_append.1 hx with hx | hx
    · have := h.bits x hx
      rw [Nat.pow_succ]; omega
    · simp at hx
      subst hx
      exact Nat.two_pow_pos _
  · rw [List.map_append, List.nodup_append]
    refine ⟨h.ids, by simp, fun a ha b hb e => ?_⟩
    simp at hb
    obtain ⟨x, hx, rfl⟩ := List.mem_map.1 ha
    exact hn x hx (e.trans hb)
  · by_cases hi : i < l.length
    · rw [List.getElem?_append_left hi] at hx
      exact h.self i x hx
    · rw [List.getElem?_append_right (by omega)] at hx
      have := mem_of_some hx
      simp at this
      subst this
      simp
  · rcases List.mem_append.1 hx with hx | hx
    · exact h.id0 x hx
    · simp at hx
      subst hx
      exact ⟨h0, h1⟩
  · rcases List.mem_append.1 hx with hx | hx
    · exact h.st0 x hx
    · simp at hx
      subst hx
      exact hs
theorem flatN_snoc (l : List Nd) (x : Nd) : flatN (l ++ [x]) = flatN l ++ [.int .i64 x.id, .int .i64 x.st, .int .u64 x.to] := by simp [flatN]
section
variable {w0 w : World} {gb : Nat} {l : List Nd}
set_option maxHeartbeats 2000000 in
theorem node_any (h : KG w0 gb l w) (id st : Int) (hid : id ≤ 9223372036854775807) :
    Calls Tryd.prog 20 #[.pointer (some ⟨gb, 0, none⟩), .int .i64 id, .int .i64 st] w fun e w' => e = .returned (.int .i64 (nodeE l id st)) ∧ KG w0 gb (nodeL l id st) w' ∧ KpT w w' := by
  obtain ⟨E, hE⟩ : ∃ E, nodeE l id st = E := ⟨_, rfl⟩
  by_cases hbad : id < 0 ∨ st < 0 ∨ 1099511627776 < st
  · have hE1 : E = 1 := by rw [← hE]; unfold nodeE; rw [if_pos hbad]
    have hL : nodeL l id st = l := by unfold nodeL; rw [hE, hE1, if_neg (by simp)]
    rw [hL, hE, hE1]
    have HH := Lib.hid h
    clear h hE hL hE1
    by_cases h1 : id < 0
    · have d : decide (id < 0) = true := decide_eq_true h1
      clear hbad
      go_enter Tryd.func20, Tryd.ntmps20
      go_wp2_with fail
      go_ret
      exact ⟨rfl, HH.out, KpT.refl _⟩
    · have d : decide (id < 0) = false := decide_eq_false h1
      by_cases h2 : st < 0
      · have d2 : decide (st < 0) = true := decide_eq_true h2
        clear hbad
        go_enter Tryd.func20, Tryd.ntmps20
        go_wp2_with fail
        go_ret
        exact ⟨rfl, HH.out, KpT.refl _⟩
      · have d2 : decide (st < 0) = false := decide_eq_false h2
        have d3 : decide (1099511627776 < st) = true := decide_eq_true (by omega)
        have h3 : 1099511627776 < st := by omega
        clear hbad
        go_enter Tryd.func20, Tryd.ntmps20
        go_wp2_with fail
        go_ret
        exact ⟨rfl, HH.out, KpT.refl _⟩
  · have d1 : decide (id < 0) = false := decide_eq_false (by omega)
    have d2 : decide (st < 0) = false := decide_eq_false (by omega)
    have d3 : decide (1099511627776 < st) = false := decide_eq_false (by omega)
    obtain ⟨v, hm⟩ := h.gm
    obtain ⟨A, q, rfl⟩ := own_form hm.own
    have HFI := Lib.hid (find_any hm id)
    have h64 := hm.ok.len
    rcases idx_cases l id with ⟨hx, hno⟩ | ⟨i, p, hx, hxi, hpi⟩
    · rw [hx] at HFI
      have hfn : l.find? (fun x => x.id == id) = none := List.find?_eq_none.2 fun x hx => by simpa using hno x hx
      have hE1 : E = if 64 ≤ l.length then 7 else 0 := by
        rw [← hE]; unfold nodeE; rw [if_neg hbad, hfn]
      by_cases hfull : 64 ≤ l.length
      · rw [if_pos hfull] at hE1
        have hL : nodeL l id st = l := by unfold nodeL; rw [hE, hE1, if_neg (by simp)]
        rw [hL, hE, hE1]
        have HH := Lib.hid h
        have HM := Lib.hid hm
        clear h hE hL hE1 hx hfn hno hm
        generalize hn : l.length = n at *
        have dl : decide ((64 : Int) ≤ (n : Int)) = true := by simp; omega
        have dl' : decide (64 ≤ n) = true := by simp; omega
        clear hn
        go_enter Tryd.func20, Tryd.ntmps20
        go_wp2_with fail
        refine HFI.out.mono ?_
        rintro e w2 ⟨rfl, hN2⟩
        have c0 := (HM.out.new_ hN2).c0
        have HN2 := Lib.hid hN2
        clear hN2 HFI
        dsimp only
        go_wp2_with fail
        go_ret
        exact ⟨rfl, HH.out.new_ HN2.out, KpT.new_ HN2.out⟩
      · rw [if_neg hfull] at hE1
        have hL : nodeL l id st = l ++ [⟨id, st, 0⟩] := by unfold nodeL; rw [hE, hE1, if_pos ⟨rfl, hno⟩]
        rw [hL, hE, hE1]
        have HH := Lib.hid h
        have HM := Lib.hid hm
        have HOK := Lib.hid (ok_node (st := st) hm.ok (by omega) (by omega) hid (by omega) hno)
        obtain ⟨i1, hi1, hy0, hy1, hy2⟩ := info_parts node_info
        have hszw := h.size
        clear h hE hL hE1 hx hfn hno hm hbad
        generalize hn : l.length = n at *
        have HN := Lib.hid hn
        have dl : decide ((64 : Int) ≤ (n : Int)) = false := by simp; omega
        have dl' : decide (64 ≤ n) = false := by simp; omega
        have hmax : (n : Int) ≤ 64 := by omega
        clear hn
        go_enter Tryd.func20, Tryd.ntmps20
        go_wp2_with fail
        refine HFI.out.mono ?_
        rintro e w2 ⟨rfl, hN2⟩
        have c0 := (HM.out.new_ hN2).c0
        have HM2 := Lib.hid (HM.out.new_ hN2)
        have HK2 := Lib.hid (HH.out.new_ hN2)
        have HN2 := Lib.hid hN2
        have hsz2 := HK2.out.size
        clear hN2 HFI
        dsimp only
        go_wp2_with (first
          | (at_builtin
             refine wpList_append_any _ rfl (.tmp 54) (.tmp 58) _ rfl w0.heap.size 57 i1 _ 3 24 Tryd.underlying58 hi1 hy0 hy1 hy2 rfl (by omega) _ n (flatN l) rfl
               (by have := HM2.out.own; rw [HN.out] at this; exact own_ch this ((Ch.refl (fun _ => False) _).alloc _) (fun _ _ h => h)) (w2.heap.size + 1) (some ⟨w2.heap.size, 0, none⟩) 1 1 [.int .i64 id, .int .i64 st, .int .u64 0] rfl (reads_new w2 57 #[.int .i64 id, .int .i64 st, .int .u64 0] 1 3 rfl) (by simp [Value.oneCell']) (by simp only [maxLen]; omega) (by omega) (by simp; omega) ?_
             intro v7 w7 hown7 hg7 hat7
             have hb7 := (HM2.out.blk.alloc (.cells #[.int .i64 id, .int .i64 st, .int .u64 0] 57)).grown hg7 (fun e => own_blk_ne HM2.out.own HM2.out.blk (by decide) e.symm)
             have f7 := hb7.frozen 0
             have e7 := hb7.cell 0
             simp at e7
             have HO7 := Lib.hid hown7
             have HG7 := Lib.hid hg7
             have HB7 := Lib.hid hb7
             obtain ⟨A7, c7, rfl⟩ := own_form hown7
             clear hown7 hg7 hat7 hb7))
        go_ret
        have hch : Ch (fun g => g = gb ∨ (Value.slice A n q).ownBlock = some g) w (w7.setCell ⟨gb, 0, none⟩ (.slice A7 (n + 1) c7)) :=
          ((((Ch.refl (fun _ => False) w).trans' HN2.out).alloc _).mono (fun _ h => h.elim) |>.grown HG7.out (fun g hg => .inl (.inr hg))).setCell (p := ⟨gb, 0, none⟩) (.inl (.inl rfl)) _
        refine ⟨rfl, ⟨⟨.slice A7 (n + 1) c7, ⟨?_, ?_, HM.out.bB, HOK.out⟩⟩, Ch.below HH.out.below hch (fun g hg => ?_) HH.out.size⟩, fun g t cs h1 h2 hb => hb.ch hch (fun hg => ?_)⟩
        · have := HB7.out.set_ 0 (.slice A7 (n + 1) c7)
          simpa using this
        · rw [List.length_append, HN.out, List.length_singleton, flatN_snoc]
          exact own_set_far HO7.out (fun e => own_blk_ne HO7.out HB7.out (by decide) e) _
        · rcases hg with rfl | hg
          · exact HM.out.bB
          · exact (own_lt HM.out.own hg).1
        · rcases hg with rfl | hg
          · exact HM.out.blk.ne_ hb (fun e => h2 e.symm) rfl
          · exact own_blk_ne HM.out.own hb (fun e => h1 e.symm) hg
    · rw [hx] at HFI
      subst hpi
      have hfn := find_of hm.ok.ids hxi
      have hE1 : E = if p.st = st then 0 else 8 := by
        rw [← hE]; unfold nodeE; rw [if_neg hbad, hfn]
      have hL : nodeL l p.id st = l := by unfold nodeL; rw [if_neg (fun hh => hh.2 p (mem_of_some hxi) rfl)]
      rw [hL, hE]
      have HH := Lib.hid h
      have HM := Lib.hid hm
      have HX := Lib.hid hxi
      have hil := lt_of_some hxi
      have hiI : (i : Int) < (l.length : Int) := by omega
      have dg : decide ((0 : Int) ≤ (i : Int)) = true := by simp
      clear h hE hL hx hfn hm hbad hxi
      by_cases hst : p.st = st
      · rw [if_pos hst] at hE1
        have ds : (p.st == st) = true := by simpa using hst
        subst hE1
        clear hst
        go_enter Tryd.func20, Tryd.ntmps20
        go_wp2_with fail
        refine HFI.out.mono ?_
        rintro e w2 ⟨rfl, hN2⟩
        obtain ⟨g, cap, hv, r0, r1, r2⟩ := (HM.out.new_ hN2).at_ HX.out
        injection hv with hA hn hq
        subst hA
        have c0 := (HM.out.new_ hN2).c0
        have HN2 := Lib.hid hN2
        clear hN2 HFI hn hq
        dsimp only
        go_wp2_with fail
        go_ret
        exact ⟨rfl, HH.out.new_ HN2.out, KpT.new_ HN2.out⟩
      · rw [if_neg hst] at hE1
        have ds : (p.st == st) = false := by simpa using hst
        subst hE1
        clear hst
        go_enter Tryd.func20, Tryd.ntmps20
        go_wp2_with fail
        refine HFI.out.mono ?_
        rintro e w2 ⟨rfl, hN2⟩
        obtain ⟨g, cap, hv, r0, r1, r2⟩ := (HM.out.new_ hN2).at_ HX.out
        injection hv with hA hn hq
        subst hA
        have c0 := (HM.out.new_ hN2).c0
        have HN2 := Lib.hid hN2
        clear hN2 HFI hn hq
        dsimp only
        go_wp2_with fail
        go_ret
        exact ⟨rfl, HH.out.new_ HN2.out, KpT.new_ HN2.out⟩
end
theorem node_nil (id st : Int) (w : World) : Calls Tryd.prog 20 #[.pointer none, .int .i64 id, .int .i64 st] w fun e w' => e = .returned (.int .i64 1) ∧ w = w' := by
  go_enter Tryd.func20, Tryd.ntmps20
  go_wp2_with fail
  go_ret
  exact ⟨rfl, rfl⟩
end Go.Proofs.YtfcdplfnhjbdnabDoor
