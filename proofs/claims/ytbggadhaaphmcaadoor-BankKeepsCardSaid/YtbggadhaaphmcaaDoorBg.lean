/- bank: Share's closure, that gives one account its part. -/
import Derived.Test.YtbggadhaaphmcaaDoorBq
namespace Go.Proofs.YtbggadhaaphmcaaDoor
open Go.Lib Go.RowKit
set_option linter.unusedVariables false

/-- The three blocks that the closure has captured: the part, what is left over, the plan. -/
structure SH (w : World) (B pb rb lb : Nat) (part rest : Int) (v : Value) (l : List OpD) : Prop where
  p : Blk w pb 3 #[.int .i64 part]
  r : Blk w rb 3 #[.int .i64 rest]
  s : Blk w lb 31 #[v]
  o : w.ownsRow B 41 4 v l.length (flatO l)
  pr : pb ≠ rb
  pB : B ≤ pb
  rB : B ≤ rb
  lB : B ≤ lb
section
variable {w w' : World} {B pb rb lb : Nat} {part rest : Int} {v : Value} {l : List OpD}
theorem SH.new_ (h : SH w B pb rb lb part rest v l) (hc : NewW w w') : SH w' B pb rb lb part rest v l :=
  ⟨h.p.ch hc (fun h => h), h.r.ch hc (fun h => h), h.s.ch hc (fun h => h), own_ch h.o hc (fun _ _ h => h), h.pr, h.pB, h.rB, h.lB⟩
theorem SH.hB (h : SH w B pb rb lb part rest v l) : B ≤ w.heap.size := by have := h.p.lt; have := h.pB; omega
theorem SH.setR (h : SH w B pb rb lb part rest v l) (x : Int) : SH (w.setCell ⟨rb, 0, none⟩ (.int .i64 x)) B pb rb lb part x v l :=
  ⟨h.p.far h.pr _, h.r.set_ 0 _, h.s.far (fun e => by have := Blk.ne_ h.s h.r (by decide); exact this e) _, own_set_far h.o (a := ⟨rb, 0, none⟩) (own_blk_ne h.o h.r (by decide)) _, h.pr, h.pB, h.rB, h.lB⟩
end
/-- Behind an appending: the plan is one longer. -/
theorem sh_app {w w2 w7 : World} {B pb rb lb n q c7 n' : Nat} {part rest : Int} {A A7 : Option Addr} {l : List OpD} {o : OpD} {obj : Obj} (h : SH w B pb rb lb part rest (.slice A n q) l) (hn : l.length = n)
    (hN : NewW w w2) (hown : w7.ownsRow B 41 4 (.slice A7 n' c7) n' (flatO l ++ [.int .i64 o.k, .string o.key, .string o.val, .int .i64 o.n])) (hn' : n' = n + 1) (hg : (w2.alloc obj).grownBy w7 (Value.slice A n q).ownBlock) :
    SH (w7.setCell ⟨lb, 0, none⟩ (.slice A7 n' c7)) B pb rb lb part rest (.slice A7 n' c7) (l ++ [o]) ∧ Ch (fun g => B ≤ g) w (w7.setCell ⟨lb, 0, none⟩ (.slice A7 n' c7)) := by
  subst hn hn'
  have h2 := h.new_ hN
  have h3 := h2.new_ ((Ch.refl (fun _ => False) w2).alloc obj)
  have np := own_blk_ne h3.o h3.p (by decide)
  have nr := own_blk_ne h3.o h3.r (by decide)
  have ns := own_blk_ne h3.o h3.s (by decide)
  have p7 := h3.p.grown hg (fun e => np e.symm)
  have r7 := h3.r.grown hg (fun e => nr e.symm)
  have s7 := h3.s.grown hg (fun e => ns e.symm)
  have sp : lb ≠ pb := Blk.ne_ h.s h.p (by decide)
  have sr : lb ≠ rb := Blk.ne_ h.s h.r (by decide)
  refine ⟨⟨p7.far sp.symm _, r7.far sr.symm _, s7.set_ 0 _, ?_, h.pr, h.pB, h.rB, h.lB⟩, ?_⟩
  · rw [List.length_append, List.length_singleton, flatO_snoc]
    exact own_set_far hown (a := ⟨lb, 0, none⟩) (own_blk_ne hown s7 (by decide)) _
  · refine Ch.setCell (Ch.grown (((hN.mono fun _ h => h.elim) : Ch (fun g => B ≤ g) w w2).alloc obj) hg (fun k hk => .inl ?_)) (.inl h.lB) _
    rcases h.o.2 with ⟨e, _⟩ | ⟨g', cap, cur, e, hB, _⟩
    · rw [e] at hk; simp [Value.ownBlock] at hk
    · rw [e] at hk
      simp [Value.ownBlock] at hk
      omega
def gX (part rest : Int) : Int := if 0 < rest then part + 1 else if rest < 0 then part - 1 else part
def gR (rest : Int) : Int := if 0 < rest then rest - 1 else if rest < 0 then rest + 1 else rest
def GivesP (w : World) (B pb rb lb : Nat) (part rest : Int) (l : List OpD) (i : Int) (e : Ending) (w' : World) : Prop :=
  e = .returned (.tuple #[]) ∧ ∃ A q, SH w' B pb rb lb part (gR rest) (.slice A (l.length + 1) q) (l ++ [addO i (gX part rest)]) ∧ Ch (fun g => B ≤ g) w w'
set_option maxRecDepth 100000 in
set_option maxHeartbeats 4000000 in
theorem gives_any {w : World} {B pb rb lb : Nat} {part rest : Int} {A : Option Addr} {q : Nat} {l : List OpD} (i : Int) (h0 : 0 ≤ i) (h1 : i < 16) (h : SH w B pb rb lb part rest (.slice A l.length q) l) (hl : l.length ≤ 16)
    (hp : -1048576 ≤ part ∧ part ≤ 1048576) (hr : -1048576 ≤ rest ∧ rest ≤ 1048576) :
    Calls Tryd.prog 68 #[.int .i64 i, .pointer (some ⟨pb, 0, none⟩), .pointer (some ⟨rb, 0, none⟩), .pointer (some ⟨lb, 0, none⟩)] w (GivesP w B pb rb lb part rest l i) := by
  have c0 := h.p.cell 0
  have r0 := h.r.cell 0
  have fr := h.r.frozen 0
  have hB := h.hB
  have HADD := Lib.hid (fun x w' => add_any i x h0 h1 w')
  have H := Lib.hid h
  have HP := Lib.hid (fun A q w' (hs : SH w' B pb rb lb part (gR rest) (.slice A (l.length + 1) q) (l ++ [addO i (gX part rest)])) (hc : Ch (fun g => B ≤ g) w w') => (show GivesP w B pb rb lb part rest l i (.returned (.tuple #[])) w' from ⟨rfl, A, q, hs, hc⟩))
  obtain ⟨i1, hi1, hy0, hy1, hy2⟩ := info_parts op_info
  obtain ⟨hp0, hp1⟩ := hp
  obtain ⟨hr0, hr1⟩ := hr
  clear h
  by_cases e1 : 0 < rest
  · have d1 : decide (0 < rest) = true := by simpa using e1
    go_enter Tryd.func68, Tryd.ntmps68
    go_upto_region 2 with (fail)
    go_region
    go_upto_region 5 with (fail)
    have HX := Lib.hid (show gX part rest = (part + 1) by unfold gX; rw [if_pos e1])
    have HR := Lib.hid (show gR rest = (rest - 1) by unfold gR; rw [if_pos e1])
    rw [HX.out, HR.out] at HP
    have HC1 := Lib.hid (show Ch (fun g => B ≤ g) w ((w.setCell ⟨rb, 0, none⟩ (.int .i64 (rest - 1))).drew) from (((Ch.refl _ w).setCell (p := ⟨rb, 0, none⟩) (.inl H.out.rB) _).drew))
    have H1 := Lib.hid (show SH ((w.setCell ⟨rb, 0, none⟩ (.int .i64 (rest - 1))).drew) B pb rb lb part (rest - 1) (.slice A l.length q) l from (H.out.setR (rest - 1)).new_ ((Ch.refl _ _).drew))
    have HA1 := Lib.hid (fun w' => HADD.out (part + 1) w')
    generalize ((w.setCell ⟨rb, 0, none⟩ (.int .i64 (rest - 1))).drew) = w1 at *
    generalize (part + 1) = X at *
    generalize (rest - 1) = RR at *
    have y0 := H1.out.s.cell 0
    have yl := H1.out.s.lt
    have hB1 : B ≤ w1.heap.size := H1.out.hB
    generalize hLN : l.length = LN at *
    have HLN := Lib.hid hLN
    obtain ⟨KT, hKT⟩ : ∃ KT, keyT i = KT := ⟨_, rfl⟩
    have HKT := Lib.hid hKT
    rw [hKT] at HA1
    clear c0 r0 fr hLN hKT H HADD HX HR d1 e1
    go_region_law (first
      | (refine step_append_any _ rfl (.tmp 21) (.tmp 25) _ rfl B 41 i1 _ 4 48 Tryd.underlying31 hi1 hy0 hy1 hy2 rfl (by omega) (.slice A LN q) LN (flatO l) rfl
           (own_ch (HLN.out ▸ H1.out.o : w1.ownsRow B 41 4 (.slice A LN q) LN (flatO l)) ((show NewW w1 w2 from HN2.out).alloc _) (fun _ _ h => h)) _ (some ⟨_, 0, none⟩) 1 1 [.int .i64 5, .string KT, .string emp, .int .i64 X] rfl (reads_new _ _ #[.int .i64 5, .string KT, .string emp, .int .i64 X] 1 4 rfl) (by simp [Value.oneCell']) (by simp only [maxLen]; omega) (by omega) (by have := HN2.out.size; simp; omega) ?_
         intro v7 w7 hown7 hg7 hat7
         obtain ⟨A7, c7, rfl⟩ := own_form hown7
         have HF := Lib.hid (sh_app (o := addO i X) H1.out HLN.out HN2.out (by rw [← HKT.out] at hown7; exact hown7) rfl hg7)
         have m0 := ((H1.out.s.ch HN2.out (fun h => h)).alloc _).grown hg7 (fun e => own_blk_ne (own_ch (HLN.out ▸ H1.out.o : w1.ownsRow B 41 4 (.slice A LN q) LN (flatO l)) HN2.out (fun _ _ h => h)) (H1.out.s.ch HN2.out (fun h => h)) (by decide) e.symm)
         have m1 := m0.frozen 0
         have m2 := m0.cell 0
         clear hown7 hg7 hat7 m0)
      | (go_simp; go_at_call 67; refine (HA1.out _).mono ?_; rintro e w2 ⟨rfl, hN2⟩; have HN2 := Lib.hid (show NewW w1 w2 from Ch.trans' ((Ch.refl _ w1).drew) hN2); clear hN2; have y2 := (H1.out.s.ch HN2.out (fun h => h)).cell 0; have yl2 := (H1.out.s.ch HN2.out (fun h => h)).lt))
    all_goals
      go_wp2_with fail
      go_end0
      exact HP.out _ _ _ HF.out.1 (HC1.out.trans' HF.out.2)
  have d1 : decide (0 < rest) = false := by simpa using e1
  by_cases e2 : rest < 0
  · have d2 : decide (rest < 0) = true := by simpa using e2
    go_enter Tryd.func68, Tryd.ntmps68
    go_upto_region 4 with (fail)
    go_region
    go_upto_region 5 with (fail)
    have HX := Lib.hid (show gX part rest = (part - 1) by unfold gX; rw [if_neg e1, if_pos e2])
    have HR := Lib.hid (show gR rest = (rest + 1) by unfold gR; rw [if_neg e1, if_pos e2])
    rw [HX.out, HR.out] at HP
    have HC1 := Lib.hid (show Ch (fun g => B ≤ g) w ((w.setCell ⟨rb, 0, none⟩ (.int .i64 (rest + 1))).drew) from (((Ch.refl _ w).setCell (p := ⟨rb, 0, none⟩) (.inl H.out.rB) _).drew))
    have H1 := Lib.hid (show SH ((w.setCell ⟨rb, 0, none⟩ (.int .i64 (rest + 1))).drew) B pb rb lb part (rest + 1) (.slice A l.length q) l from (H.out.setR (rest + 1)).new_ ((Ch.refl _ _).drew))
    have HA1 := Lib.hid (fun w' => HADD.out (part - 1) w')
    generalize ((w.setCell ⟨rb, 0, none⟩ (.int .i64 (rest + 1))).drew) = w1 at *
    generalize (part - 1) = X at *
    generalize (rest + 1) = RR at *
    have y0 := H1.out.s.cell 0
    have yl := H1.out.s.lt
    have hB1 : B ≤ w1.heap.size := H1.out.hB
    generalize hLN : l.length = LN at *
    have HLN := Lib.hid hLN
    obtain ⟨KT, hKT⟩ : ∃ KT, keyT i = KT := ⟨_, rfl⟩
    have HKT := Lib.hid hKT
    rw [hKT] at HA1
    clear c0 r0 fr hLN hKT H HADD HX HR d1 e1 d2 e2
    go_region_law (first
      | (refine step_append_any _ rfl (.tmp 21) (.tmp 25) _ rfl B 41 i1 _ 4 48 Tryd.underlying31 hi1 hy0 hy1 hy2 rfl (by omega) (.slice A LN q) LN (flatO l) rfl
           (own_ch (HLN.out ▸ H1.out.o : w1.ownsRow B 41 4 (.slice A LN q) LN (flatO l)) ((show NewW w1 w2 from HN2.out).alloc _) (fun _ _ h => h)) _ (some ⟨_, 0, none⟩) 1 1 [.int .i64 5, .string KT, .string emp, .int .i64 X] rfl (reads_new _ _ #[.int .i64 5, .string KT, .string emp, .int .i64 X] 1 4 rfl) (by simp [Value.oneCell']) (by simp only [maxLen]; omega) (by omega) (by have := HN2.out.size; simp; omega) ?_
         intro v7 w7 hown7 hg7 hat7
         obtain ⟨A7, c7, rfl⟩ := own_form hown7
         have HF := Lib.hid (sh_app (o := addO i X) H1.out HLN.out HN2.out (by rw [← HKT.out] at hown7; exact hown7) rfl hg7)
         have m0 := ((H1.out.s.ch HN2.out (fun h => h)).alloc _).grown hg7 (fun e => own_blk_ne (own_ch (HLN.out ▸ H1.out.o : w1.ownsRow B 41 4 (.slice A LN q) LN (flatO l)) HN2.out (fun _ _ h => h)) (H1.out.s.ch HN2.out (fun h => h)) (by decide) e.symm)
         have m1 := m0.frozen 0
         have m2 := m0.cell 0
         clear hown7 hg7 hat7 m0)
      | (go_simp; go_at_call 67; refine (HA1.out _).mono ?_; rintro e w2 ⟨rfl, hN2⟩; have HN2 := Lib.hid (show NewW w1 w2 from Ch.trans' ((Ch.refl _ w1).drew) hN2); clear hN2; have y2 := (H1.out.s.ch HN2.out (fun h => h)).cell 0; have yl2 := (H1.out.s.ch HN2.out (fun h => h)).lt))
    all_goals
      go_wp2_with fail
      go_end0
      exact HP.out _ _ _ HF.out.1 (HC1.out.trans' HF.out.2)
  · have d2 : decide (rest < 0) = false := by simpa using e2
    go_enter Tryd.func68, Tryd.ntmps68
    go_upto_region 5 with (fail)
    have HX := Lib.hid (show gX part rest = part by unfold gX; rw [if_neg e1, if_neg e2])
    have HR := Lib.hid (show gR rest = rest by unfold gR; rw [if_neg e1, if_neg e2])
    rw [HX.out, HR.out] at HP
    have HC1 := Lib.hid (show Ch (fun g => B ≤ g) w w from (Ch.refl _ w))
    have H1 := Lib.hid (show SH w B pb rb lb part rest (.slice A l.length q) l from H.out)
    have HA1 := Lib.hid (fun w' => HADD.out part w')
    obtain ⟨w1, rfl⟩ : ∃ w1 : World, w1 = w := ⟨_, rfl⟩
    obtain ⟨X, rfl⟩ : ∃ X : Int, X = part := ⟨_, rfl⟩
    obtain ⟨RR, rfl⟩ : ∃ RR : Int, RR = rest := ⟨_, rfl⟩
    have y0 := H1.out.s.cell 0
    have yl := H1.out.s.lt
    have hB1 : B ≤ w1.heap.size := H1.out.hB
    generalize hLN : l.length = LN at *
    have HLN := Lib.hid hLN
    obtain ⟨KT, hKT⟩ : ∃ KT, keyT i = KT := ⟨_, rfl⟩
    have HKT := Lib.hid hKT
    rw [hKT] at HA1
    clear c0 r0 fr hLN hKT H HADD HX HR d1 e1 d2 e2
    go_region_law (first
      | (refine step_append_any _ rfl (.tmp 21) (.tmp 25) _ rfl B 41 i1 _ 4 48 Tryd.underlying31 hi1 hy0 hy1 hy2 rfl (by omega) (.slice A LN q) LN (flatO l) rfl
           (own_ch (HLN.out ▸ H1.out.o : w1.ownsRow B 41 4 (.slice A LN q) LN (flatO l)) ((show NewW w1 w2 from HN2.out).alloc _) (fun _ _ h => h)) _ (some ⟨_, 0, none⟩) 1 1 [.int .i64 5, .string KT, .string emp, .int .i64 X] rfl (reads_new _ _ #[.int .i64 5, .string KT, .string emp, .int .i64 X] 1 4 rfl) (by simp [Value.oneCell']) (by simp only [maxLen]; omega) (by omega) (by have := HN2.out.size; simp; omega) ?_
         intro v7 w7 hown7 hg7 hat7
         obtain ⟨A7, c7, rfl⟩ := own_form hown7
         have HF := Lib.hid (sh_app (o := addO i X) H1.out HLN.out HN2.out (by rw [← HKT.out] at hown7; exact hown7) rfl hg7)
         have m0 := ((H1.out.s.ch HN2.out (fun h => h)).alloc _).grown hg7 (fun e => own_blk_ne (own_ch (HLN.out ▸ H1.out.o : w1.ownsRow B 41 4 (.slice A LN q) LN (flatO l)) HN2.out (fun _ _ h => h)) (H1.out.s.ch HN2.out (fun h => h)) (by decide) e.symm)
         have m1 := m0.frozen 0
         have m2 := m0.cell 0
         clear hown7 hg7 hat7 m0)
      | (go_simp; go_at_call 67; refine (HA1.out _).mono ?_; rintro e w2 ⟨rfl, hN2⟩; have HN2 := Lib.hid (show NewW w1 w2 from Ch.trans' ((Ch.refl _ w1).drew) hN2); clear hN2; have y2 := (H1.out.s.ch HN2.out (fun h => h)).cell 0; have yl2 := (H1.out.s.ch HN2.out (fun h => h)).lt))
    all_goals
      go_wp2_with fail
      go_end0
      exact HP.out _ _ _ HF.out.1 (HC1.out.trans' HF.out.2)
end Go.Proofs.YtbggadhaaphmcaaDoor
