/- The contract of the reference's Do of layer 27. -/
import Derived.Test.YtekibpfpkbgjkacRows
import Derived.Test.YtekibpfpkbgjkacRef
import Derived.RegionTactic
import Derived.Deep.RegionLaw
import Derived.Deep.DeepCutAuto
namespace Go.Proofs.Ytekibpfpkbgjkac
open Go.RowKit
set_option linter.unusedVariables false
section
variable (B b : Nat) (window sum : Int) (L : List RS) (v : Value) (w : World)
/-- Do. -/
structure RDo where
  x : Int
  e : Int
  sum : Int
  L : List RS
def rdoR (window sum : Int) (L : List RS) (i seq amount : Int) (v' : Value) : RDo :=
  if amount < -1125899906842624 ∨ 1125899906842624 < amount then ⟨0, 1, sum, L⟩
  else if i < 0 ∨ L.length ≤ i then ⟨0, 6, sum, L⟩
  else match L[i.toNat]? with
    | none => ⟨0, 6, sum, L⟩
    | some s =>
      if s.closed then ⟨0, 8, sum, L⟩
      else if seq < 1 ∨ s.ans.length + 1 < seq ∨ 1073741824 < seq then ⟨0, 5, sum, L⟩
      else if seq ≤ s.ans.length then ⟨(rkeptR window s seq).1, (rkeptR window s seq).2, sum, L⟩
      else ⟨sum + amount, 0, sum + amount, L.set i.toNat ⟨s.ans ++ [sum + amount], s.closed, v'⟩⟩

def RDoPost (B b : Nat) (window sum : Int) (L : List RS) (i seq amount : Int) (w : World) (e : Ending) (w' : World) : Prop :=
  ∃ v', e = .returned (.tuple #[.int .i64 (rdoR window sum L i seq amount v').x, .int .i64 (rdoR window sum L i seq amount v').e]) ∧
      RPost B b window (rdoR window sum L i seq amount v').sum (rdoR window sum L i seq amount v').L w w'
theorem rdo_end {B b : Nat} {window sum : Int} {L : List RS} {i seq amount : Int} {w w' : World} {E : Ending} {x e sum' : Int} {L' : List RS} (HE : ∀ v', rdoR window sum L i seq amount v' = ⟨x, e, sum', L'⟩)
    (he : E = .returned (.tuple #[.int .i64 x, .int .i64 e])) (hp : RPost B b window sum' L' w w') : RDoPost B b window sum L i seq amount w E w' :=
  ⟨undef, by rw [HE]; exact he, by rw [HE]; exact hp⟩


/-- The end of Do's last case: the answer is appended, the session's answers are put anew. -/
theorem rdo_fin {B b : Nat} {window sum : Int} {L : List RS} {i seq amount S : Int} {w w1 w7 : World} {I lb c c8 c7 : Nat} {A9 A7 : Option Addr} {s : RS}
    (HE : ∀ v', rdoR window sum L i seq amount v' = ⟨S, 0, S, L.set I ⟨s.ans ++ [S], s.closed, v'⟩⟩)
    (P1 : RBook w1 B b window S L (.slice (some ⟨lb, 0, none⟩) L.length c)) (C1 : Ch (TS B w) w w1) (hs : L[I]? = some s) (hsv : s.v = .slice A9 s.ans.length c8)
    (T1 : TS B w lb) (T2 : ∀ k, s.v.ownBlock = some k → TS B w k)
    (hown : w7.ownsRow B 3 1 (.slice A7 (s.ans.length + 1) c7) (s.ans.length + 1) (s.ans.map (Value.int .i64) ++ [.int .i64 S]))
    (hg : (w1.alloc (Obj.cells #[.int .i64 S] 3)).drew.grownBy w7 (Value.slice A9 s.ans.length c8).ownBlock)
    (hat : (Value.slice A7 (s.ans.length + 1) c7).ownBlock = (Value.slice A9 s.ans.length c8).ownBlock ∨ (Value.slice A7 (s.ans.length + 1) c7).ownBlock = some (w1.alloc (Obj.cells #[.int .i64 S] 3)).heap.size) :
    RDoPost B b window sum L i seq amount w (.returned (.tuple #[.int .i64 S, .int .i64 0])) (w7.setCell ⟨lb, I * 2, none⟩ (.slice A7 (s.ans.length + 1) c7)) := by
  obtain ⟨hb, ho, hss, hap, hB⟩ := P1
  have hlt := lt_of_some hs
  have hso := hss s (mem_of_some hs)
  obtain ⟨cur, hcur⟩ := own_blk ho
  have nA : (Value.slice A9 s.ans.length c8).ownBlock ≠ some lb := by rw [← hsv]; exact own_blk_ne hso hcur (by decide)
  have nB : (Value.slice A9 s.ans.length c8).ownBlock ≠ some b := by rw [← hsv]; exact own_blk_ne hso hb (by decide)
  have C7 : Ch (fun k => (Value.slice A9 s.ans.length c8).ownBlock = some k) w1 w7 := ((Ch.refl _ w1).alloc _).drew.grown hg (fun k hk => .inl hk)
  have nb7 : (Value.slice A7 (s.ans.length + 1) c7).ownBlock ≠ some lb := own_blk_ne hown (hcur.ch C7 nA) (by decide)
  have nbl : b ≠ lb := hb.ne_ hcur (by decide)
  refine ⟨.slice A7 (s.ans.length + 1) c7, by rw [HE], ?_⟩
  rw [HE]
  refine ⟨.slice (some ⟨lb, 0, none⟩) L.length c, ⟨?_, ?_, ?_, ?_, hB⟩, ?_⟩
  · exact (hb.ch C7 nB).far (p := ⟨lb, I * 2, none⟩) nbl _
  · have h1 := own_ch ho C7 (fun k hk => by simp [Value.ownBlock] at hk; subst hk; exact nA)
    have h2 := (h1.stored (I * 2) (.slice A7 (s.ans.length + 1) c7)).1
    have h3 := flat_set (rlen L) hs (show 0 < 2 by omega) (x' := ⟨s.ans ++ [S], s.closed, .slice A7 (s.ans.length + 1) c7⟩) (u := .slice A7 (s.ans.length + 1) c7) rfl
    rw [Nat.add_zero] at h3
    rw [h3] at h2
    simpa using h2
  · intro t ht
    obtain ⟨j, hj⟩ := List.getElem?_of_mem ht
    by_cases hji : j = I
    · subst hji
      rw [List.getElem?_set_self hlt] at hj
      cases hj
      have := own_set_far hown (a := ⟨lb, j * 2, none⟩) nb7 (.slice A7 (s.ans.length + 1) c7)
      simpa using this
    · rw [List.getElem?_set_ne (fun e => hji e.symm)] at hj
      have hto := hss t (mem_of_some hj)
      have h1 := own_ch hto C7 (fun k hk e => hap j I t s hji hj hs k hk (by rw [hsv]; exact e))
      exact own_set_far h1 (a := ⟨lb, I * 2, none⟩) (own_blk_ne hto hcur (by decide)) _
  · refine apart_set hap hs (fun k hk => ?_)
    rcases hat with h | h
    · left; rw [hsv, ← h]; exact hk
    · right
      intro j sj hj e
      have e2 : k = (w1.alloc (Obj.cells #[.int .i64 (S)] 3)).heap.size := by
        have := hk.symm.trans h
        injection this
      have hsz : w1.heap.size ≤ (w1.alloc (Obj.cells #[.int .i64 (S)] 3)).heap.size := ((Ch.refl (fun _ => False) w1).alloc _).size
      rcases (hss sj (mem_of_some hj)).2 with ⟨h0, _⟩ | ⟨g, cap, cur, h0, hg1, hg2, _⟩
      · rw [h0] at e; simp [Value.ownBlock] at e
      · rw [h0] at e
        simp [Value.ownBlock] at e
        subst e
        have h5 : g < w1.heap.size := Blk.lt (t := 3) (cs := cur) hg2
        omega
  · refine ((C1.trans C7 (fun k hk => .inl (T2 k (by rw [hsv]; exact hk)))).setCell (p := ⟨lb, I * 2, none⟩) (.inl T1) _)

set_option maxHeartbeats 2000000 in
theorem rdo_any (i seq amount : Int) (h : RBook w B b window sum L v) (hw0 : 1 ≤ window) (hw1 : window ≤ 64) (hB : B ≤ w.heap.size)
    (hs0 : -1000000000000000000 ≤ sum) (hs1 : sum ≤ 1000000000000000000) (hlen : ∀ s ∈ L, s.ans.length ≤ 1000) :
    Calls Try.prog 15 #[.pointer (some ⟨b, 0, none⟩), .int .i64 i, .int .i64 seq, .int .i64 amount] w (RDoPost B b window sum L i seq amount w) := by
  have c2 := h.1.cell 2
  simp at c2
  have hll := own_len h.2.1
  have hll2 : (L.length : Int) ≤ 9223372036854775807 := by omega
  obtain ⟨A, c, rfl⟩ := own_form h.2.1
  have H2 := Lib.hid h
  by_cases ha : amount < -1125899906842624 ∨ 1125899906842624 < amount
  · have e1 : ∀ v', rdoR window sum L i seq amount v' = ⟨0, 1, sum, L⟩ := fun v' => by unfold rdoR; rw [if_pos ha]
    have HE := Lib.hid e1; clear e1 h
    by_cases a1 : amount < -1125899906842624
    · clear ha
      go_enter Try.func15, Try.ntmps15
      go_wp2_with fail
      go_ret2
      exact rdo_end HE.out rfl (RPost.same H2.out)
    · have a2 : 1125899906842624 < amount := by omega
      clear ha
      go_enter Try.func15, Try.ntmps15
      go_wp2_with fail
      go_ret2
      exact rdo_end HE.out rfl (RPost.same H2.out)
  have a1 : ¬ amount < -1125899906842624 := by omega
  have a2 : ¬ 1125899906842624 < amount := by omega
  by_cases hi : i < 0 ∨ L.length ≤ i
  · have e1 : ∀ v', rdoR window sum L i seq amount v' = ⟨0, 6, sum, L⟩ := fun v' => by unfold rdoR; rw [if_neg ha, if_pos hi]
    have HE := Lib.hid e1; clear e1 h ha
    by_cases h1 : i < 0
    · clear hi
      go_enter Try.func15, Try.ntmps15
      go_wp2_with fail
      go_ret2
      exact rdo_end HE.out rfl (RPost.same H2.out)
    · have h2 : L.length ≤ i := by omega
      clear hi
      go_enter Try.func15, Try.ntmps15
      go_wp2_with fail
      go_ret2
      exact rdo_end HE.out rfl (RPost.same H2.out)
  obtain ⟨I, rfl⟩ := Int.eq_ofNat_of_zero_le (show 0 ≤ i by omega)
  obtain ⟨s, hs⟩ := some_of_lt (show I < L.length by omega)
  have hlt := lt_of_some hs
  have hltI : ¬ (L.length : Int) ≤ (I : Int) := by omega
  have HK := fun h1 h2 => rkept_any B b window sum L _ w I s seq h hs h1 h2 hw0 hw1
  obtain ⟨lb, c', A', c'', hv, hsv, k0, k1, hf, hsl, _⟩ := rat_ h hs
  injection hv with hv hv2 hv3
  subst hv hv3
  have hl1 := hlen s (mem_of_some hs)
  have HS := Lib.hid hs
  by_cases hcl : s.closed = true
  · have e1 : ∀ v', rdoR window sum L I seq amount v' = ⟨0, 8, sum, L⟩ := fun v' => by unfold rdoR; rw [if_neg ha, if_neg hi, Int.toNat_natCast, hs]; simp only [hcl, if_pos]
    have HE := Lib.hid e1; clear e1 h ha hi hf hsv k0 HK hs
    rw [hcl] at k1
    clear hcl
    go_enter Try.func15, Try.ntmps15
    go_wp2_with fail
    go_ret2
    exact rdo_end HE.out rfl (RPost.same H2.out)
  have hcl' : s.closed = false := by simpa using hcl
  by_cases hq : seq < 1 ∨ s.ans.length + 1 < seq ∨ 1073741824 < seq
  · have e1 : ∀ v', rdoR window sum L I seq amount v' = ⟨0, 5, sum, L⟩ := fun v' => by unfold rdoR; rw [if_neg ha, if_neg hi, Int.toNat_natCast, hs]; simp only [hcl, Bool.false_eq_true, if_false, if_pos hq]
    have HE := Lib.hid e1; clear e1 h ha hi hf hsv HK hs
    rw [hcl'] at k1
    clear hcl hcl'
    by_cases q1 : seq < 1
    · clear hq
      go_enter Try.func15, Try.ntmps15
      go_wp2_with fail
      go_ret2
      exact rdo_end HE.out rfl (RPost.same H2.out)
    · by_cases q2 : (s.ans.length : Int) + 1 < seq
      · clear hq
        go_enter Try.func15, Try.ntmps15
        go_wp2_with fail
        go_ret2
        exact rdo_end HE.out rfl (RPost.same H2.out)
      · omega
  have q1 : ¬ seq < 1 := by omega
  have q2 : ¬ (s.ans.length : Int) + 1 < seq := by omega
  have q3 : ¬ 1073741824 < seq := by omega
  by_cases hx : seq ≤ s.ans.length
  · have e1 : ∀ v', rdoR window sum L I seq amount v' = ⟨(rkeptR window s seq).1, (rkeptR window s seq).2, sum, L⟩ := fun v' => by
      unfold rdoR; rw [if_neg ha, if_neg hi, Int.toNat_natCast, hs]; simp only [hcl, Bool.false_eq_true, if_false, if_neg hq, if_pos hx]
    have HE := Lib.hid e1; clear e1
    have HK2 := Lib.hid (HK (by omega) hx)
    generalize (rkeptR window s seq).1 = x at *
    generalize (rkeptR window s seq).2 = y at *
    clear h ha hi hf hsv HK hq hs
    rw [hcl'] at k1
    clear hcl hcl'
    go_enter Try.func15, Try.ntmps15
    go_wp2_with fail
    with_reducible refine HK2.out.mono ?_
    rintro e w' ⟨rfl, k, hw'⟩
    have HW := Lib.hid hw'; clear hw'
    go_wp2_with fail
    go_ret2
    exact rdo_end HE.out rfl (by rw [HW.out]; exact (RPost.same H2.out).drewN k)
  · have e1 : ∀ v', rdoR window sum L I seq amount v' = ⟨sum + amount, 0, sum + amount, L.set I ⟨s.ans ++ [sum + amount], s.closed, v'⟩⟩ := fun v' => by
      unfold rdoR; rw [if_neg ha, if_neg hi, Int.toNat_natCast, hs]; simp only [hcl, Bool.false_eq_true, if_false, if_neg hq, if_neg hx]
    have HE := Lib.hid e1; clear e1
    have b0 := h.1.cell 0
    have b1 := h.1.cell 1
    have f1 := h.1.frozen 1
    simp at b0 b1
    have P1 : RBook (w.setCell ⟨b, 1, none⟩ (.int .i64 (sum + amount))) B b window (sum + amount) L (.slice (some ⟨lb, 0, none⟩) L.length c) :=
      ⟨h.1.set_ 1 _, own_set_far h.2.1 (own_blk_ne h.2.1 h.1 (by decide)) _, fun t ht => own_set_far (h.2.2.1 t ht) (own_blk_ne (h.2.2.1 t ht) h.1 (by decide)) _, h.2.2.2⟩
    have C1 : Ch (TS B w) w (w.setCell ⟨b, 1, none⟩ (.int .i64 (sum + amount))) := (Ch.refl _ _).setCell (p := ⟨b, 1, none⟩) (.inl (ts_book h)) _
    have T1 := Lib.hid (ts_own h.2.1 (.inl rfl) lb rfl)
    have T2 := Lib.hid (ts_own (h.2.2.1 s (mem_of_some hs)) (.inr rfl))
    have s0 : -9223372036854775808 ≤ sum + amount := by omega
    have s1 : sum + amount ≤ 9223372036854775807 := by omega
    obtain ⟨i1, hi1, hy0, hy1, hy2⟩ := info_parts rint_info
    clear h ha hi hf hsv HK hq hs hlen hs0 hs1
    rw [hcl'] at k1
    clear hcl hcl'
    go_enter Try.func15, Try.ntmps15
    go_upto_region 12 with (fail)
    generalize w.setCell ⟨b, 1, none⟩ (.int .i64 (sum + amount)) = w1 at *
    generalize hSu : sum + amount = S at *
    have HSu := Lib.hid hSu; clear hSu
    have z0 := P1.1.cell 1
    have z2 := P1.1.cell 2
    simp at z0 z2
    obtain ⟨lb', c9, A9, c8, hv, hsv9, k09, k19, hf9, hsl9, _⟩ := rat_ P1 HS.out
    injection hv with hv hv2 hv3
    injection hv with hv
    injection hv with hv
    subst hv hv3
    have HO := Lib.hid (by have := P1.2.2.1 s (mem_of_some HS.out); rw [hsv9] at this; exact this)
    have HP1 := Lib.hid P1
    clear P1 c2 k0 k1 b0 b1 f1
    obtain ⟨cur, hcur⟩ := own_blk HP1.out.2.1
    have nA : (Value.slice A9 s.ans.length c8).ownBlock ≠ some lb := own_blk_ne HO.out hcur (by decide)
    have hB1 : B ≤ w1.heap.size := by have := C1.size; omega
    clear hf9
    have y0 : (w1.alloc (Obj.cells #[.int .i64 S] 3)).cell? ⟨lb, I * 2, none⟩ = some (.slice A9 s.ans.length c8) := (((hcur.alloc _).cell (I * 2)).trans ((hcur.cell (I * 2)).symm.trans k09))
    have y1 : (w1.alloc (Obj.cells #[.int .i64 S] 3)).cell? ⟨b, 1, none⟩ = some (.int .i64 S) := (((HP1.out.1.alloc _).cell 1).trans ((HP1.out.1.cell 1).symm.trans z0))
    have y2 : (w1.alloc (Obj.cells #[.int .i64 S] 3)).cell? ⟨b, 2, none⟩ = some (.slice (some ⟨lb, 0, none⟩) L.length c) := (((HP1.out.1.alloc _).cell 2).trans ((HP1.out.1.cell 2).symm.trans z2))
    go_region_law (first
      | (refine step_append_any _ rfl (.tmp 93) (.tmp 98) _ rfl B 3 i1 _ 1 8 Try.underlying39 hi1 hy0 hy1 hy2 rfl (by omega) (.slice A9 s.ans.length c8) s.ans.length (s.ans.map (Value.int .i64)) rfl
           (HO.out.drew.alloc _) _ (some ⟨_, 0, none⟩) 1 1 [.int .i64 S] rfl (reads_one _ _ _) (by simp [Value.oneCell']) (by simp only [maxLen]; omega) (by omega) (by simp; omega) ?_
         intro v7 w7 hown7 hg7 hat7
         have hcur7 : Blk w7 lb 41 cur := (hcur.drew.alloc _).grown hg7 (fun e => nA e.symm)
         have m0 := (hcur7.cell (I * 2)).trans ((hcur.cell (I * 2)).symm.trans k09)
         have m1 := hcur7.frozen (I * 2)
         have hb7 : Blk w7 b 29 _ := (HP1.out.1.drew.alloc _).grown hg7 (fun e => own_blk_ne HO.out HP1.out.1 (by decide) e.symm)
         have m2 := hb7.cell 1
         simp at m2
         have m3 := hb7.cell 2
         simp at m3
         obtain ⟨A7, c7, rfl⟩ := own_form hown7
         have HO7 := Lib.hid hown7; clear hown7
         have HA7 := Lib.hid hat7; clear hat7))
    all_goals
      go_wp2_with fail
      go_ret2
      exact rdo_fin HE.out HP1.out C1 HS.out hsv9 T1.out T2.out HO7.out hg7 HA7.out
end
end Go.Proofs.Ytekibpfpkbgjkac
