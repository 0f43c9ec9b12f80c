/- The plain row in memory; its Put and At. -/
import Derived.Test.YtfcdplfnhjbdnaaRw
import Derived.Deep.DeepCutAuto
namespace Go.Proofs.Ytfcdplfnhjbdnaa
open Go.RowKit Go.Maps
set_option linter.unusedVariables false

structure RM (w : World) (B rb : Nat) (L : List Was) (last floor : Int) (v : Value) : Prop where
  blk : Blk w rb 30 #[v, .int .i64 last, .int .i64 floor]
  row : w.ownsRow B 69 4 v L.length (flatR L)
  rB : B ≤ rb
def RFoot (rb : Nat) (v : Value) (g : Nat) : Prop := g = rb ∨ v.ownBlock = some g
section
variable {w w' : World} {B rb : Nat} {L : List Was} {last floor : Int} {v : Value}
theorem RM.ch {S : Nat → Prop} (h : RM w B rb L last floor v) (hc : Ch S w w') (hS : ∀ g, RFoot rb v g → ¬ S g) : RM w' B rb L last floor v :=
  ⟨h.blk.ch hc (hS _ (.inl rfl)), own_ch h.row hc (fun g hg => hS g (.inr hg)), h.rB⟩
theorem RM.new_ (h : RM w B rb L last floor v) (hc : NewW w w') : RM w' B rb L last floor v := h.ch hc fun _ _ h => h
theorem RM.low (h : RM w B rb L last floor v) {g : Nat} (hg : RFoot rb v g) : B ≤ g ∧ g < w.heap.size := by
  rcases hg with rfl | hg
  · exact ⟨h.rB, h.blk.lt⟩
  · exact own_lt h.row hg
theorem RM.far (h : RM w B rb L last floor v) {g : Nat} {t : TypeId} {cs : Array Value} (hg : Blk w g t cs) (h1 : t ≠ 30) (h2 : t ≠ 69) : ¬ RFoot rb v g := by
  rintro (rfl | hk)
  · exact Blk.ne_ hg h.blk h1 rfl
  · exact own_blk_ne h.row hg (fun e => h2 e.symm) hk
theorem RM.c0 (h : RM w B rb L last floor v) : w.cell? ⟨rb, 0, none⟩ = some v := by rw [h.blk.cell]; rfl
theorem RM.c1 (h : RM w B rb L last floor v) : w.cell? ⟨rb, 1, none⟩ = some (.int .i64 last) := by rw [h.blk.cell]; rfl
theorem RM.c2 (h : RM w B rb L last floor v) : w.cell? ⟨rb, 2, none⟩ = some (.int .i64 floor) := by rw [h.blk.cell]; rfl
theorem RM.at_ {A : Option Addr} {c : Nat} (h : RM w B rb L last floor (.slice A L.length c)) {i : Nat} {x : Was} (hx : L[i]? = some x) : ∃ g, A = some ⟨g, 0, none⟩ ∧
    w.cell? ⟨g, i * 4, none⟩ = some (.string x.key) ∧ w.cell? ⟨g, i * 4 + 1, none⟩ = some (.string x.val) ∧ w.cell? ⟨g, i * 4 + 2, none⟩ = some (.bool x.has) ∧ w.cell? ⟨g, i * 4 + 3, none⟩ = some (.int .i64 x.t) := by
  obtain ⟨g, cap, hv, hg, _⟩ := h.row.form (by have := lt_of_some hx; omega)
  injection hv with hA hn hq
  subst hA
  obtain ⟨h0, h1, h2, h3⟩ := flatR_get L hx
  have a := h.row.cells (g := g) rfl _ _ h0
  have b := h.row.cells (g := g) rfl _ _ h1
  have d := h.row.cells (g := g) rfl _ _ h2
  have e := h.row.cells (g := g) rfl _ _ h3
  rw [add_mk, Nat.zero_add] at a b d e
  exact ⟨g, rfl, a, b, d, e⟩
end
theorem was_info : (Try.prog.info? 69).map (fun i => (i.zero, i.size, i.bytes)) = some (some (.agg #[.string ⟨#[]⟩, .string ⟨#[]⟩, .bool false, .int .i64 0]), 4, 48) := by kernel_rfl
theorem flatR_one (L : List Was) : ∀ u ∈ flatR L, u.oneCell' = true := by
  intro u hu
  obtain ⟨x, _, hx⟩ := List.mem_flatMap.1 hu
  simp at hx
  rcases hx with rfl | rfl | rfl | rfl <;> rfl
theorem beq_key (a b : ByteArray) : (a.toList == b.toList) = decide (a = b) := by
  rw [ByteArray.toList_eq, ByteArray.toList_eq, Bool.eq_iff_iff, beq_iff_eq, decide_eq_true_iff]
  exact ⟨key_inj, fun e => by rw [e]⟩
/-- What the plain row's writers leave. -/
def RP (B rb : Nat) (L : List Was) (last floor : Int) (w w' : World) : Prop := ∃ v', RM w' B rb L last floor v' ∧ Ch (fun g => g = rb) w w' ∧ ∀ g, v'.ownBlock = some g → w.heap.size ≤ g
section
variable {w : World} {B rb : Nat} {L : List Was} {v : Value} {s : CS}
set_option maxRecDepth 100000 in
set_option maxHeartbeats 4000000 in
theorem rput_bad (h : RM w B rb L s.last s.floor v) (K V : ByteArray) (H : Bool) (M : Int) (hE : putE s K V M ≠ 0) :
    Calls Try.prog 25 #[.pointer (some ⟨rb, 0, none⟩), .string K, .string V, .bool H, .int .i64 M] w fun e w' => e = .returned (.int .i64 (putE s K V M)) ∧ w = w' := by
  have c1 := h.c1
  have c2 := h.c2
  clear h
  by_cases hbad : 16 < K.size ∨ 32 < V.size ∨ M < 0 ∨ maxClock < M
  · have e1 : putE s K V M = 1 := by unfold putE; rw [if_pos hbad]
    rw [e1]
    unfold maxClock at hbad
    clear hE e1
    by_cases h1 : 16 < K.size
    · have d1 : decide (16 < (K.size : Int)) = true := by simp; omega
      clear hbad
      go_enter Try.func25, Try.ntmps25
      go_wp2_with fail
      go_ret
      exact ⟨rfl, rfl⟩
    · have d1 : decide (16 < (K.size : Int)) = false := by simp; omega
      have d1' : decide (16 < K.size) = false := by simp; omega
      by_cases h2 : 32 < V.size
      · have d2 : decide (32 < (V.size : Int)) = true := by simp; omega
        clear hbad
        go_enter Try.func25, Try.ntmps25
        go_wp2_with fail
        go_ret
        exact ⟨rfl, rfl⟩
      · have d2 : decide (32 < (V.size : Int)) = false := by simp; omega
        have d2' : decide (32 < V.size) = false := by simp; omega
        by_cases h3 : M < 0
        · have d3 : decide (M < 0) = true := by simpa using h3
          clear hbad
          go_enter Try.func25, Try.ntmps25
          go_wp2_with fail
          go_ret
          exact ⟨rfl, rfl⟩
        · have d3 : decide (M < 0) = false := by simpa using h3
          have d4 : decide (1099511627776 < M) = true := by simp; omega
          clear hbad
          go_enter Try.func25, Try.ntmps25
          go_wp2_with fail
          go_ret
          exact ⟨rfl, rfl⟩
  · have e1 : putE s K V M = 5 := by
      unfold putE at hE ⊢
      rw [if_neg hbad] at hE ⊢
      split
      · rfl
      · rename_i h; rw [if_neg h] at hE; exact absurd rfl hE
    have h56 : M < s.last ∨ M ≤ s.floor := by
      unfold putE at e1
      rw [if_neg hbad] at e1
      split at e1
      · assumption
      · cases e1
    rw [e1]
    unfold maxClock at hbad
    have d1 : decide (16 < (K.size : Int)) = false := by simp; omega
    have d1' : decide (16 < K.size) = false := by simp; omega
    have d2 : decide (32 < (V.size : Int)) = false := by simp; omega
    have d2' : decide (32 < V.size) = false := by simp; omega
    have d3 : decide (M < 0) = false := by simp; omega
    have d4 : decide (1099511627776 < M) = false := by simp; omega
    clear hE e1 hbad
    generalize s.last = LL at *
    generalize s.floor = FF at *
    by_cases h5 : M < LL
    · have d5 : decide (M < LL) = true := by simpa using h5
      clear h56
      go_enter Try.func25, Try.ntmps25
      go_wp2_with fail
      go_ret
      exact ⟨rfl, rfl⟩
    · have d5 : decide (M < LL) = false := by simpa using h5
      have d6 : decide (M ≤ FF) = true := by simp; omega
      clear h56
      go_enter Try.func25, Try.ntmps25
      go_wp2_with fail
      go_ret
      exact ⟨rfl, rfl⟩
theorem rput_fin {w1 w7 : World} {A7 : Option Addr} {c7 n7 : Nat} {L7 : List Was} {last floor M : Int} (h : RM w B rb L last floor v) (h1 : RM w1 B rb L last floor v) (hN : NewW w w1) (hB : B ≤ w.heap.size) {u : Value} (hu : ∀ g, u.ownBlock = some g → w.heap.size ≤ g) {o : Obj}
    (hg : (w1.alloc o).grownBy w7 u.ownBlock) (ho : w7.ownsRow w.heap.size 69 4 (.slice A7 n7 c7) n7 (flatR L7)) (hn : L7.length = n7) :
    RP B rb L7 M floor w ((w7.setCell ⟨rb, 0, none⟩ (.slice A7 n7 c7)).setCell ⟨rb, 1, none⟩ (.int .i64 M)) ∧ Blk w7 rb 30 #[v, .int .i64 last, .int .i64 floor] ∧ Blk (w7.setCell ⟨rb, 0, none⟩ (.slice A7 n7 c7)) rb 30 #[.slice A7 n7 c7, .int .i64 last, .int .i64 floor] := by
  have hrb := h.blk.lt
  have hc7 : Ch (fun _ => False) w w7 := ((hN : Ch (fun _ => False) w w1).alloc o).grown hg (fun g hg => .inr (hu g hg))
  have b7 := h.blk.ch hc7 (fun h => h)
  have hs1 : Ch (fun g => g = rb) w7 (w7.setCell ⟨rb, 0, none⟩ (.slice A7 n7 c7)) := (Ch.refl (fun g => g = rb) w7).setCell (p := ⟨rb, 0, none⟩) (.inl rfl) _
  have hs2 : Ch (fun g => g = rb) (w7.setCell ⟨rb, 0, none⟩ (.slice A7 n7 c7)) ((w7.setCell ⟨rb, 0, none⟩ (.slice A7 n7 c7)).setCell ⟨rb, 1, none⟩ (.int .i64 M)) := (Ch.refl (fun g => g = rb) _).setCell (p := ⟨rb, 1, none⟩) (.inl rfl) _
  have b8 : Blk (w7.setCell ⟨rb, 0, none⟩ (.slice A7 n7 c7)) rb 30 #[.slice A7 n7 c7, .int .i64 last, .int .i64 floor] := by
    have := b7.set_ 0 (.slice A7 n7 c7)
    rwa [show (#[v, .int .i64 last, .int .i64 floor] : Array Value).setIfInBounds 0 (.slice A7 n7 c7) = #[.slice A7 n7 c7, .int .i64 last, .int .i64 floor] by simp] at this
  have hne : (Value.slice A7 n7 c7).ownBlock ≠ some rb := fun e => by have := (own_lt ho e).1; omega
  refine ⟨⟨.slice A7 n7 c7, ⟨?_, ?_, h.rB⟩, ((hc7.mono fun _ h => h.elim).trans' hs1).trans' hs2, fun g hg => (own_lt ho hg).1⟩, b7, b8⟩
  · have := b8.set_ 1 (.int .i64 M)
    rwa [show (#[.slice A7 n7 c7, .int .i64 last, .int .i64 floor] : Array Value).setIfInBounds 1 (.int .i64 M) = #[.slice A7 n7 c7, .int .i64 M, .int .i64 floor] by simp] at this
  · rw [hn]
    exact own_mono (own_ch (own_ch ho hs1 (fun g hg e => hne (e ▸ hg))) hs2 (fun g hg e => hne (e ▸ hg))) hB
set_option maxRecDepth 100000 in
set_option maxHeartbeats 8000000 in
theorem rput_ok (h : RM w B rb L s.last s.floor v) (hB : B ≤ w.heap.size) (hL : L.length ≤ 1000000) (K V : ByteArray) (H : Bool) (M : Int) (hE : putE s K V M = 0) :
    Calls Try.prog 25 #[.pointer (some ⟨rb, 0, none⟩), .string K, .string V, .bool H, .int .i64 M] w fun e w' => e = .returned (.int .i64 0) ∧ RP B rb (refPut L K V H M) M s.floor w w' := by
  have hge := put_ge hE
  have hbb : ¬ (16 < K.size ∨ 32 < V.size ∨ M < 0 ∨ maxClock < M) ∧ ¬ (M < s.last ∨ M ≤ s.floor) := by
    unfold putE at hE
    split at hE
    · omega
    split at hE
    · omega
    · rename_i a b; exact ⟨a, b⟩
  obtain ⟨hb1, hb2⟩ := hbb
  unfold maxClock at hb1
  have d1 : decide (16 < (K.size : Int)) = false := by simp; omega
  have d1' : decide (16 < K.size) = false := by simp; omega
  have d2 : decide (32 < (V.size : Int)) = false := by simp; omega
  have d2' : decide (32 < V.size) = false := by simp; omega
  have d3 : decide (M < 0) = false := by simp; omega
  have d4 : decide (1099511627776 < M) = false := by simp; omega
  have d5 : decide (M < s.last) = false := by simp; omega
  have d6 : decide (M ≤ s.floor) = false := by simp; omega
  have c0 := h.c0
  have c1 := h.c1
  have c2 := h.c2
  have HH := Lib.hid h
  obtain ⟨A, c, hv⟩ := own_form h.row
  subst hv
  obtain ⟨i1, hi1, hy0, hy1, hy2⟩ := info_parts was_info
  clear h hE hge hb1 hb2
  generalize s.last = LL at *
  generalize s.floor = FF at *
  obtain ⟨NL, hNL⟩ : ∃ NL, refPut L K V H M = NL := ⟨_, rfl⟩
  rw [hNL]
  have HNL := Lib.hid hNL
  clear hNL
  cases H
  · go_enter Try.func25, Try.ntmps25
    go_wp2_with fail
    go_loopw [11, 51] (fun o i w' => ∃ j : Nat, j ≤ L.length ∧ i = .int .i64 j ∧ (∃ ll, ll = (L.take j).filter (fun w => !(decide (w.key = K) && decide (w.t = M))) ∧ ll.length ≤ j ∧ w'.ownsRow w.heap.size 69 4 o ll.length (flatR ll)) ∧ NewW w w') (fun _ i _ => L.length - (intOf i).toNat)
    case atStart => exact ⟨0, by omega, rfl, ⟨[], by simp, by simp, ⟨rfl, .inl ⟨rfl, rfl⟩⟩⟩, Ch.refl _ _⟩
    case round =>
      obtain ⟨j, hj, rfl, ⟨ll, hll, hln, hout⟩, hC⟩ := hrel
      by_cases hlt : j < L.length
      · obtain ⟨x, hx⟩ := some_of_lt hlt
        obtain ⟨g, rfl, x0, x1, x2, x3⟩ := (HH.out.new_ hC).at_ hx
        have HFN := Lib.hid (filter_next (fun w : Was => !(decide (w.key = K) && decide (w.t = M))) L hx)
        have HO := Lib.hid hout
        have HC := Lib.hid hC
        have HLL := Lib.hid hll
        have hsz : w.heap.size ≤ wr.heap.size := hC.size
        have hbk := beq_key x.key K
        obtain ⟨xk, xv, xh, xt⟩ := x
        simp only at x0 x1 x2 x3 hbk
        have hf0 : (wr.alloc (.cells #[.string xk, .string xv, .bool xh, .int .i64 xt] 69)).cell? ⟨wr.heap.size, 0, none⟩ = some (.string xk) := by rw [(Blk.new wr 69 #[.string xk, .string xv, .bool xh, .int .i64 xt]).cell]; rfl
        have hf1 : (wr.alloc (.cells #[.string xk, .string xv, .bool xh, .int .i64 xt] 69)).cell? ⟨wr.heap.size, 1, none⟩ = some (.string xv) := by rw [(Blk.new wr 69 #[.string xk, .string xv, .bool xh, .int .i64 xt]).cell]; rfl
        have hf2 : (wr.alloc (.cells #[.string xk, .string xv, .bool xh, .int .i64 xt] 69)).cell? ⟨wr.heap.size, 2, none⟩ = some (.bool xh) := by rw [(Blk.new wr 69 #[.string xk, .string xv, .bool xh, .int .i64 xt]).cell]; rfl
        have hf3 : (wr.alloc (.cells #[.string xk, .string xv, .bool xh, .int .i64 xt] 69)).cell? ⟨wr.heap.size, 3, none⟩ = some (.int .i64 xt) := by rw [(Blk.new wr 69 #[.string xk, .string xv, .bool xh, .int .i64 xt]).cell]; rfl
        clear hx hout hC hll c0 c1 c2
        by_cases hgo : xk = K ∧ xt = M
        · obtain ⟨hk1, ht1⟩ := hgo
          rw [decide_eq_true hk1] at hbk
          have dt : (xt == M) = true := by simpa using ht1
          clear hf0 hf1 hf2 hf3
          go_wp2_with fail
          exact ⟨⟨j + 1, by omega, by go_num, ⟨ll, by rw [HFN.out, ← HLL.out]; simp [hk1, ht1], by omega, HO.out.alloc _⟩, HC.out.alloc _⟩, by simp [intOf]; omega⟩
        · have hpp : (!(decide (xk = K) && decide (xt = M))) = true := by
            rcases Classical.em (xk = K) with e | e
            · have : ¬ xt = M := fun e2 => hgo ⟨e, e2⟩
              simp [this]
            · simp [e]
          have HPP := Lib.hid hpp
          clear hpp
          obtain ⟨kb, hkb⟩ : ∃ kb, decide (xk = K) = kb := ⟨_, rfl⟩
          have hkb2 : kb = true → (xt == M) = false := fun e => by
            subst e
            have := of_decide_eq_true hkb
            have h2 : ¬ xt = M := fun e2 => hgo ⟨this, e2⟩
            simpa using h2
          rw [hkb] at hbk
          clear hkb hgo
          cases kb
          · go_wp2_with (first
              | (at_builtin
                 refine wpList_append_any _ rfl (.tmp 65) (.tmp 67) _ rfl w.heap.size 69 i1 _ 4 48 Try.underlying28 hi1 hy0 hy1 hy2 rfl (by omega) _ ll.length (flatR ll) rfl
                   ((HO.out.alloc _).alloc _) (wr.heap.size + 2) (some ⟨wr.heap.size + 1, 0, none⟩) 1 1 [.string xk, .string xv, .bool xh, .int .i64 xt] rfl ?_ (by simp [Value.oneCell']) (by simp only [maxLen]; omega) (by omega) (by simp; omega) ?_
                 rotate_left 1
                 intro v7 w7 hown7 hg7 hat7
                 have HO7 := Lib.hid hown7
                 have HG7 := Lib.hid hg7
                 clear hown7 hg7 hat7))
            · exact ⟨⟨j + 1, by omega, by go_num, ⟨ll ++ [⟨xk, xv, xh, xt⟩], by rw [HFN.out, ← HLL.out]; show _ = _ ++ (if (!(decide (xk = K) && decide (xt = M))) = true then _ else _); rw [HPP.out]; rfl, by simp; omega, by rw [List.length_append, flatR_snoc]; exact HO7.out⟩,
                ((HC.out.alloc _).alloc _).grown HG7.out (fun q hq => .inr (own_lt HO.out hq).1)⟩, by simp [intOf]; omega⟩
            · have := reads_new (wr.alloc (.cells #[.string xk, .string xv, .bool xh, .int .i64 xt] 69)) 69 #[.string xk, .string xv, .bool xh, .int .i64 xt] 1 4 rfl
              simpa using this
          · have dt := hkb2 rfl
            go_wp2_with (first
              | (at_builtin
                 refine wpList_append_any _ rfl (.tmp 65) (.tmp 67) _ rfl w.heap.size 69 i1 _ 4 48 Try.underlying28 hi1 hy0 hy1 hy2 rfl (by omega) _ ll.length (flatR ll) rfl
                   ((HO.out.alloc _).alloc _) (wr.heap.size + 2) (some ⟨wr.heap.size + 1, 0, none⟩) 1 1 [.string xk, .string xv, .bool xh, .int .i64 xt] rfl ?_ (by simp [Value.oneCell']) (by simp only [maxLen]; omega) (by omega) (by simp; omega) ?_
                 rotate_left 1
                 intro v7 w7 hown7 hg7 hat7
                 have HO7 := Lib.hid hown7
                 have HG7 := Lib.hid hg7
                 clear hown7 hg7 hat7))
            · exact ⟨⟨j + 1, by omega, by go_num, ⟨ll ++ [⟨xk, xv, xh, xt⟩], by rw [HFN.out, ← HLL.out]; show _ = _ ++ (if (!(decide (xk = K) && decide (xt = M))) = true then _ else _); rw [HPP.out]; rfl, by simp; omega, by rw [List.length_append, flatR_snoc]; exact HO7.out⟩,
                ((HC.out.alloc _).alloc _).grown HG7.out (fun q hq => .inr (own_lt HO.out hq).1)⟩, by simp [intOf]; omega⟩
            · have := reads_new (wr.alloc (.cells #[.string xk, .string xv, .bool xh, .int .i64 xt] 69)) 69 #[.string xk, .string xv, .bool xh, .int .i64 xt] 1 4 rfl
              simpa using this
      · obtain rfl : j = L.length := by omega
        have hHr := HH.out.new_ hC
        obtain ⟨A9, c9, hv9⟩ := own_form hout
        subst hv9
        rw [List.take_length] at hll
        have HO := Lib.hid hout
        have HNL2 := Lib.hid (show NL = ll ++ [⟨K, ⟨#[]⟩, false, M⟩] from by rw [← HNL.out]; unfold refPut; rw [hll]; rfl)
        have HFX := Lib.hid (fun (w7 : World) A7 n7 c7 hg ho hn => rput_fin (w7 := w7) (A7 := A7) (n7 := n7) (c7 := c7) (L7 := NL) (M := M) (o := .cells #[.string K, .string ⟨#[]⟩, .bool false, .int .i64 M] 69) HH.out hHr hC hB (u := .slice A9 ll.length c9) (fun g hg => (own_lt HO.out hg).1) hg ho hn)
        have hlb := hHr.blk
        have HLB := Lib.hid hlb
        have hsz : w.heap.size ≤ wr.heap.size := hC.size
        have hne9 : (Value.slice A9 ll.length c9).ownBlock ≠ some rb := fun e => by have := (own_lt HO.out e).1; have := HH.out.blk.lt; omega
        clear hHr hlb hout hC hll hlt hj c0 c1 c2
        go_wp2_with (first
          | (at_builtin
             refine wpList_append_any _ rfl (.tmp 71) (.tmp 77) _ rfl w.heap.size 69 i1 _ 4 48 Try.underlying28 hi1 hy0 hy1 hy2 rfl (by omega) (.slice A9 ll.length c9) ll.length (flatR ll) rfl
               (HO.out.alloc _) (wr.heap.size + 1) (some ⟨wr.heap.size, 0, none⟩) 1 1 [.string K, .string ⟨#[]⟩, .bool false, .int .i64 M] rfl (reads_new wr 69 #[.string K, .string ⟨#[]⟩, .bool false, .int .i64 M] 1 4 rfl) (by simp [Value.oneCell']) (by simp only [maxLen]; omega) (by omega) (by simp; omega) ?_
             intro v7 w7 hown7 hg7 hat7
             have hb7 := (HLB.out.alloc (.cells #[.string K, .string ⟨#[]⟩, .bool false, .int .i64 M] 69)).grown hg7 (fun e => hne9 e.symm)
             have m0 := hb7.cell 0
             have m1 := hb7.frozen 0
             obtain ⟨A7, c7, rfl⟩ := own_form hown7
             obtain ⟨z1, z2, z3⟩ := HFX.out w7 A7 (ll.length + 1) c7 hg7 (by rw [HNL2.out, flatR_snoc]; exact hown7) (by rw [HNL2.out]; simp)
             have f1 := z3.frozen 1
             have g1 := z3.cell 1
             have g0 := z3.cell 0
             simp at m0 g1 g0
             have HZ := Lib.hid z1
             clear z1 z2 z3 hb7 hown7 hg7 hat7))
        go_ret
        exact ⟨rfl, HZ.out⟩
  · go_enter Try.func25, Try.ntmps25
    go_wp2_with fail
    go_loopw [11, 51] (fun o i w' => ∃ j : Nat, j ≤ L.length ∧ i = .int .i64 j ∧ (∃ ll, ll = (L.take j).filter (fun w => !(decide (w.key = K) && decide (w.t = M))) ∧ ll.length ≤ j ∧ w'.ownsRow w.heap.size 69 4 o ll.length (flatR ll)) ∧ NewW w w') (fun _ i _ => L.length - (intOf i).toNat)
    case atStart => exact ⟨0, by omega, rfl, ⟨[], by simp, by simp, ⟨rfl, .inl ⟨rfl, rfl⟩⟩⟩, Ch.refl _ _⟩
    case round =>
      obtain ⟨j, hj, rfl, ⟨ll, hll, hln, hout⟩, hC⟩ := hrel
      by_cases hlt : j < L.length
      · obtain ⟨x, hx⟩ := some_of_lt hlt
        obtain ⟨g, rfl, x0, x1, x2, x3⟩ := (HH.out.new_ hC).at_ hx
        have HFN := Lib.hid (filter_next (fun w : Was => !(decide (w.key = K) && decide (w.t = M))) L hx)
        have HO := Lib.hid hout
        have HC := Lib.hid hC
        have HLL := Lib.hid hll
        have hsz : w.heap.size ≤ wr.heap.size := hC.size
        have hbk := beq_key x.key K
        obtain ⟨xk, xv, xh, xt⟩ := x
        simp only at x0 x1 x2 x3 hbk
        have hf0 : (wr.alloc (.cells #[.string xk, .string xv, .bool xh, .int .i64 xt] 69)).cell? ⟨wr.heap.size, 0, none⟩ = some (.string xk) := by rw [(Blk.new wr 69 #[.string xk, .string xv, .bool xh, .int .i64 xt]).cell]; rfl
        have hf1 : (wr.alloc (.cells #[.string xk, .string xv, .bool xh, .int .i64 xt] 69)).cell? ⟨wr.heap.size, 1, none⟩ = some (.string xv) := by rw [(Blk.new wr 69 #[.string xk, .string xv, .bool xh, .int .i64 xt]).cell]; rfl
        have hf2 : (wr.alloc (.cells #[.string xk, .string xv, .bool xh, .int .i64 xt] 69)).cell? ⟨wr.heap.size, 2, none⟩ = some (.bool xh) := by rw [(Blk.new wr 69 #[.string xk, .string xv, .bool xh, .int .i64 xt]).cell]; rfl
        have hf3 : (wr.alloc (.cells #[.string xk, .string xv, .bool xh, .int .i64 xt] 69)).cell? ⟨wr.heap.size, 3, none⟩ = some (.int .i64 xt) := by rw [(Blk.new wr 69 #[.string xk, .string xv, .bool xh, .int .i64 xt]).cell]; rfl
        clear hx hout hC hll c0 c1 c2
        by_cases hgo : xk = K ∧ xt = M
        · obtain ⟨hk1, ht1⟩ := hgo
          rw [decide_eq_true hk1] at hbk
          have dt : (xt == M) = true := by simpa using ht1
          clear hf0 hf1 hf2 hf3
          go_wp2_with fail
          exact ⟨⟨j + 1, by omega, by go_num, ⟨ll, by rw [HFN.out, ← HLL.out]; simp [hk1, ht1], by omega, HO.out.alloc _⟩, HC.out.alloc _⟩, by simp [intOf]; omega⟩
        · have hpp : (!(decide (xk = K) && decide (xt = M))) = true := by
            rcases Classical.em (xk = K) with e | e
            · have : ¬ xt = M := fun e2 => hgo ⟨e, e2⟩
              simp [this]
            · simp [e]
          have HPP := Lib.hid hpp
          clear hpp
          obtain ⟨kb, hkb⟩ : ∃ kb, decide (xk = K) = kb := ⟨_, rfl⟩
          have hkb2 : kb = true → (xt == M) = false := fun e => by
            subst e
            have := of_decide_eq_true hkb
            have h2 : ¬ xt = M := fun e2 => hgo ⟨this, e2⟩
            simpa using h2
          rw [hkb] at hbk
          clear hkb hgo
          cases kb
          · go_wp2_with (first
              | (at_builtin
                 refine wpList_append_any _ rfl (.tmp 65) (.tmp 67) _ rfl w.heap.size 69 i1 _ 4 48 Try.underlying28 hi1 hy0 hy1 hy2 rfl (by omega) _ ll.length (flatR ll) rfl
                   ((HO.out.alloc _).alloc _) (wr.heap.size + 2) (some ⟨wr.heap.size + 1, 0, none⟩) 1 1 [.string xk, .string xv, .bool xh, .int .i64 xt] rfl ?_ (by simp [Value.oneCell']) (by simp only [maxLen]; omega) (by omega) (by simp; omega) ?_
                 rotate_left 1
                 intro v7 w7 hown7 hg7 hat7
                 have HO7 := Lib.hid hown7
                 have HG7 := Lib.hid hg7
                 clear hown7 hg7 hat7))
            · exact ⟨⟨j + 1, by omega, by go_num, ⟨ll ++ [⟨xk, xv, xh, xt⟩], by rw [HFN.out, ← HLL.out]; show _ = _ ++ (if (!(decide (xk = K) && decide (xt = M))) = true then _ else _); rw [HPP.out]; rfl, by simp; omega, by rw [List.length_append, flatR_snoc]; exact HO7.out⟩,
                ((HC.out.alloc _).alloc _).grown HG7.out (fun q hq => .inr (own_lt HO.out hq).1)⟩, by simp [intOf]; omega⟩
            · have := reads_new (wr.alloc (.cells #[.string xk, .string xv, .bool xh, .int .i64 xt] 69)) 69 #[.string xk, .string xv, .bool xh, .int .i64 xt] 1 4 rfl
              simpa using this
          · have dt := hkb2 rfl
            go_wp2_with (first
              | (at_builtin
                 refine wpList_append_any _ rfl (.tmp 65) (.tmp 67) _ rfl w.heap.size 69 i1 _ 4 48 Try.underlying28 hi1 hy0 hy1 hy2 rfl (by omega) _ ll.length (flatR ll) rfl
                   ((HO.out.alloc _).alloc _) (wr.heap.size + 2) (some ⟨wr.heap.size + 1, 0, none⟩) 1 1 [.string xk, .string xv, .bool xh, .int .i64 xt] rfl ?_ (by simp [Value.oneCell']) (by simp only [maxLen]; omega) (by omega) (by simp; omega) ?_
                 rotate_left 1
                 intro v7 w7 hown7 hg7 hat7
                 have HO7 := Lib.hid hown7
                 have HG7 := Lib.hid hg7
                 clear hown7 hg7 hat7))
            · exact ⟨⟨j + 1, by omega, by go_num, ⟨ll ++ [⟨xk, xv, xh, xt⟩], by rw [HFN.out, ← HLL.out]; show _ = _ ++ (if (!(decide (xk = K) && decide (xt = M))) = true then _ else _); rw [HPP.out]; rfl, by simp; omega, by rw [List.length_append, flatR_snoc]; exact HO7.out⟩,
                ((HC.out.alloc _).alloc _).grown HG7.out (fun q hq => .inr (own_lt HO.out hq).1)⟩, by simp [intOf]; omega⟩
            · have := reads_new (wr.alloc (.cells #[.string xk, .string xv, .bool xh, .int .i64 xt] 69)) 69 #[.string xk, .string xv, .bool xh, .int .i64 xt] 1 4 rfl
              simpa using this
      · obtain rfl : j = L.length := by omega
        have hHr := HH.out.new_ hC
        obtain ⟨A9, c9, hv9⟩ := own_form hout
        subst hv9
        rw [List.take_length] at hll
        have HO := Lib.hid hout
        have HNL2 := Lib.hid (show NL = ll ++ [⟨K, V, true, M⟩] from by rw [← HNL.out]; unfold refPut; rw [hll]; rfl)
        have HFX := Lib.hid (fun (w7 : World) A7 n7 c7 hg ho hn => rput_fin (w7 := w7) (A7 := A7) (n7 := n7) (c7 := c7) (L7 := NL) (M := M) (o := .cells #[.string K, .string V, .bool true, .int .i64 M] 69) HH.out hHr hC hB (u := .slice A9 ll.length c9) (fun g hg => (own_lt HO.out hg).1) hg ho hn)
        have hlb := hHr.blk
        have HLB := Lib.hid hlb
        have hsz : w.heap.size ≤ wr.heap.size := hC.size
        have hne9 : (Value.slice A9 ll.length c9).ownBlock ≠ some rb := fun e => by have := (own_lt HO.out e).1; have := HH.out.blk.lt; omega
        clear hHr hlb hout hC hll hlt hj c0 c1 c2
        go_wp2_with (first
          | (at_builtin
             refine wpList_append_any _ rfl (.tmp 71) (.tmp 77) _ rfl w.heap.size 69 i1 _ 4 48 Try.underlying28 hi1 hy0 hy1 hy2 rfl (by omega) (.slice A9 ll.length c9) ll.length (flatR ll) rfl
               (HO.out.alloc _) (wr.heap.size + 1) (some ⟨wr.heap.size, 0, none⟩) 1 1 [.string K, .string V, .bool true, .int .i64 M] rfl (reads_new wr 69 #[.string K, .string V, .bool true, .int .i64 M] 1 4 rfl) (by simp [Value.oneCell']) (by simp only [maxLen]; omega) (by omega) (by simp; omega) ?_
             intro v7 w7 hown7 hg7 hat7
             have hb7 := (HLB.out.alloc (.cells #[.string K, .string V, .bool true, .int .i64 M] 69)).grown hg7 (fun e => hne9 e.symm)
             have m0 := hb7.cell 0
             have m1 := hb7.frozen 0
             obtain ⟨A7, c7, rfl⟩ := own_form hown7
             obtain ⟨z1, z2, z3⟩ := HFX.out w7 A7 (ll.length + 1) c7 hg7 (by rw [HNL2.out, flatR_snoc]; exact hown7) (by rw [HNL2.out]; simp)
             have f1 := z3.frozen 1
             have g1 := z3.cell 1
             have g0 := z3.cell 0
             simp at m0 g1 g0
             have HZ := Lib.hid z1
             clear z1 z2 z3 hb7 hown7 hg7 hat7))
        go_ret
        exact ⟨rfl, HZ.out⟩
end
end Go.Proofs.Ytfcdplfnhjbdnaa
