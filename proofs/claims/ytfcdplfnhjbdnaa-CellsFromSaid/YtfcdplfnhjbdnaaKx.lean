/- The plain row's Keys: sorted insertion. -/
import Derived.Test.YtfcdplfnhjbdnaaDo
import Derived.Test.YtfcdplfnhjbdnaaSa
import Derived.Deep.RegionLaw
import Derived.Sort.Walk0
namespace Go.Proofs.Ytfcdplfnhjbdnaa
open Go.RowKit Go.Maps
set_option linter.unusedVariables false

def insK (kk : List (List UInt8)) (a : Nat) (K : List UInt8) : List (List UInt8) := kk.take a ++ [K] ++ kk.drop a
theorem ins_mem (kk : List (List UInt8)) (a : Nat) (K k : List UInt8) : k ∈ insK kk a K ↔ k ∈ kk ∨ k = K := by
  unfold insK
  have : k ∈ kk ↔ k ∈ kk.take a ∨ k ∈ kk.drop a := by rw [← List.mem_append, List.take_append_drop]
  rw [this]
  simp only [List.mem_append, List.mem_cons, List.not_mem_nil, or_false]
  constructor
  · rintro ((h | h) | h)
    · exact .inl (.inl h)
    · exact .inr h
    · exact .inl (.inr h)
  · rintro ((h | h) | h)
    · exact .inl (.inl h)
    · exact .inr h
    · exact .inl (.inr h)
theorem ins_len (kk : List (List UInt8)) (a : Nat) (K : List UInt8) (h : a ≤ kk.length) : (insK kk a K).length = kk.length + 1 := by
  unfold insK
  simp
  omega
theorem ins_rise {kk : List (List UInt8)} (h : kk.Pairwise (· < ·)) {a : Nat} {K : List UInt8} (h1 : ∀ i k, i < a → kk[i]? = some k → k < K) (h2 : ∀ k, kk[a]? = some k → K < k) : (insK kk a K).Pairwise (· < ·) := by
  have hs : (kk.take a ++ kk.drop a).Pairwise (· < ·) := by rw [List.take_append_drop]; exact h
  obtain ⟨p1, p2, p3⟩ := List.pairwise_append.1 hs
  have ht : ∀ k ∈ kk.take a, k < K := fun k hk => by
    obtain ⟨i, hi⟩ := List.getElem?_of_mem hk
    have hil := lt_of_some hi
    rw [List.length_take] at hil
    rw [List.getElem?_take_of_lt (by omega)] at hi
    exact h1 i k (by omega) hi
  have hd : ∀ k ∈ kk.drop a, K < k := fun k hk => by
    obtain ⟨i, hi⟩ := List.getElem?_of_mem hk
    rw [List.getElem?_drop] at hi
    rcases Nat.eq_zero_or_pos i with e | e
    · subst e; exact h2 k hi
    · have hl := lt_of_some hi
      have hx : kk[a]? = some kk[a] := List.getElem?_eq_getElem (by omega)
      have := List.pairwise_iff_getElem.1 h a (a + i) (by omega) hl (by omega)
      rw [List.getElem?_eq_getElem hl] at hi
      injection hi with hi
      rw [hi] at this
      exact List.lt_trans (h2 _ hx) this
  unfold insK
  rw [List.append_assoc, List.pairwise_append]
  refine ⟨p1, ?_, fun x hx y hy => ?_⟩
  · rw [List.singleton_append, List.pairwise_cons]
    exact ⟨hd, p2⟩
  · rcases List.mem_append.1 hy with hy | hy
    · simp at hy; subst hy; exact ht x hx
    · exact p3 x hx y hy
def KeysR (L : List Was) (kk : List (List UInt8)) : Prop := kk.Pairwise (· < ·) ∧ ∀ k, k ∈ kk ↔ ∃ w ∈ L, w.k = k
theorem keysR_in {L : List Was} {s : CS} (h : Rel L s) {kk : List (List UInt8)} (hk : KeysR L kk) : KeysIn s kk := by
  refine ⟨hk.1, fun k => ?_⟩
  rw [hk.2, ← h]
  unfold rowOf
  constructor
  · rintro ⟨w, hw, e⟩ e2
    rw [List.map_eq_nil_iff, List.filter_eq_nil_iff] at e2
    have := e2 w hw
    simp [e] at this
  · intro hne
    rcases hf : (L.filter fun w => decide (w.k = k)) with _ | ⟨w, r⟩
    · rw [hf] at hne; exact absurd rfl hne
    · have : w ∈ L.filter fun w => decide (w.k = k) := by rw [hf]; simp
      obtain ⟨h1, h2⟩ := List.mem_filter.1 this
      exact ⟨w, h1, by simpa using h2⟩
theorem less_key (a b : ByteArray) : Op.bytesLess a.toList b.toList = decide (a.data.toList < b.data.toList) := by
  rw [ByteArray.toList_eq, ByteArray.toList_eq, Go.Proofs.bytesLess_eq]
theorem enc_form (k : List UInt8) : ∃ kb : ByteArray, encStr k = .string kb ∧ kb.data.toList = k := ⟨⟨k.toArray⟩, rfl, rfl⟩
theorem own_empty {w : World} {B e : Nat} (h : Blk w e 9 #[]) (hB : B ≤ e) : w.ownsRow B 9 1 (.slice (some ⟨e, 0, none⟩) 0 0) 0 [] := ⟨rfl, .inr ⟨e, 0, #[], rfl, hB, h, Nat.le_refl _, by simp [maxLen], by simp, by simp⟩⟩
theorem reads_blk {w : World} {k : Nat} {u : Value} (h : Blk w k 9 #[u]) : Reads w (k + 1) 1 (some ⟨k, 0, none⟩) 1 [u] := by
  refine ⟨rfl, fun _ => ⟨_, rfl, Nat.lt_succ_self k, fun j x hx => ?_⟩⟩
  rw [add_mk, Nat.zero_add, h.cell]
  simpa using hx
theorem own_reads_take {w : World} {B g n c a : Nat} {xs : List Value} (h : w.ownsRow B 9 1 (.slice (some ⟨g, 0, none⟩) n c) n xs) (ha : a ≤ n) : Reads w w.heap.size 1 (some ⟨g, 0, none⟩) a (xs.take a) := by
  refine ⟨by rw [List.length_take, h.1]; omega, fun h0 => ⟨_, rfl, (own_lt h (g := g) (by simp [Value.ownBlock])).2, fun j u hu => ?_⟩⟩
  have hj := lt_of_some hu
  rw [List.length_take] at hj
  rw [List.getElem?_take_of_lt (by omega)] at hu
  exact h.cells (g := g) rfl j u hu
theorem own_reads_drop {w : World} {B g n c a : Nat} {xs : List Value} (h : w.ownsRow B 9 1 (.slice (some ⟨g, 0, none⟩) n c) n xs) (ha : a ≤ n) : Reads w w.heap.size 1 (some ⟨g, a, none⟩) (n - a) (xs.drop a) := by
  refine ⟨by rw [List.length_drop, h.1]; omega, fun h0 => ⟨_, rfl, (own_lt h (g := g) (by simp [Value.ownBlock])).2, fun j u hu => ?_⟩⟩
  rw [List.getElem?_drop] at hu
  have := h.cells (g := g) rfl (a + j) u hu
  rw [add_mk, Nat.zero_add] at this
  rw [add_mk]
  exact this
theorem reads_zero {w : World} {B : Nat} {A : Option Addr} {m : Nat} {xs : List Value} (hm : m = 0) (hx : xs = []) : Reads w B 1 A m xs := by
  subst hm hx
  exact Reads.none_
theorem grown_cell {W w1 : World} {row : Option Nat} (hg : W.grownBy w1 row) {a : Addr} (hlt : a.block < W.heap.size) (hne : some a.block ≠ row) : w1.cell? a = W.cell? a := World.cell?_of_block (hg.block a.block hlt hne)
theorem Reads.ch0 {W W' : World} {size m : Nat} {A : Option Addr} {xs : List Value} (h : Reads W W.heap.size size A m xs) (hc : Ch (fun _ => False) W W') : Reads W' W.heap.size size A m xs :=
  h.keep fun p hp => World.cell?_of_block (hc.block p.block hp (fun h => h))
theorem cell_ch0 {W W' : World} (hc : Ch (fun _ => False) W W') {a : Addr} {v : Value} (h : W.cell? a = some v) : W'.cell? a = some v :=
  (World.cell?_of_block (hc.block a.block (block_lt_of_cell h) (fun h => h))).trans h
theorem own_base {W : World} {B B' size n : Nat} {e : TypeId} {v : Value} {xs : List Value} (h : W.ownsRow B e size v n xs) (hB : B' ≤ B) : W.ownsRow B' e size v n xs := by
  refine ⟨h.1, ?_⟩
  rcases h.2 with h2 | ⟨g, cap, cur, hv, hg, r⟩
  · exact .inl h2
  · exact .inr ⟨g, cap, cur, hv, Nat.le_trans hB hg, r⟩
theorem enc_one (kk : List (List UInt8)) : ∀ u ∈ kk.map encStr, u.oneCell' = true := by
  intro u hu
  obtain ⟨k', _, e⟩ := List.mem_map.1 hu
  rw [← e]; rfl
theorem Blk.new2 (w : World) (t : TypeId) (cs : Array Value) {g : Nat} (h : g = w.heap.size) : Blk (w.alloc (.cells cs t)) g t cs := by subst h; exact Blk.new w t cs
theorem step_ins {ops : Array Oper} {o : Oper} {a : Act} {K : Act → World → Prop} {Q : Exit → Act → World → Prop} {E : Prop} {W2 W : World} (hc : Ch (fun _ => False) W2 W) (hgd : o.guard = none) (s x : Operand)
    (ho : o.op = .call { callee := .builtin .append, args := #[s, x], argTypes := #[44, 44] }) (i0 : TypeInfo) (ht : Try.prog.underlying 44 = some (.slice 9)) (hi : Try.prog.info? 9 = some i0) (hz : i0.zero = some (.string ⟨#[]⟩)) (h1s : i0.size = 1) (h1b : i0.bytes = 16)
    (v : Value) (n : Nat) (xs : List Value) (hs : a.eval s = v) (hown : W.ownsRow W2.heap.size 9 1 v n xs)
    (B : Nat) (A : Option Addr) (m c : Nat) (news : List Value) (hx : a.eval x = .slice A m c) (hr : Reads W B 1 A m news) (h1 : ∀ u ∈ news, u.oneCell' = true)
    (N : Nat) (hN : N = n + m) (hb : N ≤ 1000002)
    (h : ∀ v' w', w'.ownsRow W2.heap.size 9 1 v' N (xs ++ news) → Ch (fun _ => False) W2 w' → (∀ g t cs, Blk W g t cs → some g ≠ v.ownBlock → Blk w' g t cs) → K (a.put o.dst v') w') :
    if Region.wanted o (yielded ops a.tmps) = true then Oper.wp Try.prog o a W K Q else E := by
  refine step_append_any W hgd s x _ ho W2.heap.size 9 i0 _ 1 16 ht hi hz h1s h1b rfl (by omega) v n xs hs hown B A m c news hx hr h1 (by simp only [maxLen]; omega) (by omega) hc.size ?_
  intro v' w' ho' hg hat
  subst hN
  refine h v' w' ho' (hc.grown hg fun k hk => .inr ?_) fun g t cs hbk hne => hbk.grown hg ?_
  · exact (own_lt hown hk).1
  · exact hne
/-- What the search keeps. -/
structure Pk (w wb W : World) (bx : Nat) (xk : ByteArray) (v3 : Value) (NN : Nat) (xs : List Value) : Prop where
  own : W.ownsRow w.heap.size 9 1 v3 NN xs
  cell : W.cell? ⟨bx, 0, none⟩ = some (.string xk)
  nw : NewW w W
theorem Pk.drewN {w wb W : World} {bx : Nat} {xk : ByteArray} {v3 : Value} {NN : Nat} {xs : List Value} (h : Pk w wb W bx xk v3 NN xs) (n : Nat) : Pk w wb (W.drewN n) bx xk v3 NN xs :=
  ⟨own_ch h.own ((Ch.refl (fun _ => False) W).drewN n) (fun _ _ h => h), h.cell, (h.nw : Ch (fun _ => False) w W).drewN n⟩
section
variable {w : World} {B rb : Nat} {L : List Was} {v : Value} {last floor : Int}
set_option maxRecDepth 100000 in
set_option maxHeartbeats 8000000 in
theorem rkeys_any (h : RM w B rb L last floor v) (hL : L.length ≤ 1000000) :
    Calls Try.prog 20 #[.pointer (some ⟨rb, 0, none⟩)] w fun e w' => ∃ (A : Option Addr) (c : Nat) (kk : List (List UInt8)), KeysR L kk ∧ kk.length ≤ L.length ∧ e = .returned (.slice A kk.length c) ∧ w'.ownsRow w.heap.size 9 1 (.slice A kk.length c) kk.length (kk.map encStr) ∧ NewW w w' := by
  have c0 := h.c0
  have HH := Lib.hid h
  obtain ⟨A, c, hv⟩ := own_form h.row
  subst hv
  obtain ⟨i0, hi0, hz0, hz1, hz2⟩ := info_parts str_info
  clear h
  go_enter Try.func20, Try.ntmps20
  go_wp2_with fail
  go_loopw [3, 12] (fun o i w' => ∃ j : Nat, j ≤ L.length ∧ i = .int .i64 j ∧ (∃ kk, KeysR (L.take j) kk ∧ kk.length ≤ j ∧ w'.ownsRow w.heap.size 9 1 o kk.length (kk.map encStr) ∧ (kk = [] → o = .slice none 0 0)) ∧ NewW w w') (fun _ i _ => L.length - (intOf i).toNat)
  case atStart => exact ⟨0, by omega, rfl, ⟨[], ⟨List.Pairwise.nil, by simp⟩, by simp, ⟨rfl, .inl ⟨rfl, rfl⟩⟩, fun _ => rfl⟩, Ch.refl _ _⟩
  case round =>
    obtain ⟨j, hj, rfl, ⟨kk, hkr, hkn, hout, hnil⟩, hC⟩ := hrel
    obtain ⟨A3, q3, hv3⟩ := own_form hout
    subst hv3
    by_cases hlt : j < L.length
    · obtain ⟨x, hx⟩ := some_of_lt hlt
      obtain ⟨g, rfl, x0, x1, x2, x3⟩ := (HH.out.new_ hC).at_ hx
      have hC1 : NewW w (wr.alloc (.cells #[.string x.key, .string x.val, .bool x.has, .int .i64 x.t] 69)) := (hC : Ch (fun _ => False) w wr).alloc _
      have BX := Lib.hid (Blk.new wr 69 #[.string x.key, .string x.val, .bool x.has, .int .i64 x.t])
      have HO := Lib.hid (own_ch hout ((Ch.refl (fun _ => False) wr).alloc (.cells #[.string x.key, .string x.val, .bool x.has, .int .i64 x.t] 69)) (fun _ _ h => h))
      have HC := Lib.hid hC1
      have HKR := Lib.hid hkr
      have HNIL := Lib.hid hnil
      have HTK := Lib.hid (show L.take (j + 1) = L.take j ++ [x] by rw [List.take_add_one, hx]; rfl)
      obtain ⟨xk, xv, xh, xt⟩ := x
      simp only at x0 x1 x2 x3
      clear hx hout hC hC1 hkr hnil c0
      go_upto_region 5 with (fail)
      generalize wr.alloc (.cells #[.string xk, .string xv, .bool xh, .int .i64 xt] 69) = wb at *
      generalize wr.heap.size = bx at *
      clear x0 x1 x2 x3
      generalize hNN : kk.length = NN at *
      have HNN := Lib.hid hNN
      clear hNN
      go_wp2_with fail
      go_loopw [6] (fun i w' => ∃ a : Nat, a ≤ NN ∧ i = .int .i64 a ∧ (∀ i k, i < a → kk[i]? = some k → k < xk.data.toList) ∧ NewW wb w') (fun i _ => NN - (intOf i).toNat)
      case atStart => exact ⟨0, by omega, rfl, fun i k h => absurd h (by omega), Ch.refl _ _⟩
      case round =>
        obtain ⟨a, ha, rfl, hpre, hCb⟩ := hrel
        have b0 : wr.cell? ⟨bx, 0, none⟩ = some (.string xk) := by rw [(BX.out.ch (hCb : Ch (fun _ => False) wb wr) (fun h => h)).cell]; rfl
        have HOW := Lib.hid (own_ch HO.out (hCb : Ch (fun _ => False) wb wr) (fun _ _ h => h))
        have HCW := Lib.hid (HC.out.trans' hCb)
        have HCB := Lib.hid hCb
        have HPRE := Lib.hid hpre
        clear hCb hpre
        by_cases haN : a < NN
        · obtain ⟨k, hk⟩ := some_of_lt (L := kk) (i := a) (by have := HNN.out; omega)
          obtain ⟨gk, qk, hvk, _, _⟩ := HOW.out.form (by omega)
          injection hvk with hvk _ hqk
          subst hvk hqk
          obtain ⟨kb, hkb, hkd⟩ := enc_form k
          have hck := HOW.out.cells (g := gk) rfl a (.string kb) (by rw [List.getElem?_map, hk, ← hkb]; rfl)
          rw [add_mk, Nat.zero_add] at hck
          have hck0 := hck
          have haI : (a : Int) < (NN : Int) := by omega
          have ha0 : (0 : Int) ≤ (a : Int) := by omega
          have hln := less_key kb xk
          rw [hkd] at hln
          have HK := Lib.hid hk
          clear hk hkb
          by_cases hkx : k < xk.data.toList
          · rw [decide_eq_true hkx] at hln
            have HKX := Lib.hid hkx
            clear hkx hkd
            go_wp2_with fail
            go_quiet (fail)
            go_wp2_with fail
            refine ⟨⟨a + 1, by omega, by go_num, fun i k' hi hk' => ?_, HCB.out.drewN _⟩, by simp [intOf]; omega⟩
            by_cases e : i = a
            · subst e
              have := HK.out.symm.trans hk'
              injection this with this
              rw [← this]; exact HKX.out
            · exact HPRE.out i k' (by omega) hk'
          · rw [decide_eq_false hkx] at hln
            have hbk := beq_key kb xk
            by_cases heq : k = xk.data.toList
            · -- it is there
              obtain rfl : kb = xk := key_inj (hkd.trans heq)
              rw [decide_eq_true rfl] at hbk
              have HHV := Lib.hid (show KeysR (L.take (j + 1)) kk from by
                rw [HTK.out]
                refine ⟨HKR.out.1, fun k' => ?_⟩
                rw [HKR.out.2]
                constructor
                · rintro ⟨w, hw, e⟩; exact ⟨w, List.mem_append_left _ hw, e⟩
                · rintro ⟨w, hw, e⟩
                  rcases List.mem_append.1 hw with hw | hw
                  · exact ⟨w, hw, e⟩
                  · simp at hw
                    subst hw
                    rw [← HKR.out.2, ← e]
                    show kb.data.toList ∈ kk
                    rw [← heq]
                    exact mem_of_some HK.out)
              clear hkx hkd heq
              have haNe : ((a : Int) == (NN : Int)) = false := by simp; omega
              go_wp2_with fail
              go_quiet (fail)
              go_wp2_with fail
              go_quiet (fail)
              go_wp2_with fail
              exact ⟨⟨j + 1, by omega, by go_num, ⟨kk, HHV.out, by have := HNN.out; omega, by rw [HNN.out]; exact own_ch HOW.out ((Ch.refl (fun _ => False) wr).drewN _) (fun _ _ h => h), HNIL.out⟩, HCW.out.drewN _⟩, by simp [intOf]; omega⟩
            · have hke : ¬ kb = xk := fun e => heq (by rw [← hkd, e])
              rw [decide_eq_false hke] at hbk
              have haNe : ((a : Int) == (NN : Int)) = false := by simp; omega
              have HGT := Lib.hid (show ∀ k', kk[a]? = some k' → xk.data.toList < k' from fun k' hk' => by
                have := HK.out.symm.trans hk'
                injection this with this
                subst this
                rcases Classical.em (xk.data.toList < k) with h | h
                · exact h
                · exact absurd (List.le_antisymm (List.not_lt.1 h) (List.not_lt.1 hkx)) heq)
              have HPk := Lib.hid (Pk.mk (wb := wb) HOW.out b0 HCW.out)
              clear hkx hkd heq HOW HCW HCB hck
              have hck := hck0
              go_wp2_with fail
              go_quiet (fail)
              have HP1 := Lib.hid (HPk.out.drewN nq)
              have hc1 : (wr.drewN nq).cell? ⟨gk, a, none⟩ = some (.string kb) := hck
              clear HPk b0 hck
              generalize wr.drewN nq = W1 at *
              have b0 := HP1.out.cell
              go_wp2_with fail
              go_quiet (fail)
              have HP2 := Lib.hid (HP1.out.drewN nq)
              clear HP1 b0 hc1
              generalize W1.drewN nq = W2 at *
              have b0 := HP2.out.cell
              go_wp2_with fail
              have hqa : ¬ q3 = a := by have := own_cap HP2.out.own; omega
              have haq : a ≤ q3 := by have := own_cap HP2.out.own; omega
              have haqI : (a : Int) ≤ (q3 : Int) := by omega
              have hNq : NN ≤ q3 := by have := own_cap HP2.out.own; omega
              have hNqI : (NN : Int) ≤ (q3 : Int) := by omega
              have haNI : (a : Int) ≤ (NN : Int) := by omega
              have haNn : a ≤ NN := by omega
              have hszW : w.heap.size ≤ W2.heap.size := HP2.out.nw.size
              have hbx : bx < W2.heap.size := block_lt_of_cell b0
              obtain ⟨xe, hxe, hxd⟩ := enc_form xk.data.toList
              obtain rfl : xe = xk := key_inj hxd
              have HKI := Lib.hid (show KeysR (L.take (j + 1)) (insK kk a xe.data.toList) from by
                rw [HTK.out]
                refine ⟨ins_rise HKR.out.1 HPRE.out HGT.out, fun k' => ?_⟩
                rw [ins_mem, HKR.out.2]
                constructor
                · rintro (⟨w, hw, e⟩ | e)
                  · exact ⟨w, List.mem_append_left _ hw, e⟩
                  · exact ⟨⟨xe, xv, xh, xt⟩, by simp, e.symm⟩
                · rintro ⟨w, hw, e⟩
                  rcases List.mem_append.1 hw with hw | hw
                  · exact .inl ⟨w, hw, e⟩
                  · simp at hw
                    subst hw
                    exact .inr e.symm)
              have hIL : (insK kk a xe.data.toList).length = NN + 1 := by rw [ins_len _ _ _ (by have := HNN.out; omega), HNN.out]
              have hIM : (insK kk a xe.data.toList).map encStr = ([] ++ (kk.map encStr).take a ++ [.string xe]) ++ (kk.map encStr).drop a := by
                unfold insK
                rw [List.map_append, List.map_append, List.map_take, List.map_drop, List.map_cons, List.map_nil, hxe, List.nil_append]
              have HIL := Lib.hid hIL
              have HIM := Lib.hid hIM
              have hnnb : NN ≤ 1000000 := by omega
              have bA : (W2.alloc (.cells #[] 9)).cell? ⟨bx, 0, none⟩ = some (.string xe) := by rw [World.cell?_alloc_lt _ _ _ hbx]; exact b0
              have RDT := Lib.hid ((own_reads_take HP2.out.own (show a ≤ NN by omega)))
              have RDD := Lib.hid ((own_reads_drop HP2.out.own (show a ≤ NN by omega)))
              have HC0 := Lib.hid (Ch.refl (fun _ => False) W2)
              have HCE := Lib.hid (fun u (hu : u ∈ kk.map encStr) => enc_one kk u hu)
              clear hxe hxd hIL hIM
              go_region_law (first
                | (refine step_ins (W2 := W2) (by repeat (first | with_reducible exact HC0.out | with_reducible exact Ch.refl _ _ | with_reducible refine Ch.drew ?_ | with_reducible refine Ch.alloc ?_ _)) rfl (.tmp 44) (.tmp 47) rfl i0 Try.underlying44 hi0 hz0 hz1 hz2 (.slice (some ⟨_, 0, none⟩) 0 0) 0 [] rfl
                     (own_empty (by repeat (first | with_reducible exact Blk.new _ _ _ | exact Blk.new2 _ _ _ (by simp) | with_reducible refine Blk.drew ?_ | with_reducible refine Blk.alloc ?_ _)) (by simp)) W2.heap.size (some ⟨gk, 0, none⟩) a _ ((kk.map encStr).take a) rfl
                     (RDT.out.ch0 (by repeat (first | with_reducible exact HC0.out | with_reducible exact Ch.refl _ _ | with_reducible refine Ch.drew ?_ | with_reducible refine Ch.alloc ?_ _))) (fun u hu => HCE.out u (List.mem_of_mem_take hu)) a (by omega) (by omega) ?_
                   intro v1 w1 hown1 hc1 hb1
                   have b1 : w1.cell? ⟨bx, 0, none⟩ = some (.string xe) := cell_ch0 hc1 b0
                   have HO1 := Lib.hid hown1
                   have HC1 := Lib.hid hc1
                   have HB1 := Lib.hid hb1
                   clear hown1 hc1 hb1)
                | (refine step_ins (W2 := W2) (by repeat (first | with_reducible exact HC1.out | with_reducible exact Ch.refl _ _ | with_reducible refine Ch.drew ?_ | with_reducible refine Ch.alloc ?_ _)) rfl (.tmp 48) (.tmp 51) rfl i0 Try.underlying44 hi0 hz0 hz1 hz2 v1 a ([] ++ (kk.map encStr).take a) rfl
                     (own_ch HO1.out (by repeat (first | with_reducible exact HC0.out | with_reducible exact Ch.refl _ _ | with_reducible refine Ch.drew ?_ | with_reducible refine Ch.alloc ?_ _)) (fun _ _ h => h)) _ (some ⟨_, 0, none⟩) 1 _ [.string xe] rfl
                     (reads_blk (by repeat (first | with_reducible exact Blk.new _ _ _ | exact Blk.new2 _ _ _ (by simp) | with_reducible refine Blk.drew ?_ | with_reducible refine HB1.out _ _ _ ?_ (by simp [Value.ownBlock]) | with_reducible refine Blk.alloc ?_ _))) (by intro u hu; simp at hu; subst hu; rfl) (a + 1) (by omega) (by omega) ?_
                   intro v2 w2 hown2 hc2 hb2
                   have HO2 := Lib.hid hown2
                   have HC2 := Lib.hid hc2
                   clear hown2 hc2 hb2)
                | (refine step_ins (W2 := W2) (by repeat (first | with_reducible exact HC2.out | with_reducible exact Ch.refl _ _ | with_reducible refine Ch.drew ?_ | with_reducible refine Ch.alloc ?_ _)) rfl (.tmp 52) (.tmp 55) rfl i0 Try.underlying44 hi0 hz0 hz1 hz2 v2 (a + 1) ([] ++ (kk.map encStr).take a ++ [.string xe]) rfl
                     (own_ch HO2.out (by repeat (first | with_reducible exact HC0.out | with_reducible exact Ch.refl _ _ | with_reducible refine Ch.drew ?_ | with_reducible refine Ch.alloc ?_ _)) (fun _ _ h => h)) W2.heap.size (some ⟨gk, a, none⟩) (NN - a) _ ((kk.map encStr).drop a) rfl
                     (RDD.out.ch0 (by repeat (first | with_reducible exact HC2.out | with_reducible exact Ch.refl _ _ | with_reducible refine Ch.drew ?_ | with_reducible refine Ch.alloc ?_ _))) (fun u hu => HCE.out u (List.mem_of_mem_drop hu)) (NN + 1) (by omega) (by omega) ?_
                   intro v3 w3 hown3 hc3 hb3
                   have HO3 := Lib.hid hown3
                   have HC3 := Lib.hid hc3
                   clear hown3 hc3 hb3))
              all_goals
                go_wp2_with fail
                exact ⟨⟨j + 1, by omega, by go_num, ⟨insK kk a xe.data.toList, HKI.out, by rw [HIL.out]; omega, by rw [HIL.out, HIM.out]; exact own_base HO3.out hszW, fun e => absurd (congrArg List.length e) (by rw [HIL.out]; simp)⟩, (HP2.out.nw : Ch (fun _ => False) w W2).trans' HC3.out⟩, by simp [intOf]; omega⟩
        · obtain rfl : a = NN := by omega
          have HGT := Lib.hid (show ∀ k', kk[a]? = some k' → xk.data.toList < k' from fun k' hk' => by have := lt_of_some hk'; have := HNN.out; omega)
          have HPk := Lib.hid (Pk.mk (wb := wb) HOW.out b0 HCW.out)
          clear haN ha HOW HCW HCB
          go_wp2_with fail
          go_quiet (fail)
          have HP1 := Lib.hid (HPk.out.drewN nq)
          clear HPk b0
          generalize wr.drewN nq = W1 at *
          have b0 := HP1.out.cell
          go_wp2_with fail
          go_quiet (fail)
          have HP2 := Lib.hid (HP1.out.drewN nq)
          clear HP1 b0
          generalize W1.drewN nq = W2 at *
          have b0 := HP2.out.cell
          go_wp2_with fail
          rcases Nat.eq_zero_or_pos a with hz | hz
          · have hv0 := HNIL.out (List.eq_nil_of_length_eq_zero (HNN.out.trans hz))
            injection hv0 with e1 e2 e3
            clear e2
            subst e1 e3 hz
            have hszW : w.heap.size ≤ W2.heap.size := HP2.out.nw.size
            have hbx : bx < W2.heap.size := block_lt_of_cell b0
            obtain ⟨xe, hxe, hxd⟩ := enc_form xk.data.toList
            obtain rfl : xe = xk := key_inj hxd
            have HKI := Lib.hid (show KeysR (L.take (j + 1)) (insK kk 0 xe.data.toList) from by
              rw [HTK.out]
              refine ⟨ins_rise HKR.out.1 HPRE.out HGT.out, fun k' => ?_⟩
              rw [ins_mem, HKR.out.2]
              constructor
              · rintro (⟨w, hw, e⟩ | e)
                · exact ⟨w, List.mem_append_left _ hw, e⟩
                · exact ⟨⟨xe, xv, xh, xt⟩, by simp, e.symm⟩
              · rintro ⟨w, hw, e⟩
                rcases List.mem_append.1 hw with hw | hw
                · exact .inl ⟨w, hw, e⟩
                · simp at hw
                  subst hw
                  exact .inr e.symm)
            have hIL : (insK kk 0 xe.data.toList).length = 0 + 1 := by rw [ins_len _ _ _ (by have := HNN.out; omega), HNN.out]
            have hIM : (insK kk 0 xe.data.toList).map encStr = ([] ++ (kk.map encStr).take 0 ++ [.string xe]) ++ [] := by
              have hdr : (kk.map encStr).drop 0 = [] := List.drop_of_length_le (by rw [List.length_map]; have := HNN.out; omega)
              unfold insK
              rw [List.map_append, List.map_append, List.map_take, List.map_drop, List.map_cons, List.map_nil, hxe, List.nil_append, hdr]
            have HIL := Lib.hid hIL
            have HIM := Lib.hid hIM
            have hnnb : 0 ≤ 1000000 := by omega
            have bA : (W2.alloc (.cells #[] 9)).cell? ⟨bx, 0, none⟩ = some (.string xe) := by rw [World.cell?_alloc_lt _ _ _ hbx]; exact b0
            have RDT := Lib.hid ((reads_zero rfl rfl : Reads W2 W2.heap.size 1 none 0 ((kk.map encStr).take 0)))
            have RDD := Lib.hid ((reads_zero (A := none) rfl rfl : Reads W2 W2.heap.size 1 none 0 []))
            have HC0 := Lib.hid (Ch.refl (fun _ => False) W2)
            have HCE := Lib.hid (fun u (hu : u ∈ kk.map encStr) => enc_one kk u hu)
            clear hxe hxd hIL hIM
            go_region_law (first
              | (refine step_ins (W2 := W2) (by repeat (first | with_reducible exact HC0.out | with_reducible exact Ch.refl _ _ | with_reducible refine Ch.drew ?_ | with_reducible refine Ch.alloc ?_ _)) rfl (.tmp 44) (.tmp 47) rfl i0 Try.underlying44 hi0 hz0 hz1 hz2 (.slice (some ⟨_, 0, none⟩) 0 0) 0 [] rfl
                   (own_empty (by repeat (first | with_reducible exact Blk.new _ _ _ | exact Blk.new2 _ _ _ (by simp) | with_reducible refine Blk.drew ?_ | with_reducible refine Blk.alloc ?_ _)) (by simp)) W2.heap.size none 0 _ ((kk.map encStr).take 0) rfl
                   (RDT.out.ch0 (by repeat (first | with_reducible exact HC0.out | with_reducible exact Ch.refl _ _ | with_reducible refine Ch.drew ?_ | with_reducible refine Ch.alloc ?_ _))) (fun u hu => HCE.out u (List.mem_of_mem_take hu)) 0 (by omega) (by omega) ?_
                 intro v1 w1 hown1 hc1 hb1
                 have b1 : w1.cell? ⟨bx, 0, none⟩ = some (.string xe) := cell_ch0 hc1 b0
                 have HO1 := Lib.hid hown1
                 have HC1 := Lib.hid hc1
                 have HB1 := Lib.hid hb1
                 clear hown1 hc1 hb1)
              | (refine step_ins (W2 := W2) (by repeat (first | with_reducible exact HC1.out | with_reducible exact Ch.refl _ _ | with_reducible refine Ch.drew ?_ | with_reducible refine Ch.alloc ?_ _)) rfl (.tmp 48) (.tmp 51) rfl i0 Try.underlying44 hi0 hz0 hz1 hz2 v1 0 ([] ++ (kk.map encStr).take 0) rfl
                   (own_ch HO1.out (by repeat (first | with_reducible exact HC0.out | with_reducible exact Ch.refl _ _ | with_reducible refine Ch.drew ?_ | with_reducible refine Ch.alloc ?_ _)) (fun _ _ h => h)) _ (some ⟨_, 0, none⟩) 1 _ [.string xe] rfl
                   (reads_blk (by repeat (first | with_reducible exact Blk.new _ _ _ | exact Blk.new2 _ _ _ (by simp) | with_reducible refine Blk.drew ?_ | with_reducible refine HB1.out _ _ _ ?_ (by simp [Value.ownBlock]) | with_reducible refine Blk.alloc ?_ _))) (by intro u hu; simp at hu; subst hu; rfl) (0 + 1) (by omega) (by omega) ?_
                 intro v2 w2 hown2 hc2 hb2
                 have HO2 := Lib.hid hown2
                 have HC2 := Lib.hid hc2
                 clear hown2 hc2 hb2)
              | (refine step_ins (W2 := W2) (by repeat (first | with_reducible exact HC2.out | with_reducible exact Ch.refl _ _ | with_reducible refine Ch.drew ?_ | with_reducible refine Ch.alloc ?_ _)) rfl (.tmp 52) (.tmp 55) rfl i0 Try.underlying44 hi0 hz0 hz1 hz2 v2 (0 + 1) ([] ++ (kk.map encStr).take 0 ++ [.string xe]) rfl
                   (own_ch HO2.out (by repeat (first | with_reducible exact HC0.out | with_reducible exact Ch.refl _ _ | with_reducible refine Ch.drew ?_ | with_reducible refine Ch.alloc ?_ _)) (fun _ _ h => h)) W2.heap.size _ 0 _ [] rfl
                   (reads_zero rfl rfl : Reads _ W2.heap.size 1 _ 0 []) /-  (by repeat (first | with_reducible exact HC2.out | with_reducible exact Ch.refl _ _ | with_reducible refine Ch.drew ?_ | with_reducible refine Ch.alloc ?_ _))) -/ (by intro u hu; cases hu) (0 + 1) (by omega) (by omega) ?_
                 intro v3 w3 hown3 hc3 hb3
                 have HO3 := Lib.hid hown3
                 have HC3 := Lib.hid hc3
                 clear hown3 hc3 hb3))
            all_goals
              go_wp2_with fail
              exact ⟨⟨j + 1, by omega, by go_num, ⟨insK kk 0 xe.data.toList, HKI.out, by rw [HIL.out]; omega, by rw [HIL.out, HIM.out]; exact own_base HO3.out hszW, fun e => absurd (congrArg List.length e) (by rw [HIL.out]; simp)⟩, (HP2.out.nw : Ch (fun _ => False) w W2).trans' HC3.out⟩, by simp [intOf]; omega⟩
          · obtain ⟨gk, qk, hvk, _, _⟩ := HP2.out.own.form (by omega)
            injection hvk with hvk _ hqk
            subst hvk hqk
            by_cases hqa : q3 = a
            · obtain rfl : a = q3 := hqa.symm
              have hszW : w.heap.size ≤ W2.heap.size := HP2.out.nw.size
              have hbx : bx < W2.heap.size := block_lt_of_cell b0
              obtain ⟨xe, hxe, hxd⟩ := enc_form xk.data.toList
              obtain rfl : xe = xk := key_inj hxd
              have HKI := Lib.hid (show KeysR (L.take (j + 1)) (insK kk a xe.data.toList) from by
                rw [HTK.out]
                refine ⟨ins_rise HKR.out.1 HPRE.out HGT.out, fun k' => ?_⟩
                rw [ins_mem, HKR.out.2]
                constructor
                · rintro (⟨w, hw, e⟩ | e)
                  · exact ⟨w, List.mem_append_left _ hw, e⟩
                  · exact ⟨⟨xe, xv, xh, xt⟩, by simp, e.symm⟩
                · rintro ⟨w, hw, e⟩
                  rcases List.mem_append.1 hw with hw | hw
                  · exact .inl ⟨w, hw, e⟩
                  · simp at hw
                    subst hw
                    exact .inr e.symm)
              have hIL : (insK kk a xe.data.toList).length = a + 1 := by rw [ins_len _ _ _ (by have := HNN.out; omega), HNN.out]
              have hIM : (insK kk a xe.data.toList).map encStr = ([] ++ (kk.map encStr).take a ++ [.string xe]) ++ [] := by
                have hdr : (kk.map encStr).drop a = [] := List.drop_of_length_le (by rw [List.length_map]; have := HNN.out; omega)
                unfold insK
                rw [List.map_append, List.map_append, List.map_take, List.map_drop, List.map_cons, List.map_nil, hxe, List.nil_append, hdr]
              have HIL := Lib.hid hIL
              have HIM := Lib.hid hIM
              have hnnb : a ≤ 1000000 := by omega
              have bA : (W2.alloc (.cells #[] 9)).cell? ⟨bx, 0, none⟩ = some (.string xe) := by rw [World.cell?_alloc_lt _ _ _ hbx]; exact b0
              have RDT := Lib.hid ((own_reads_take HP2.out.own (Nat.le_refl _)))
              have RDD := Lib.hid ((reads_zero (A := none) rfl rfl : Reads W2 W2.heap.size 1 none 0 []))
              have HC0 := Lib.hid (Ch.refl (fun _ => False) W2)
              have HCE := Lib.hid (fun u (hu : u ∈ kk.map encStr) => enc_one kk u hu)
              clear hxe hxd hIL hIM
              go_region_law (first
                | (refine step_ins (W2 := W2) (by repeat (first | with_reducible exact HC0.out | with_reducible exact Ch.refl _ _ | with_reducible refine Ch.drew ?_ | with_reducible refine Ch.alloc ?_ _)) rfl (.tmp 44) (.tmp 47) rfl i0 Try.underlying44 hi0 hz0 hz1 hz2 (.slice (some ⟨_, 0, none⟩) 0 0) 0 [] rfl
                     (own_empty (by repeat (first | with_reducible exact Blk.new _ _ _ | exact Blk.new2 _ _ _ (by simp) | with_reducible refine Blk.drew ?_ | with_reducible refine Blk.alloc ?_ _)) (by simp)) W2.heap.size (some ⟨gk, 0, none⟩) a _ ((kk.map encStr).take a) rfl
                     (RDT.out.ch0 (by repeat (first | with_reducible exact HC0.out | with_reducible exact Ch.refl _ _ | with_reducible refine Ch.drew ?_ | with_reducible refine Ch.alloc ?_ _))) (fun u hu => HCE.out u (List.mem_of_mem_take hu)) a (by omega) (by omega) ?_
                   intro v1 w1 hown1 hc1 hb1
                   have b1 : w1.cell? ⟨bx, 0, none⟩ = some (.string xe) := cell_ch0 hc1 b0
                   have HO1 := Lib.hid hown1
                   have HC1 := Lib.hid hc1
                   have HB1 := Lib.hid hb1
                   clear hown1 hc1 hb1)
                | (refine step_ins (W2 := W2) (by repeat (first | with_reducible exact HC1.out | with_reducible exact Ch.refl _ _ | with_reducible refine Ch.drew ?_ | with_reducible refine Ch.alloc ?_ _)) rfl (.tmp 48) (.tmp 51) rfl i0 Try.underlying44 hi0 hz0 hz1 hz2 v1 a ([] ++ (kk.map encStr).take a) rfl
                     (own_ch HO1.out (by repeat (first | with_reducible exact HC0.out | with_reducible exact Ch.refl _ _ | with_reducible refine Ch.drew ?_ | with_reducible refine Ch.alloc ?_ _)) (fun _ _ h => h)) _ (some ⟨_, 0, none⟩) 1 _ [.string xe] rfl
                     (reads_blk (by repeat (first | with_reducible exact Blk.new _ _ _ | exact Blk.new2 _ _ _ (by simp) | with_reducible refine Blk.drew ?_ | with_reducible refine HB1.out _ _ _ ?_ (by simp [Value.ownBlock]) | with_reducible refine Blk.alloc ?_ _))) (by intro u hu; simp at hu; subst hu; rfl) (a + 1) (by omega) (by omega) ?_
                   intro v2 w2 hown2 hc2 hb2
                   have HO2 := Lib.hid hown2
                   have HC2 := Lib.hid hc2
                   clear hown2 hc2 hb2)
                | (refine step_ins (W2 := W2) (by repeat (first | with_reducible exact HC2.out | with_reducible exact Ch.refl _ _ | with_reducible refine Ch.drew ?_ | with_reducible refine Ch.alloc ?_ _)) rfl (.tmp 52) (.tmp 55) rfl i0 Try.underlying44 hi0 hz0 hz1 hz2 v2 (a + 1) ([] ++ (kk.map encStr).take a ++ [.string xe]) rfl
                     (own_ch HO2.out (by repeat (first | with_reducible exact HC0.out | with_reducible exact Ch.refl _ _ | with_reducible refine Ch.drew ?_ | with_reducible refine Ch.alloc ?_ _)) (fun _ _ h => h)) W2.heap.size _ 0 _ [] rfl
                     (reads_zero rfl rfl : Reads _ W2.heap.size 1 _ 0 []) /-  (by repeat (first | with_reducible exact HC2.out | with_reducible exact Ch.refl _ _ | with_reducible refine Ch.drew ?_ | with_reducible refine Ch.alloc ?_ _))) -/ (by intro u hu; cases hu) (a + 1) (by omega) (by omega) ?_
                   intro v3 w3 hown3 hc3 hb3
                   have HO3 := Lib.hid hown3
                   have HC3 := Lib.hid hc3
                   clear hown3 hc3 hb3))
              all_goals
                go_wp2_with fail
                exact ⟨⟨j + 1, by omega, by go_num, ⟨insK kk a xe.data.toList, HKI.out, by rw [HIL.out]; omega, by rw [HIL.out, HIM.out]; exact own_base HO3.out hszW, fun e => absurd (congrArg List.length e) (by rw [HIL.out]; simp)⟩, (HP2.out.nw : Ch (fun _ => False) w W2).trans' HC3.out⟩, by simp [intOf]; omega⟩
            · have haq : a ≤ q3 := by have := own_cap HP2.out.own; omega
              have haqI : (a : Int) ≤ (q3 : Int) := by omega
              have hszW : w.heap.size ≤ W2.heap.size := HP2.out.nw.size
              have hbx : bx < W2.heap.size := block_lt_of_cell b0
              obtain ⟨xe, hxe, hxd⟩ := enc_form xk.data.toList
              obtain rfl : xe = xk := key_inj hxd
              have HKI := Lib.hid (show KeysR (L.take (j + 1)) (insK kk a xe.data.toList) from by
                rw [HTK.out]
                refine ⟨ins_rise HKR.out.1 HPRE.out HGT.out, fun k' => ?_⟩
                rw [ins_mem, HKR.out.2]
                constructor
                · rintro (⟨w, hw, e⟩ | e)
                  · exact ⟨w, List.mem_append_left _ hw, e⟩
                  · exact ⟨⟨xe, xv, xh, xt⟩, by simp, e.symm⟩
                · rintro ⟨w, hw, e⟩
                  rcases List.mem_append.1 hw with hw | hw
                  · exact .inl ⟨w, hw, e⟩
                  · simp at hw
                    subst hw
                    exact .inr e.symm)
              have hIL : (insK kk a xe.data.toList).length = a + 1 := by rw [ins_len _ _ _ (by have := HNN.out; omega), HNN.out]
              have hIM : (insK kk a xe.data.toList).map encStr = ([] ++ (kk.map encStr).take a ++ [.string xe]) ++ [] := by
                have hdr : (kk.map encStr).drop a = [] := List.drop_of_length_le (by rw [List.length_map]; have := HNN.out; omega)
                unfold insK
                rw [List.map_append, List.map_append, List.map_take, List.map_drop, List.map_cons, List.map_nil, hxe, List.nil_append, hdr]
              have HIL := Lib.hid hIL
              have HIM := Lib.hid hIM
              have hnnb : a ≤ 1000000 := by omega
              have bA : (W2.alloc (.cells #[] 9)).cell? ⟨bx, 0, none⟩ = some (.string xe) := by rw [World.cell?_alloc_lt _ _ _ hbx]; exact b0
              have RDT := Lib.hid ((own_reads_take HP2.out.own (Nat.le_refl _)))
              have RDD := Lib.hid ((reads_zero (A := none) rfl rfl : Reads W2 W2.heap.size 1 none 0 []))
              have HC0 := Lib.hid (Ch.refl (fun _ => False) W2)
              have HCE := Lib.hid (fun u (hu : u ∈ kk.map encStr) => enc_one kk u hu)
              clear hxe hxd hIL hIM
              go_region_law (first
                | (refine step_ins (W2 := W2) (by repeat (first | with_reducible exact HC0.out | with_reducible exact Ch.refl _ _ | with_reducible refine Ch.drew ?_ | with_reducible refine Ch.alloc ?_ _)) rfl (.tmp 44) (.tmp 47) rfl i0 Try.underlying44 hi0 hz0 hz1 hz2 (.slice (some ⟨_, 0, none⟩) 0 0) 0 [] rfl
                     (own_empty (by repeat (first | with_reducible exact Blk.new _ _ _ | exact Blk.new2 _ _ _ (by simp) | with_reducible refine Blk.drew ?_ | with_reducible refine Blk.alloc ?_ _)) (by simp)) W2.heap.size (some ⟨gk, 0, none⟩) a _ ((kk.map encStr).take a) rfl
                     (RDT.out.ch0 (by repeat (first | with_reducible exact HC0.out | with_reducible exact Ch.refl _ _ | with_reducible refine Ch.drew ?_ | with_reducible refine Ch.alloc ?_ _))) (fun u hu => HCE.out u (List.mem_of_mem_take hu)) a (by omega) (by omega) ?_
                   intro v1 w1 hown1 hc1 hb1
                   have b1 : w1.cell? ⟨bx, 0, none⟩ = some (.string xe) := cell_ch0 hc1 b0
                   have HO1 := Lib.hid hown1
                   have HC1 := Lib.hid hc1
                   have HB1 := Lib.hid hb1
                   clear hown1 hc1 hb1)
                | (refine step_ins (W2 := W2) (by repeat (first | with_reducible exact HC1.out | with_reducible exact Ch.refl _ _ | with_reducible refine Ch.drew ?_ | with_reducible refine Ch.alloc ?_ _)) rfl (.tmp 48) (.tmp 51) rfl i0 Try.underlying44 hi0 hz0 hz1 hz2 v1 a ([] ++ (kk.map encStr).take a) rfl
                     (own_ch HO1.out (by repeat (first | with_reducible exact HC0.out | with_reducible exact Ch.refl _ _ | with_reducible refine Ch.drew ?_ | with_reducible refine Ch.alloc ?_ _)) (fun _ _ h => h)) _ (some ⟨_, 0, none⟩) 1 _ [.string xe] rfl
                     (reads_blk (by repeat (first | with_reducible exact Blk.new _ _ _ | exact Blk.new2 _ _ _ (by simp) | with_reducible refine Blk.drew ?_ | with_reducible refine HB1.out _ _ _ ?_ (by simp [Value.ownBlock]) | with_reducible refine Blk.alloc ?_ _))) (by intro u hu; simp at hu; subst hu; rfl) (a + 1) (by omega) (by omega) ?_
                   intro v2 w2 hown2 hc2 hb2
                   have HO2 := Lib.hid hown2
                   have HC2 := Lib.hid hc2
                   clear hown2 hc2 hb2)
                | (refine step_ins (W2 := W2) (by repeat (first | with_reducible exact HC2.out | with_reducible exact Ch.refl _ _ | with_reducible refine Ch.drew ?_ | with_reducible refine Ch.alloc ?_ _)) rfl (.tmp 52) (.tmp 55) rfl i0 Try.underlying44 hi0 hz0 hz1 hz2 v2 (a + 1) ([] ++ (kk.map encStr).take a ++ [.string xe]) rfl
                     (own_ch HO2.out (by repeat (first | with_reducible exact HC0.out | with_reducible exact Ch.refl _ _ | with_reducible refine Ch.drew ?_ | with_reducible refine Ch.alloc ?_ _)) (fun _ _ h => h)) W2.heap.size _ 0 _ [] rfl
                     (reads_zero rfl rfl : Reads _ W2.heap.size 1 _ 0 []) /-  (by repeat (first | with_reducible exact HC2.out | with_reducible exact Ch.refl _ _ | with_reducible refine Ch.drew ?_ | with_reducible refine Ch.alloc ?_ _))) -/ (by intro u hu; cases hu) (a + 1) (by omega) (by omega) ?_
                   intro v3 w3 hown3 hc3 hb3
                   have HO3 := Lib.hid hown3
                   have HC3 := Lib.hid hc3
                   clear hown3 hc3 hb3))
              all_goals
                go_wp2_with fail
                exact ⟨⟨j + 1, by omega, by go_num, ⟨insK kk a xe.data.toList, HKI.out, by rw [HIL.out]; omega, by rw [HIL.out, HIM.out]; exact own_base HO3.out hszW, fun e => absurd (congrArg List.length e) (by rw [HIL.out]; simp)⟩, (HP2.out.nw : Ch (fun _ => False) w W2).trans' HC3.out⟩, by simp [intOf]; omega⟩
    · obtain rfl : j = L.length := by omega
      rw [List.take_length] at hkr
      have HF := Lib.hid (show ∃ (A : Option Addr) (c : Nat) (kk' : List (List UInt8)), KeysR L kk' ∧ kk'.length ≤ L.length ∧ (.returned (.slice A3 kk.length q3) : Ending) = .returned (.slice A kk'.length c) ∧ wr.ownsRow w.heap.size 9 1 (.slice A kk'.length c) kk'.length (kk'.map encStr) ∧ NewW w wr from
        ⟨A3, q3, kk, hkr, hkn, rfl, hout, hC⟩)
      clear hkr hout hC hlt hj c0
      go_wp2_with fail
      go_ret
      exact HF.out
end
end Go.Proofs.Ytfcdplfnhjbdnaa
