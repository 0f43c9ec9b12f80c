/- Trim's contract. -/
import Derived.Test.YtfcdplfnhjbdnaaTm
import Derived.Deep.RegionHeld3
import Derived.Deep.DeepCutAuto
namespace Go.Proofs.Ytfcdplfnhjbdnaa
open Go.RowKit Go.Maps
set_option linter.unusedVariables false

def trimE (s : CS) (m : Int) : Int := if m < 0 ∨ maxClock < m then 1 else if m < s.floor then 5 else 0
def trimS (s : CS) (m : Int) : CS := { f := fun k => (s.f k).drop (goneN (s.f k) m), last := s.last, floor := m }
def trimF (s : CS) (m : Int) (ks : List (List UInt8)) : CS := { f := fun k => if k ∈ ks then (s.f k).drop (goneN (s.f k) m) else s.f k, last := s.last, floor := m }
def trimN (s : CS) (m : Int) (ks : List (List UInt8)) : Nat := (ks.map fun k => goneN (s.f k) m).sum
theorem trimN_le (s : CS) (m : Int) (hl : ∀ k, (s.f k).length ≤ 1000000) : ∀ ks, trimN s m ks ≤ ks.length * 1000000
  | [] => by simp [trimN]
  | k :: r => by
    have h1 := trimN_le s m hl r
    have h2 := goneN_le (s.f k) m
    have h3 := hl k
    unfold trimN at h1 ⊢
    rw [List.map_cons, List.sum_cons, List.length_cons, Nat.add_mul]
    omega
theorem trimN_next (s : CS) (m : Int) (ks : List (List UInt8)) {j : Nat} {k : List UInt8} (h : ks[j]? = some k) : trimN s m (ks.take (j + 1)) = trimN s m (ks.take j) + goneN (s.f k) m := by
  unfold trimN
  rw [List.take_add_one, h, Option.toList_some, List.map_append, List.sum_append]
  simp
theorem not_mem_take {ks : List (List UInt8)} (hp : ks.Pairwise (· < ·)) {j : Nat} {k : List UInt8} (h : ks[j]? = some k) : k ∉ ks.take j := by
  intro hm
  obtain ⟨i, hi⟩ := List.getElem?_of_mem hm
  have hil := lt_of_some hi
  rw [List.length_take] at hil
  rw [List.getElem?_take_of_lt (by omega)] at hi
  have hjl := lt_of_some h
  have hil2 := lt_of_some hi
  have := List.pairwise_iff_getElem.1 hp i j hil2 hjl (by omega)
  rw [List.getElem?_eq_getElem hil2] at hi
  rw [List.getElem?_eq_getElem hjl] at h
  injection hi with hi
  injection h with h
  rw [hi, h] at this
  exact List.lt_irrefl k this
theorem trimF_at (s : CS) (m : Int) {ks : List (List UInt8)} (hp : ks.Pairwise (· < ·)) {j : Nat} {k : List UInt8} (h : ks[j]? = some k) : (trimF s m (ks.take j)).f k = s.f k := by
  unfold trimF
  exact if_neg (not_mem_take hp h)
theorem trimF_next (s : CS) (m : Int) {ks : List (List UInt8)} {j : Nat} {k : List UInt8} (h : ks[j]? = some k) : ({ trimF s m (ks.take j) with f := updF (trimF s m (ks.take j)).f k ((s.f k).drop (goneN (s.f k) m)) } : CS) = trimF s m (ks.take (j + 1)) := by
  unfold trimF
  rw [CS.mk.injEq]
  refine ⟨funext fun i => ?_, rfl, rfl⟩
  rw [List.take_add_one, h, Option.toList_some]
  unfold updF
  by_cases e : i = k
  · subst e; simp
  · simp [e]
theorem trimF_all (s : CS) (m : Int) {ks : List (List UInt8)} (h : KeysIn s ks) : trimF s m (ks.take ks.length) = trimS s m := by
  unfold trimF trimS
  rw [CS.mk.injEq, List.take_length]
  refine ⟨funext fun i => ?_, rfl, rfl⟩
  by_cases e : i ∈ ks
  · rw [if_pos e]
  · rw [if_neg e]
    have : s.f i = [] := Classical.byContradiction fun hne => e ((h.2 i).2 hne)
    rw [this]; simp
theorem good_trim {s : CS} (h : Good s) {m : Int} (h0 : 0 ≤ m) (h1 : m ≤ maxClock) : Good (trimS s m) :=
  ⟨fun k => (h.rise k).sublist (List.drop_sublist _ _), fun k v hv => h.ver k v (List.mem_of_mem_drop hv), h.l0, h.l1, h0, h1⟩
section
variable {w : World} {B cb mb n : Nat} {D : DataW Value} {V : List UInt8 → Value} {s : CS}
set_option maxRecDepth 100000 in
theorem trim_bad (h : CM w B cb mb n D V s) (m : Int) (hne : trimE s m ≠ 0) :
    Calls Try.prog 22 #[.pointer (some ⟨cb, 0, none⟩), .int .i64 m] w fun e w' => e = .returned (.tuple #[.int .i64 0, .int .i64 (trimE s m)]) ∧ w = w' := by
  have hmo := Lib.hid (moment_any m w)
  have c2 := h.c2
  by_cases h1 : m < 0 ∨ maxClock < m
  · have e1 : trimE s m = 1 := by unfold trimE; rw [if_pos h1]
    rw [e1]
    have d3 : (decide (0 ≤ m) && decide (m ≤ 1099511627776)) = false := by
      unfold maxClock at h1
      by_cases h3 : 0 ≤ m
      · rw [decide_eq_false (show ¬ m ≤ 1099511627776 by omega), Bool.and_false]
      · rw [decide_eq_false h3, Bool.false_and]
    rw [d3] at hmo
    clear h e1 h1 d3 hne
    generalize s.floor = F at *
    go_enter Try.func22, Try.ntmps22
    go_wp2_with (go_at_call 29; refine hmo.out.mono ?_; rintro e w2 ⟨rfl, rfl⟩)
    go_ret2
    exact ⟨rfl, rfl⟩
  · have d3 : (decide (0 ≤ m) && decide (m ≤ 1099511627776)) = true := by
      unfold maxClock at h1
      rw [decide_eq_true (show 0 ≤ m by omega), decide_eq_true (show m ≤ 1099511627776 by omega)]; rfl
    rw [d3] at hmo
    by_cases h2 : m < s.floor
    · have e1 : trimE s m = 5 := by unfold trimE; rw [if_neg h1, if_pos h2]
      rw [e1]
      have d4 : decide (m < s.floor) = true := by simpa using h2
      clear h e1 h1 h2 d3 hne
      generalize s.floor = F at *
      go_enter Try.func22, Try.ntmps22
      go_wp2_with (go_at_call 29; refine hmo.out.mono ?_; rintro e w2 ⟨rfl, rfl⟩)
      go_ret2
      exact ⟨rfl, rfl⟩
    · exact absurd (by unfold trimE; rw [if_neg h1, if_neg h2]) hne
set_option maxRecDepth 100000 in
set_option maxHeartbeats 8000000 in
theorem trim_ok (h : CM w B cb mb n D V s) (hB : B ≤ w.heap.size) (hn : n ≤ 1000000) (hg : Good s) (hl : ∀ k, (s.f k).length ≤ 1000000) (m : Int) (h0 : trimE s m = 0) :
    Calls Try.prog 22 #[.pointer (some ⟨cb, 0, none⟩), .int .i64 m] w fun e w' => ∃ ks, KeysIn s ks ∧ e = .returned (.tuple #[.int .i64 (trimN s m ks : Nat), .int .i64 0]) ∧ CP B cb mb n V (trimS s m) w w' := by
  have hmo := Lib.hid (moment_any m w)
  obtain ⟨h1, h2⟩ : ¬ (m < 0 ∨ maxClock < m) ∧ ¬ m < s.floor := by
    unfold trimE at h0
    split at h0
    · omega
    split at h0
    · omega
    · rename_i a b; exact ⟨a, b⟩
  have d3 : (decide (0 ≤ m) && decide (m ≤ 1099511627776)) = true := by
    unfold maxClock at h1
    rw [decide_eq_true (show 0 ≤ m by omega), decide_eq_true (show m ≤ 1099511627776 by omega)]; rfl
  rw [d3] at hmo
  have d4 : decide (m < s.floor) = false := by simpa using h2
  have c2 := h.c2
  have f2 := h.blk.frozen 2
  have hcc : Ch (fun g => g = cb) w (w.setCell ⟨cb, 2, none⟩ (.int .i64 m)) := (Ch.refl (fun g => g = cb) w).setCell (p := ⟨cb, 2, none⟩) (.inl rfl) _
  have hM0 : CM (w.setCell ⟨cb, 2, none⟩ (.int .i64 m)) B cb mb n D V (trimF s m []) := by
    refine ⟨?_, map_ch h.map hcc h.ne, h.at_, fun k => ?_, h.has, h.apart, h.cB, h.mB⟩
    · have := h.blk.set_ 2 (.int .i64 m)
      rwa [show (#[.map (some mb), .int .i64 s.last, .int .i64 s.floor] : Array Value).setIfInBounds 2 (.int .i64 m) = #[.map (some mb), .int .i64 s.last, .int .i64 m] by simp] at this
    · have := own_ch (h.row k) hcc (fun g hg e => (h.row_ne k).1 (e ▸ hg))
      simpa [trimF] using this
  have HS := Lib.hid (sorted_any hM0 hn)
  have HM := Lib.hid hM0
  have HCC := Lib.hid hcc
  have hszD := h.size_le
  have hks0 : ∀ ks, KeysIn (trimF s m []) ks ↔ KeysIn s ks := fun ks => by unfold KeysIn trimF; simp
  have HK0 := Lib.hid hks0
  have hB0 : B ≤ (w.setCell ⟨cb, 2, none⟩ (.int .i64 m)).heap.size := Nat.le_trans hB hcc.size
  clear h h0 h1 h2 d3 hM0 hcc hks0
  generalize s.floor = F at *
  go_enter Try.func22, Try.ntmps22
  go_wp2_with (go_at_call 29; refine hmo.out.mono ?_; rintro e w2 ⟨rfl, rfl⟩)
  generalize w.setCell ⟨cb, 2, none⟩ (.int .i64 m) = w0 at *
  refine HS.out.mono ?_
  rintro e w1 ⟨A, c, ks, rfl, hrow, hkeys, hlen, hkl, hN1⟩
  dsimp only
  have HR1 := Lib.hid hrow
  have HKS := Lib.hid ((HK0.out ks).1 hkeys)
  have HKL := Lib.hid hkl
  have HN1 := Lib.hid hN1
  have hB1 : B ≤ w1.heap.size := Nat.le_trans hB0 hN1.size
  clear hrow hkeys hkl hN1 HS hmo c2 f2 d4
  go_wp2_with fail
  go_loopw [6, 33] (fun nn i w' => ∃ (j : Nat) (D' : DataW Value) (V' : List UInt8 → Value), j ≤ ks.length ∧ i = .int .i64 j ∧ nn = .int .i64 (trimN s m (ks.take j) : Nat) ∧ CM w' B cb mb n D' V' (trimF s m (ks.take j)) ∧ Ch (fun g => g = mb) w1 w' ∧
    ∀ k g, (V' k).ownBlock = some g → (∃ k', (V k').ownBlock = some g) ∨ w1.heap.size ≤ g) (fun _ i _ => ks.length - (intOf i).toNat)
  case atStart => exact ⟨0, D, V, by omega, rfl, rfl, HM.out.new_ HN1.out, Ch.refl _ _, fun k g hg => .inl ⟨k, hg⟩⟩
  case round =>
    obtain ⟨j, D', V', hj, rfl, rfl, hM, hC, hV⟩ := hrel
    have hmb1 : (Value.slice A ks.length c).ownBlock ≠ some mb := map_row (HM.out.new_ HN1.out).map HR1.out
    have hrow := own_ch HR1.out hC (fun g hg e => hmb1 (e ▸ hg))
    by_cases hlt : j < ks.length
    · obtain ⟨k, hk⟩ := some_of_lt hlt
      obtain ⟨kb, hkb⟩ : ∃ kb : ByteArray, kb = ⟨k.toArray⟩ := ⟨_, rfl⟩
      have hkd : kb.data.toList = k := by rw [hkb]
      have hkm : kb.size ≤ maxLen := by
        have := HKL.out k (mem_of_some hk)
        rw [hkb]; simpa [ByteArray.size] using this
      obtain ⟨gk, qk, hvk, _, _⟩ := hrow.form (by omega)
      injection hvk with hvk _ hqk
      subst hvk hqk
      have hck := hrow.cells (g := gk) rfl j (.string kb) (by rw [List.getElem?_map, hk, hkb]; rfl)
      rw [add_mk, Nat.zero_add] at hck
      have hkey := WideMaps.keyOf_string_mk Try.underlying9 hkm
      have hlk := hM.look hkm
      rw [hkd] at hlk hkey
      have hfk := trimF_at s m HKS.out.1 hk
      have hrk := hM.row k
      rw [hfk] at hrk
      obtain ⟨A2, q2, hv2⟩ := own_form hrk
      rw [hv2] at hlk hrk
      have HG := Lib.hid (gone_any A2 q2 (s.f k) m wr (own_rdv hrk) (hg.rise k) (hl k))
      have hgl := goneN_le (s.f k) m
      have HTN := Lib.hid (trimN_next s m ks hk)
      have HTF := Lib.hid (trimF_next s m hk)
      have hsum := trimN_le s m hl (ks.take j)
      rw [List.length_take] at hsum
      have hsum2 : trimN s m (ks.take j) ≤ 1000000000000 := by
        have : min j ks.length * 1000000 ≤ 1000000 * 1000000 := Nat.mul_le_mul_right _ (by omega)
        omega
      have c0 := hM.c0
      have hHk := (hM.has k).2 (by rw [hfk]; exact (HKS.out.2 k).1 (mem_of_some hk))
      have HMM := Lib.hid hM
      have HCC2 := Lib.hid hC
      have HVV := Lib.hid hV
      have HRK := Lib.hid hrk
      have HFK := Lib.hid hfk
      have hlk' := hl k
      have hne : s.f k ≠ [] := (HKS.out.2 k).1 (mem_of_some hk)
      have hNpos : 0 < (s.f k).length := by cases h : s.f k; exact absurd h hne; simp
      have hcap := own_cap hrk
      clear hM hC hV hrow hmb1 hk hkb hkd hkm hv2 hrk hsum hfk
      generalize trimN s m (ks.take j) = SN at *
      generalize hgg : goneN (s.f k) m = gg at *
      clear hgg
      generalize hff : s.f k = fk at *
      generalize hNN : fk.length = NN at *
      go_wp2_with fail
      refine HG.out.mono ?_
      rintro e w2 ⟨rfl, hN2⟩
      dsimp only
      have hM2 := HMM.out.new_ hN2
      have c02 := hM2.c0
      have hB2 : B ≤ w2.heap.size := Nat.le_trans hB1 (Nat.le_trans HCC2.out.size hN2.size)
      by_cases hgN : gg = NN
      · subst hgN
        have hmap2 := hM2.map
        have HM2 := Lib.hid hM2
        have HN2 := Lib.hid hN2
        clear hM2 hN2 HG
        go_wp2_with (first
          | (at_delete
             refine wpList_delete_own _ rfl (.tmp 56) (.tmp 57) 61 9 rfl 56 keyed9 Try.underlying61 RH mb n D' rfl hmap2 (.string kb) (.string k) rfl hkey ?_
             intro w8 hown8 ht8
             have HO8 := Lib.hid hown8
             have HT8 := Lib.hid ht8
             clear hown8 ht8))
        obtain ⟨x1, x2⟩ := trim_del HM2.out k HO8.out HT8.out.grown
        refine ⟨⟨j + 1, D'.del (.string k), fun i => if i = k then nilS else V' i, by omega, by go_num, by rw [HTN.out]; go_num, ?_, (HCC2.out.trans' (HN2.out.mono fun _ h => h.elim)).trans' x2, fun k' g hg' => ?_⟩, by simp [intOf]; omega⟩
        · rw [← HTF.out, ← hNN, List.drop_length]
          exact x1
        · dsimp only at hg'
          by_cases e : k' = k
          · rw [if_pos e] at hg'; simp [nilS, Value.ownBlock] at hg'
          · rw [if_neg e] at hg'; exact HVV.out k' g hg'
      · have hglt : gg < NN := by omega
        obtain ⟨g2, qq, hv3, _, _⟩ := HRK.out.form hNpos
        injection hv3 with hv3 _ hqq
        subst hv3 hqq
        have hdl : (fk.drop gg).length = NN - gg := by rw [List.length_drop, hNN]
        have hcl := clone_some g2 (gg * 3) (q2 - gg) (fk.drop gg) w2.drew (by omega) (fun i v hv => by
          rw [List.getElem?_drop] at hv
          have hr2 := own_ch HRK.out (hN2 : Ch (fun _ => False) wr w2) (fun _ _ h => h)
          rw [← hNN] at hr2
          obtain ⟨g', off', hA, a0, a1, a2⟩ := (own_rdv hr2).at_ hv
          injection hA with hA
          injection hA with hA1 hA2
          subst hA1 hA2
          rw [show gg * 3 + i * 3 = 0 + (gg + i) * 3 by omega]
          exact ⟨a0, a1, a2⟩)
        rw [hdl] at hcl
        have HCL := Lib.hid hcl
        have hne6 : fk.drop gg ≠ [] := fun e => by rw [e] at hdl; simp at hdl; omega
        have HM2 := Lib.hid hM2
        have HN2 := Lib.hid hN2
        have HNE := Lib.hid hne6
        have HDL := Lib.hid hdl
        have hg0 : (0 : Int) ≤ (gg : Int) := by omega
        have hgI : (gg : Int) ≤ (NN : Int) := by omega
        have hcI : (NN : Int) ≤ (q2 : Int) := by omega
        have hqg : ¬ q2 = gg := by omega
        have hgNb : ((gg : Int) == (NN : Int)) = false := by simp; omega
        clear hcl hne6 hdl hM2 hN2 HG
        go_wp2_with fail
        go_region_held3 (fun w' => w'.cell? ⟨cb, 0, none⟩ = some (.map (some mb))) (first | exact c02 | exact c06 | exact c08)
          (first
            | (go_at_call 28; refine HCL.out.mono ?_; rintro e w6 ⟨v6, rfl, ho6, hb6⟩
               have hN6 : NewW w2 w6 := ((Ch.refl (fun _ => False) w2).drew).trans' (Ch.of_below hb6 (fun k hk _ => hk))
               have hM6 := HM2.out.new_ hN6
               have c06 := hM6.c0
               obtain ⟨w8, hrun8, hown8, hg8⟩ := hM6.map.update keyed9 Try.underlying61 (by unfold maxLen; omega) hkey (val := v6) (d := .held v6) (ps := []) rfl
               have c08 : w8.cell? ⟨cb, 0, none⟩ = some (.map (some mb)) := (by rw [(hM6.blk.grown hg8 (fun e => by injection e with e; exact hM6.ne e.symm)).cell]; rfl)))
        obtain ⟨x1, x2, x3⟩ := trim_put HM2.out k hN6 (l6 := fk.drop gg) (by rw [HDL.out]; exact ho6) HNE.out hown8 hg8 hB2 (by rw [HFK.out]; exact hne) HM2.out.size_le
        have X1 := Lib.hid x1
        have X2 := Lib.hid x2
        have X3 := Lib.hid x3
        clear HCL ho6 hb6 hN6 hM6 c06 hrun8 hown8 hg8 c08 x1 x2 x3
        go_wp2_with fail
        refine ⟨⟨j + 1, D'.put (.string k) (.held v6), fun i => if i = k then v6 else V' i, by omega, by go_num, by rw [HTN.out]; go_num, ?_, (HCC2.out.trans' (HN2.out.mono fun _ h => h.elim)).trans' X2.out, fun k' g hg' => ?_⟩, by simp [intOf]; omega⟩
        · rw [← HTF.out]
          exact X1.out
        · dsimp only at hg'
          by_cases e : k' = k
          · rw [if_pos e] at hg'
            have := X3.out g hg'
            exact .inr (Nat.le_trans (Nat.le_trans HCC2.out.size HN2.out.size) this)
          · rw [if_neg e] at hg'; exact HVV.out k' g hg'
    · obtain rfl : j = ks.length := by omega
      have HF := Lib.hid (show CP B cb mb n V (trimS s m) w wr from ⟨D', V', by rw [trimF_all s m HKS.out] at hM; exact hM,
        (((HCC.out.mono fun g hg => .inl hg).trans' (HN1.out.mono fun _ h => h.elim)).trans' (hC.mono fun g hg => .inr (.inl hg))), fun k g hg => by
          rcases hV k g hg with h | h
          · exact .inl h
          · exact .inr (Nat.le_trans (Nat.le_trans HCC.out.size HN1.out.size) h)⟩)
      rw [List.take_length]
      clear hM hC hV hrow hmb1 hlt hj
      go_wp2_with fail
      go_ret2
      exact ⟨ks, HKS.out, rfl, HF.out⟩
end
end Go.Proofs.Ytfcdplfnhjbdnaa
