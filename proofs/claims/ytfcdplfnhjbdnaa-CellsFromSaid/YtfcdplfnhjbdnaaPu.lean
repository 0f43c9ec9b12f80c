/- Put: a version is laid behind a key's row, or in the last one's place. -/
import Derived.Test.YtfcdplfnhjbdnaaCe
import Derived.Deep.RegionLaw
import Derived.Deep.DeepCutAuto
namespace Go.Proofs.Ytfcdplfnhjbdnaa
open Go.RowKit Go.Maps
set_option linter.unusedVariables false

theorem ver_info : (Try.prog.info? 66).map (fun i => (i.zero, i.size, i.bytes)) = some (some (.agg #[.int .i64 0, .string ⟨#[]⟩, .bool false]), 3, 32) := by kernel_rfl
theorem info_parts {t : TypeId} {z : Option Value} {a b : Nat} (h : (Try.prog.info? t).map (fun i => (i.zero, i.size, i.bytes)) = some (z, a, b)) : ∃ i, Try.prog.info? t = some i ∧ i.zero = z ∧ i.size = a ∧ i.bytes = b := by
  obtain ⟨i, h1, h2⟩ := Option.map_eq_some_iff.1 h
  injection h2 with h2 h3
  injection h3 with h3 h4
  exact ⟨i, h1, h2, h3, h4⟩
theorem step_mapUpdate_own {H : Type} {P : Program} (w : World) {ops : Array Oper} {o : Oper} {a : Act} {K : Act → World → Prop} {Q : Exit → Act → World → Prop} {E : Prop}
    (hg : o.guard = none) (m x v : Operand) (t : TypeId) (hop : o.op = Op.mapUpdate t m x v)
    (k e : TypeId) (KK : Keyed P k) (ht : P.underlying t = some (.map k e)) (R : Value → Option (DataW H × List MemPlace)) (b n : Nat) (D : DataW H)
    (hm : a.eval m = .map (some b)) (hown : w.ownsMap P k R b n D) (hn : n < maxLen) (key val : Value) (kl : Lit) (hx : a.eval x = key) (hv : a.eval v = val) (hkey : keyOf P k key = some kl)
    (d : DataW H) (ps : List MemPlace) (hval : R val = some (d, ps))
    (hK : ∀ w', w'.ownsMap P k R b (n + 1) (D.put kl d) → w.grownBy w' (some b) → K (a.put o.dst undef) w') :
    if Region.wanted o (yielded ops a.tmps) = true then Oper.wp P o a w K Q else E := by
  have hw : Region.wanted o (yielded ops a.tmps) = true := by simp [Region.wanted, hg]
  rw [if_pos hw]
  obtain ⟨w', hrun, r1, r2⟩ := hown.update KK ht hn hkey hval
  unfold Oper.wp
  simp [execOp, hop, hm, hx, hv, hrun, Result.andThen]
  exact hK w' r1 r2
section
variable {w w7 w8 : World} {B cb mb n : Nat} {D : DataW Value} {V : List UInt8 → Value} {s : CS}
theorem CM.row_ne (h : CM w B cb mb n D V s) (k : List UInt8) : (V k).ownBlock ≠ some cb ∧ (V k).ownBlock ≠ some mb := ⟨own_blk_ne (h.row k) h.blk (by decide), map_row h.map (h.row k)⟩
/-- Behind an append to a key's row. -/
theorem CM.mid (h : CM w B cb mb n D V s) {k : List UInt8} {u : Value} (hub : u.ownBlock = (V k).ownBlock) {o : Obj} (hg7 : (w.drew.alloc o).grownBy w7 u.ownBlock) :
    Ch (fun g => u.ownBlock = some g) w w7 ∧ w7.ownsMap Try.prog 9 RH mb n D ∧ Blk w7 cb 63 #[.map (some mb), .int .i64 s.last, .int .i64 s.floor] := by
  obtain ⟨r1, r2⟩ := h.row_ne k
  have hc : Ch (fun g => u.ownBlock = some g) w w7 := (((Ch.refl _ w).drew).alloc o).grown hg7 (fun g hg => .inl hg)
  exact ⟨hc, map_ch h.map hc (by rw [hub]; exact r2), h.blk.ch hc (by rw [hub]; exact r1)⟩
theorem put_fin (h : CM w B cb mb n D V s) {k : List UInt8} {u : Value} (hub : u.ownBlock = (V k).ownBlock) {o : Obj} (hg7 : (w.drew.alloc o).grownBy w7 u.ownBlock) {v7 : Value} {l7 : List Ver} (ho7 : w7.ownsRow B 66 3 v7 l7.length (flatV l7))
    (hat : v7.ownBlock = u.ownBlock ∨ v7.ownBlock = some (w.drew.alloc o).heap.size) (hm8 : w8.ownsMap Try.prog 9 RH mb (n + 1) (D.put (.string k) (.held v7))) (hg8 : w7.grownBy w8 (some mb)) (hne : l7 ≠ []) (m : Int) :
    CP B cb mb (n + 1) V { s with f := updF s.f k l7, last := m } w (w8.setCell ⟨cb, 1, none⟩ (.int .i64 m)) := by
  obtain ⟨c7, m7, b7⟩ := h.mid hub hg7
  have c8 : Ch (fun g => g = mb) w7 w8 := (Ch.of_grown hg8).mono fun g hg => by injection hg with hg; exact hg.symm
  have c9 : Ch (fun g => g = cb) w8 (w8.setCell ⟨cb, 1, none⟩ (.int .i64 m)) := (Ch.refl (fun g => g = cb) w8).setCell (p := ⟨cb, 1, none⟩) (.inl rfl) _
  have hcm := h.ne
  have b8 := b7.ch c8 (fun e => hcm e.symm)
  have hcb7 : v7.ownBlock ≠ some cb := own_blk_ne ho7 b7 (by decide)
  have hmb7 : v7.ownBlock ≠ some mb := map_row m7 ho7
  have hsz : w.heap.size ≤ (w.drew.alloc o).heap.size := by rw [World.size_alloc]; exact Nat.le_succ _
  refine ⟨D.put (.string k) (.held v7), fun j => if j = k then v7 else V j, ⟨?_, map_ch hm8 c9 hcm, fun j => ?_, fun j => ?_, fun j => ?_, fun j j' g hj => ?_, h.cB, h.mB⟩, ?_, fun j g hg => ?_⟩
  · have := b8.set_ 1 (.int .i64 m)
    rwa [show (#[.map (some mb), .int .i64 s.last, .int .i64 s.floor] : Array Value).setIfInBounds 1 (.int .i64 m) = #[.map (some mb), .int .i64 m, .int .i64 s.floor] by simp] at this
  · by_cases e : j = k
    · subst e
      rw [atKey_put_same h.isMap (by trivial), if_pos rfl]
    · rw [atKey_put_other (by intro e'; injection e' with e'; exact e e'), h.at_ j, if_neg e]
  · by_cases e : j = k
    · subst e
      simp only [if_pos, updF]
      exact own_ch (own_ch ho7 c8 (fun g hg e => hmb7 (e ▸ hg))) c9 (fun g hg e => hcb7 (e ▸ hg))
    · simp only [updF, if_neg e]
      obtain ⟨r1, r2⟩ := h.row_ne j
      exact own_ch (own_ch (own_ch (h.row j) c7 (fun g hg hu => h.apart j k g e hg (hub ▸ hu))) c8 (fun g hg e => r2 (e ▸ hg))) c9 (fun g hg e => r1 (e ▸ hg))
  · by_cases e : j = k
    · subst e
      rw [has_put_same h.isMap (by trivial)]
      simp [updF, hne]
    · rw [has_put_other (by intro e'; injection e' with e'; exact e e'), h.has j]
      simp [updF, e]
  · have new7 : ∀ j g, j ≠ k → (V j).ownBlock = some g → v7.ownBlock ≠ some g := by
      intro j g e hg hv
      rcases hat with h1 | h1
      · rw [h1, hub] at hv
        exact h.apart j k g e hg hv
      · rw [h1] at hv
        injection hv with hv
        have := (own_lt (h.row j) hg).2
        omega
    by_cases e : j = k
    · subst e
      rw [if_pos rfl, if_neg (fun e => hj e.symm)]
      intro hv hv'
      exact new7 j' g (fun e => hj e.symm) hv' hv
    · rw [if_neg e]
      by_cases e' : j' = k
      · subst e'
        rw [if_pos rfl]
        exact fun hv => new7 j g e hv
      · rw [if_neg e']
        exact h.apart j j' g hj
  · exact ((c7.mono fun g hg => .inr (.inr ⟨k, hub ▸ hg⟩)).trans' (c8.mono fun g hg => .inr (.inl hg))).trans' (c9.mono fun g hg => .inl hg)
  · dsimp only at hg
    by_cases e : j = k
    · rw [if_pos e] at hg
      rcases hat with h1 | h1
      · exact .inl ⟨k, by rw [← hub, ← h1]; exact hg⟩
      · rw [h1] at hg
        injection hg with hg
        exact .inr (by omega)
    · rw [if_neg e] at hg
      exact .inl ⟨j, hg⟩
end
theorem CP.refl {w : World} {B cb mb n : Nat} {D : DataW Value} {V : List UInt8 → Value} {s : CS} (h : CM w B cb mb n D V s) : CP B cb mb (n + 1) V s w w :=
  ⟨D, V, h.mono (Nat.le_succ n), Ch.refl _ _, fun k g hg => .inl ⟨k, hg⟩⟩
set_option maxRecDepth 100000 in
set_option maxHeartbeats 4000000 in
theorem put_bad {w : World} {B cb mb n : Nat} {D : DataW Value} {V : List UInt8 → Value} {s : CS} (h : CM w B cb mb n D V s) (key val : ByteArray) (has : Bool) (m : Int) (hbad : 16 < key.size ∨ 32 < val.size ∨ m < 0 ∨ maxClock < m) :
    Calls Try.prog 21 #[.pointer (some ⟨cb, 0, none⟩), .string key, .string val, .bool has, .int .i64 m] w fun e w' => e = .returned (.int .i64 1) ∧ w = w' := by
  have hmo := Lib.hid (moment_any m w)
  clear h
  by_cases h1 : 16 < key.size
  · have d1 : decide (16 < (key.size : Int)) = true := by simp; omega
    clear hbad
    go_enter Try.func21, Try.ntmps21
    go_wp2_with fail
    go_ret
    exact ⟨rfl, rfl⟩
  · have d1 : decide (16 < (key.size : Int)) = false := by simp; omega
    have d1' : decide (16 < key.size) = false := by simp; omega
    by_cases h2 : 32 < val.size
    · have d2 : decide (32 < (val.size : Int)) = true := by simp; omega
      clear hbad
      go_enter Try.func21, Try.ntmps21
      go_wp2_with fail
      go_ret
      exact ⟨rfl, rfl⟩
    · have d2 : decide (32 < (val.size : Int)) = false := by simp; omega
      have d2' : decide (32 < val.size) = false := by simp; omega
      have d3 : (decide (0 ≤ m) && decide (m ≤ 1099511627776)) = false := by
        unfold maxClock at hbad
        by_cases h3 : 0 ≤ m
        · rw [decide_eq_false (show ¬ m ≤ 1099511627776 by omega), Bool.and_false]
        · rw [decide_eq_false h3, Bool.false_and]
      rw [d3] at hmo
      clear hbad d3
      go_enter Try.func21, Try.ntmps21
      go_wp2_with (go_at_call 29; refine hmo.out.mono ?_; rintro e w2 ⟨rfl, rfl⟩)
      go_ret
      exact ⟨rfl, rfl⟩
set_option maxRecDepth 100000 in
set_option maxHeartbeats 4000000 in
theorem put_late {w : World} {B cb mb n : Nat} {D : DataW Value} {V : List UInt8 → Value} {s : CS} (h : CM w B cb mb n D V s) (key val : ByteArray) (has : Bool) (m : Int) (h1 : key.size ≤ 16) (h2 : val.size ≤ 32) (h3 : 0 ≤ m) (h4 : m ≤ maxClock) (hbad : m < s.last ∨ m ≤ s.floor) :
    Calls Try.prog 21 #[.pointer (some ⟨cb, 0, none⟩), .string key, .string val, .bool has, .int .i64 m] w fun e w' => e = .returned (.int .i64 5) ∧ w = w' := by
  have hmo := Lib.hid (moment_any m w)
  unfold maxClock at h4
  have d1 : decide (16 < (key.size : Int)) = false := by simp; omega
  have d1' : decide (16 < key.size) = false := by simp; omega
  have d2 : decide (32 < (val.size : Int)) = false := by simp; omega
  have d2' : decide (32 < val.size) = false := by simp; omega
  rw [decide_eq_true h3, decide_eq_true h4, Bool.true_and] at hmo
  have c1 := h.c1
  have c2 := h.c2
  clear h h1 h2
  generalize s.last = L at *
  generalize s.floor = F at *
  by_cases h5 : m < L
  · have d5 : decide (m < L) = true := by simpa using h5
    clear hbad
    go_enter Try.func21, Try.ntmps21
    go_wp2_with (go_at_call 29; refine hmo.out.mono ?_; rintro e w2 ⟨rfl, rfl⟩)
    go_ret
    exact ⟨rfl, rfl⟩
  · have d5 : decide (m < L) = false := by simpa using h5
    have d6 : decide (m ≤ F) = true := by simp; omega
    clear hbad
    go_enter Try.func21, Try.ntmps21
    go_wp2_with (go_at_call 29; refine hmo.out.mono ?_; rintro e w2 ⟨rfl, rfl⟩)
    go_ret
    exact ⟨rfl, rfl⟩
theorem own_cap {w : World} {B n c size : Nat} {e : TypeId} {A : Option Addr} {xs : List Value} (h : w.ownsRow B e size (.slice A n c) n xs) : n ≤ c := by
  rcases h.2 with ⟨h0, h1⟩ | ⟨g, cap, cur, hv, hg, hh, hnc, _⟩
  · omega
  · injection hv with _ _ hq
    omega
theorem cut_keep {w : World} {B : Nat} {A : Option Addr} {c : Nat} {l : List Ver} {k : Nat} (h : w.ownsRow B 66 3 (.slice A l.length c) l.length (flatV l)) (hk : l.length = k + 1) : w.ownsRow B 66 3 (.slice A k c) k (flatV l.dropLast) := by
  refine ⟨by rw [flatV_len, List.length_dropLast, hk]; rfl, ?_⟩
  rcases h.2 with ⟨h0, _⟩ | ⟨g, cap, cur, hv, hg, hh, hnc, hcm, hcs, hcur⟩
  · injection h0 with _ h0
    omega
  · injection hv with hA hn hq
    subst hA hq
    refine .inr ⟨g, c, cur, rfl, hg, hh, by omega, hcm, hcs, ?_⟩
    have : cur.toList.take (k * 3) = (cur.toList.take (l.length * 3)).take (k * 3) := by rw [List.take_take]; congr 1; omega
    rw [this, hcur, flatV_take, List.dropLast_eq_take, hk]
    rfl
set_option maxRecDepth 100000 in
set_option maxHeartbeats 8000000 in
theorem put_ok {w : World} {B cb mb n : Nat} {D : DataW Value} {V : List UInt8 → Value} {s : CS} (h : CM w B cb mb n D V s) (hB : B ≤ w.heap.size) (hn : n ≤ 1000000) (key val : ByteArray) (has : Bool) (m : Int) (h1 : key.size ≤ 16) (h2 : val.size ≤ 32) (h3 : 0 ≤ m) (h4 : m ≤ maxClock) (h5 : ¬ m < s.last) (h6 : ¬ m ≤ s.floor)
    (hl : (s.f key.data.toList).length ≤ 1000000) :
    Calls Try.prog 21 #[.pointer (some ⟨cb, 0, none⟩), .string key, .string val, .bool has, .int .i64 m] w fun e w' => e = .returned (.int .i64 0) ∧
      CP B cb mb (n + 1) V { s with f := updF s.f key.data.toList (cutAt (s.f key.data.toList) m ++ [putV val has m]), last := m } w w' := by
  have hmo := Lib.hid (moment_any m w)
  unfold maxClock at h4
  have d1 : decide (16 < (key.size : Int)) = false := by simp; omega
  have d1' : decide (16 < key.size) = false := by simp; omega
  have d2 : decide (32 < (val.size : Int)) = false := by simp; omega
  have d2' : decide (32 < val.size) = false := by simp; omega
  have d5 : decide (m < s.last) = false := by simpa using h5
  have d6 : decide (m ≤ s.floor) = false := by simpa using h6
  rw [decide_eq_true h3, decide_eq_true h4, Bool.true_and] at hmo
  obtain ⟨i1, hi1, hy0, hy1, hy2⟩ := info_parts ver_info
  have hkm : key.size ≤ maxLen := by unfold maxLen; omega
  have hkey := WideMaps.keyOf_string_mk Try.underlying9 hkm
  have hlk := h.look hkm
  obtain ⟨A, c, hv⟩ := own_form (h.row key.data.toList)
  have hrow := h.row key.data.toList
  rw [hv] at hlk hrow
  have c0 := h.c0
  have c1 := h.c1
  have c2 := h.c2
  have HH := Lib.hid h
  have HV := Lib.hid hv
  clear h hv h1 h2 h5 h6 hkm
  generalize key.data.toList = kk at *
  obtain ⟨l, hll⟩ : ∃ l, s.f kk = l := ⟨_, rfl⟩
  rw [hll] at hlk hrow HV hl ⊢
  have HLL := Lib.hid hll
  clear hll
  cases has
  · rcases Nat.eq_zero_or_pos l.length with hz | hz
    · obtain rfl : l = [] := List.eq_nil_of_length_eq_zero hz
      have hu := hrow
      have HCUT := Lib.hid (show cutAt ([] : List Ver) m = [] from rfl)
      have HLN := Lib.hid (show ([] : List Ver).length = 0 from rfl)
      simp only [List.length_nil] at hlk hu
      have HU := Lib.hid hu
      have HUB := Lib.hid (show (Value.slice A 0 c).ownBlock = (V kk).ownBlock from by rw [HV.out]; rfl)
      have hap := Lib.hid (fun (w7 w8 : World) v7 l7 hl7 ho hg hat hm8 hg8 => put_fin (w7 := w7) (w8 := w8) (v7 := v7) (l7 := l7) (o := .cells #[.int .i64 m, .string ⟨#[]⟩, .bool false] 66) HH.out HUB.out hg ho hat hm8 hg8 hl7 m)
      have c0' : (w.alloc (.cells #[.int .i64 m, .string ⟨#[]⟩, .bool false] 66)).cell? ⟨cb, 0, none⟩ = some (.map (some mb)) := (HH.out.new_ ((Ch.refl _ w).alloc _)).c0
      clear hu hrow
      go_enter Try.func21, Try.ntmps21
      go_wp2_with (go_at_call 29; refine hmo.out.mono ?_; rintro e w2 ⟨rfl, rfl⟩)
      go_region_law (first
        | (refine step_append_any _ rfl (.tmp 77) (.tmp 82) _ rfl B 66 i1 _ 3 32 Try.underlying56 hi1 hy0 hy1 hy2 rfl (by omega) (.slice A 0 c) 0 (flatV ([] : List Ver)) rfl
             (own_ch HU.out (((Ch.refl (fun _ => False) w).drew).alloc _) (fun _ _ h => h)) _ (some ⟨w.heap.size, 0, none⟩) 1 1 [.int .i64 m, .string ⟨#[]⟩, .bool false] rfl (reads_new w.drew 66 #[.int .i64 m, .string ⟨#[]⟩, .bool false] 1 3 rfl) (by simp [Value.oneCell']) (by simp only [maxLen]; omega) (by omega) (by simp; omega) ?_
           intro v7 w7 hown7 hg7 hat7
           obtain ⟨ch7, hmap7, hb7⟩ := HH.out.mid HUB.out hg7
           have e0 : w7.cell? ⟨cb, 0, none⟩ = some (.map (some mb)) := (by rw [hb7.cell]; rfl)
           obtain ⟨w8, hrun8, hown8, hg8⟩ := hmap7.update keyed9 Try.underlying61 (by unfold maxLen; omega) hkey (val := v7) (d := .held v7) (ps := []) rfl
           have hb8 : Blk w8 cb 63 _ := hb7.grown hg8 (fun e => by injection e with e; exact HH.out.ne e.symm)
           have f8 := hb8.frozen 1
           have e8 := hb8.cell 1
           simp at e8
           have HO7 := Lib.hid hown7
           have HG7 := Lib.hid hg7
           have HA7 := Lib.hid hat7
           have HM8 := Lib.hid hown8
           have HG8 := Lib.hid hg8
           clear ch7 hmap7 hb7 hown7 hg7 hat7 hown8 hg8 hb8))
      all_goals
        go_wp2_with fail
        go_ret
        refine ⟨rfl, ?_⟩
        rw [HCUT.out]
        exact hap.out w7 w8 v7 (([] : List Ver) ++ [putV val false m]) (by simp) (by have := HO7.out; rw [List.length_append, flatV_snoc]; simpa [putV, HLN.out] using this) HG7.out HA7.out HM8.out HG8.out
    · obtain ⟨k, hk⟩ : ∃ k, l.length = k + 1 := ⟨l.length - 1, by omega⟩
      obtain ⟨x, hx⟩ := some_of_lt (L := l) (i := k) (by omega)
      have hlast : l.getLast? = some x := by rw [List.getLast?_eq_getElem?, hk, Nat.add_sub_cancel]; exact hx
      obtain ⟨g, off, rfl, x0, _, _⟩ := (own_rdv hrow).at_ hx
      have hkI : (k : Int) < ((k + 1 : Nat) : Int) := by omega
      have hpos : decide ((0 : Int) < ((k + 1 : Nat) : Int)) = true := by simp
      have hkb : k < 1000000 := by omega
      have hkc : k + 1 ≤ c := by rw [← hk]; exact own_cap hrow
      have hkcI : (k : Int) ≤ (c : Int) := by omega
      by_cases ht : x.t = m
      · have hu := cut_keep hrow hk
        have HCUT := Lib.hid (show cutAt l m = l.dropLast from by unfold cutAt; rw [hlast]; simp [ht])
        have HLN := Lib.hid (show l.dropLast.length = k from by rw [List.length_dropLast, hk]; rfl)
        rw [hk] at hlk hrow
        rw [ht] at x0
        clear hlast hx ht hz hk
        have HU := Lib.hid hu
        have HUB := Lib.hid (show (Value.slice (some ⟨g, off, none⟩) k c).ownBlock = (V kk).ownBlock from by rw [HV.out]; rfl)
        have hap := Lib.hid (fun (w7 w8 : World) v7 l7 hl7 ho hg hat hm8 hg8 => put_fin (w7 := w7) (w8 := w8) (v7 := v7) (l7 := l7) (o := .cells #[.int .i64 m, .string ⟨#[]⟩, .bool false] 66) HH.out HUB.out hg ho hat hm8 hg8 hl7 m)
        have c0' : (w.alloc (.cells #[.int .i64 m, .string ⟨#[]⟩, .bool false] 66)).cell? ⟨cb, 0, none⟩ = some (.map (some mb)) := (HH.out.new_ ((Ch.refl _ w).alloc _)).c0
        clear hu hrow
        go_enter Try.func21, Try.ntmps21
        go_wp2_with (go_at_call 29; refine hmo.out.mono ?_; rintro e w2 ⟨rfl, rfl⟩)
        go_region_law (first
          | (refine step_append_any _ rfl (.tmp 77) (.tmp 82) _ rfl B 66 i1 _ 3 32 Try.underlying56 hi1 hy0 hy1 hy2 rfl (by omega) (.slice (some ⟨g, off, none⟩) k c) k (flatV l.dropLast) rfl
               (own_ch HU.out (((Ch.refl (fun _ => False) w).drew).alloc _) (fun _ _ h => h)) _ (some ⟨w.heap.size, 0, none⟩) 1 1 [.int .i64 m, .string ⟨#[]⟩, .bool false] rfl (reads_new w.drew 66 #[.int .i64 m, .string ⟨#[]⟩, .bool false] 1 3 rfl) (by simp [Value.oneCell']) (by simp only [maxLen]; omega) (by omega) (by simp; omega) ?_
             intro v7 w7 hown7 hg7 hat7
             obtain ⟨ch7, hmap7, hb7⟩ := HH.out.mid HUB.out hg7
             have e0 : w7.cell? ⟨cb, 0, none⟩ = some (.map (some mb)) := (by rw [hb7.cell]; rfl)
             obtain ⟨w8, hrun8, hown8, hg8⟩ := hmap7.update keyed9 Try.underlying61 (by unfold maxLen; omega) hkey (val := v7) (d := .held v7) (ps := []) rfl
             have hb8 : Blk w8 cb 63 _ := hb7.grown hg8 (fun e => by injection e with e; exact HH.out.ne e.symm)
             have f8 := hb8.frozen 1
             have e8 := hb8.cell 1
             simp at e8
             have HO7 := Lib.hid hown7
             have HG7 := Lib.hid hg7
             have HA7 := Lib.hid hat7
             have HM8 := Lib.hid hown8
             have HG8 := Lib.hid hg8
             clear ch7 hmap7 hb7 hown7 hg7 hat7 hown8 hg8 hb8))
        all_goals
          go_wp2_with fail
          go_ret
          refine ⟨rfl, ?_⟩
          rw [HCUT.out]
          exact hap.out w7 w8 v7 (l.dropLast ++ [putV val false m]) (by simp) (by have := HO7.out; rw [List.length_append, flatV_snoc]; simpa [putV, HLN.out] using this) HG7.out HA7.out HM8.out HG8.out
      · have hu := hrow
        have HCUT := Lib.hid (show cutAt l m = l from by unfold cutAt; rw [hlast]; simp [ht])
        have HLN := Lib.hid hk
        rw [hk] at hlk hu
        have dt : (x.t == m) = false := by simpa using ht
        clear hlast hx ht hz
        have HU := Lib.hid hu
        have HUB := Lib.hid (show (Value.slice (some ⟨g, off, none⟩) (k + 1) c).ownBlock = (V kk).ownBlock from by rw [HV.out]; rfl)
        have hap := Lib.hid (fun (w7 w8 : World) v7 l7 hl7 ho hg hat hm8 hg8 => put_fin (w7 := w7) (w8 := w8) (v7 := v7) (l7 := l7) (o := .cells #[.int .i64 m, .string ⟨#[]⟩, .bool false] 66) HH.out HUB.out hg ho hat hm8 hg8 hl7 m)
        have c0' : (w.alloc (.cells #[.int .i64 m, .string ⟨#[]⟩, .bool false] 66)).cell? ⟨cb, 0, none⟩ = some (.map (some mb)) := (HH.out.new_ ((Ch.refl _ w).alloc _)).c0
        clear hu hrow
        go_enter Try.func21, Try.ntmps21
        go_wp2_with (go_at_call 29; refine hmo.out.mono ?_; rintro e w2 ⟨rfl, rfl⟩)
        go_region_law (first
          | (refine step_append_any _ rfl (.tmp 77) (.tmp 82) _ rfl B 66 i1 _ 3 32 Try.underlying56 hi1 hy0 hy1 hy2 rfl (by omega) (.slice (some ⟨g, off, none⟩) (k + 1) c) (k + 1) (flatV l) rfl
               (own_ch HU.out (((Ch.refl (fun _ => False) w).drew).alloc _) (fun _ _ h => h)) _ (some ⟨w.heap.size, 0, none⟩) 1 1 [.int .i64 m, .string ⟨#[]⟩, .bool false] rfl (reads_new w.drew 66 #[.int .i64 m, .string ⟨#[]⟩, .bool false] 1 3 rfl) (by simp [Value.oneCell']) (by simp only [maxLen]; omega) (by omega) (by simp; omega) ?_
             intro v7 w7 hown7 hg7 hat7
             obtain ⟨ch7, hmap7, hb7⟩ := HH.out.mid HUB.out hg7
             have e0 : w7.cell? ⟨cb, 0, none⟩ = some (.map (some mb)) := (by rw [hb7.cell]; rfl)
             obtain ⟨w8, hrun8, hown8, hg8⟩ := hmap7.update keyed9 Try.underlying61 (by unfold maxLen; omega) hkey (val := v7) (d := .held v7) (ps := []) rfl
             have hb8 : Blk w8 cb 63 _ := hb7.grown hg8 (fun e => by injection e with e; exact HH.out.ne e.symm)
             have f8 := hb8.frozen 1
             have e8 := hb8.cell 1
             simp at e8
             have HO7 := Lib.hid hown7
             have HG7 := Lib.hid hg7
             have HA7 := Lib.hid hat7
             have HM8 := Lib.hid hown8
             have HG8 := Lib.hid hg8
             clear ch7 hmap7 hb7 hown7 hg7 hat7 hown8 hg8 hb8))
        all_goals
          go_wp2_with fail
          go_ret
          refine ⟨rfl, ?_⟩
          rw [HCUT.out]
          exact hap.out w7 w8 v7 (l ++ [putV val false m]) (by simp) (by have := HO7.out; rw [List.length_append, flatV_snoc]; simpa [putV, HLN.out] using this) HG7.out HA7.out HM8.out HG8.out
  · rcases Nat.eq_zero_or_pos l.length with hz | hz
    · obtain rfl : l = [] := List.eq_nil_of_length_eq_zero hz
      have hu := hrow
      have HCUT := Lib.hid (show cutAt ([] : List Ver) m = [] from rfl)
      have HLN := Lib.hid (show ([] : List Ver).length = 0 from rfl)
      simp only [List.length_nil] at hlk hu
      have HU := Lib.hid hu
      have HUB := Lib.hid (show (Value.slice A 0 c).ownBlock = (V kk).ownBlock from by rw [HV.out]; rfl)
      have hap := Lib.hid (fun (w7 w8 : World) v7 l7 hl7 ho hg hat hm8 hg8 => put_fin (w7 := w7) (w8 := w8) (v7 := v7) (l7 := l7) (o := .cells #[.int .i64 m, .string val, .bool true] 66) HH.out HUB.out hg ho hat hm8 hg8 hl7 m)
      have c0' : (w.alloc (.cells #[.int .i64 m, .string val, .bool true] 66)).cell? ⟨cb, 0, none⟩ = some (.map (some mb)) := (HH.out.new_ ((Ch.refl _ w).alloc _)).c0
      clear hu hrow
      go_enter Try.func21, Try.ntmps21
      go_wp2_with (go_at_call 29; refine hmo.out.mono ?_; rintro e w2 ⟨rfl, rfl⟩)
      go_region_law (first
        | (refine step_append_any _ rfl (.tmp 77) (.tmp 82) _ rfl B 66 i1 _ 3 32 Try.underlying56 hi1 hy0 hy1 hy2 rfl (by omega) (.slice A 0 c) 0 (flatV ([] : List Ver)) rfl
             (own_ch HU.out (((Ch.refl (fun _ => False) w).drew).alloc _) (fun _ _ h => h)) _ (some ⟨w.heap.size, 0, none⟩) 1 1 [.int .i64 m, .string val, .bool true] rfl (reads_new w.drew 66 #[.int .i64 m, .string val, .bool true] 1 3 rfl) (by simp [Value.oneCell']) (by simp only [maxLen]; omega) (by omega) (by simp; omega) ?_
           intro v7 w7 hown7 hg7 hat7
           obtain ⟨ch7, hmap7, hb7⟩ := HH.out.mid HUB.out hg7
           have e0 : w7.cell? ⟨cb, 0, none⟩ = some (.map (some mb)) := (by rw [hb7.cell]; rfl)
           obtain ⟨w8, hrun8, hown8, hg8⟩ := hmap7.update keyed9 Try.underlying61 (by unfold maxLen; omega) hkey (val := v7) (d := .held v7) (ps := []) rfl
           have hb8 : Blk w8 cb 63 _ := hb7.grown hg8 (fun e => by injection e with e; exact HH.out.ne e.symm)
           have f8 := hb8.frozen 1
           have e8 := hb8.cell 1
           simp at e8
           have HO7 := Lib.hid hown7
           have HG7 := Lib.hid hg7
           have HA7 := Lib.hid hat7
           have HM8 := Lib.hid hown8
           have HG8 := Lib.hid hg8
           clear ch7 hmap7 hb7 hown7 hg7 hat7 hown8 hg8 hb8))
      all_goals
        go_wp2_with fail
        go_ret
        refine ⟨rfl, ?_⟩
        rw [HCUT.out]
        exact hap.out w7 w8 v7 (([] : List Ver) ++ [putV val true m]) (by simp) (by have := HO7.out; rw [List.length_append, flatV_snoc]; simpa [putV, HLN.out] using this) HG7.out HA7.out HM8.out HG8.out
    · obtain ⟨k, hk⟩ : ∃ k, l.length = k + 1 := ⟨l.length - 1, by omega⟩
      obtain ⟨x, hx⟩ := some_of_lt (L := l) (i := k) (by omega)
      have hlast : l.getLast? = some x := by rw [List.getLast?_eq_getElem?, hk, Nat.add_sub_cancel]; exact hx
      obtain ⟨g, off, rfl, x0, _, _⟩ := (own_rdv hrow).at_ hx
      have hkI : (k : Int) < ((k + 1 : Nat) : Int) := by omega
      have hpos : decide ((0 : Int) < ((k + 1 : Nat) : Int)) = true := by simp
      have hkb : k < 1000000 := by omega
      have hkc : k + 1 ≤ c := by rw [← hk]; exact own_cap hrow
      have hkcI : (k : Int) ≤ (c : Int) := by omega
      by_cases ht : x.t = m
      · have hu := cut_keep hrow hk
        have HCUT := Lib.hid (show cutAt l m = l.dropLast from by unfold cutAt; rw [hlast]; simp [ht])
        have HLN := Lib.hid (show l.dropLast.length = k from by rw [List.length_dropLast, hk]; rfl)
        rw [hk] at hlk hrow
        rw [ht] at x0
        clear hlast hx ht hz hk
        have HU := Lib.hid hu
        have HUB := Lib.hid (show (Value.slice (some ⟨g, off, none⟩) k c).ownBlock = (V kk).ownBlock from by rw [HV.out]; rfl)
        have hap := Lib.hid (fun (w7 w8 : World) v7 l7 hl7 ho hg hat hm8 hg8 => put_fin (w7 := w7) (w8 := w8) (v7 := v7) (l7 := l7) (o := .cells #[.int .i64 m, .string val, .bool true] 66) HH.out HUB.out hg ho hat hm8 hg8 hl7 m)
        have c0' : (w.alloc (.cells #[.int .i64 m, .string val, .bool true] 66)).cell? ⟨cb, 0, none⟩ = some (.map (some mb)) := (HH.out.new_ ((Ch.refl _ w).alloc _)).c0
        clear hu hrow
        go_enter Try.func21, Try.ntmps21
        go_wp2_with (go_at_call 29; refine hmo.out.mono ?_; rintro e w2 ⟨rfl, rfl⟩)
        go_region_law (first
          | (refine step_append_any _ rfl (.tmp 77) (.tmp 82) _ rfl B 66 i1 _ 3 32 Try.underlying56 hi1 hy0 hy1 hy2 rfl (by omega) (.slice (some ⟨g, off, none⟩) k c) k (flatV l.dropLast) rfl
               (own_ch HU.out (((Ch.refl (fun _ => False) w).drew).alloc _) (fun _ _ h => h)) _ (some ⟨w.heap.size, 0, none⟩) 1 1 [.int .i64 m, .string val, .bool true] rfl (reads_new w.drew 66 #[.int .i64 m, .string val, .bool true] 1 3 rfl) (by simp [Value.oneCell']) (by simp only [maxLen]; omega) (by omega) (by simp; omega) ?_
             intro v7 w7 hown7 hg7 hat7
             obtain ⟨ch7, hmap7, hb7⟩ := HH.out.mid HUB.out hg7
             have e0 : w7.cell? ⟨cb, 0, none⟩ = some (.map (some mb)) := (by rw [hb7.cell]; rfl)
             obtain ⟨w8, hrun8, hown8, hg8⟩ := hmap7.update keyed9 Try.underlying61 (by unfold maxLen; omega) hkey (val := v7) (d := .held v7) (ps := []) rfl
             have hb8 : Blk w8 cb 63 _ := hb7.grown hg8 (fun e => by injection e with e; exact HH.out.ne e.symm)
             have f8 := hb8.frozen 1
             have e8 := hb8.cell 1
             simp at e8
             have HO7 := Lib.hid hown7
             have HG7 := Lib.hid hg7
             have HA7 := Lib.hid hat7
             have HM8 := Lib.hid hown8
             have HG8 := Lib.hid hg8
             clear ch7 hmap7 hb7 hown7 hg7 hat7 hown8 hg8 hb8))
        all_goals
          go_wp2_with fail
          go_ret
          refine ⟨rfl, ?_⟩
          rw [HCUT.out]
          exact hap.out w7 w8 v7 (l.dropLast ++ [putV val true m]) (by simp) (by have := HO7.out; rw [List.length_append, flatV_snoc]; simpa [putV, HLN.out] using this) HG7.out HA7.out HM8.out HG8.out
      · have hu := hrow
        have HCUT := Lib.hid (show cutAt l m = l from by unfold cutAt; rw [hlast]; simp [ht])
        have HLN := Lib.hid hk
        rw [hk] at hlk hu
        have dt : (x.t == m) = false := by simpa using ht
        clear hlast hx ht hz
        have HU := Lib.hid hu
        have HUB := Lib.hid (show (Value.slice (some ⟨g, off, none⟩) (k + 1) c).ownBlock = (V kk).ownBlock from by rw [HV.out]; rfl)
        have hap := Lib.hid (fun (w7 w8 : World) v7 l7 hl7 ho hg hat hm8 hg8 => put_fin (w7 := w7) (w8 := w8) (v7 := v7) (l7 := l7) (o := .cells #[.int .i64 m, .string val, .bool true] 66) HH.out HUB.out hg ho hat hm8 hg8 hl7 m)
        have c0' : (w.alloc (.cells #[.int .i64 m, .string val, .bool true] 66)).cell? ⟨cb, 0, none⟩ = some (.map (some mb)) := (HH.out.new_ ((Ch.refl _ w).alloc _)).c0
        clear hu hrow
        go_enter Try.func21, Try.ntmps21
        go_wp2_with (go_at_call 29; refine hmo.out.mono ?_; rintro e w2 ⟨rfl, rfl⟩)
        go_region_law (first
          | (refine step_append_any _ rfl (.tmp 77) (.tmp 82) _ rfl B 66 i1 _ 3 32 Try.underlying56 hi1 hy0 hy1 hy2 rfl (by omega) (.slice (some ⟨g, off, none⟩) (k + 1) c) (k + 1) (flatV l) rfl
               (own_ch HU.out (((Ch.refl (fun _ => False) w).drew).alloc _) (fun _ _ h => h)) _ (some ⟨w.heap.size, 0, none⟩) 1 1 [.int .i64 m, .string val, .bool true] rfl (reads_new w.drew 66 #[.int .i64 m, .string val, .bool true] 1 3 rfl) (by simp [Value.oneCell']) (by simp only [maxLen]; omega) (by omega) (by simp; omega) ?_
             intro v7 w7 hown7 hg7 hat7
             obtain ⟨ch7, hmap7, hb7⟩ := HH.out.mid HUB.out hg7
             have e0 : w7.cell? ⟨cb, 0, none⟩ = some (.map (some mb)) := (by rw [hb7.cell]; rfl)
             obtain ⟨w8, hrun8, hown8, hg8⟩ := hmap7.update keyed9 Try.underlying61 (by unfold maxLen; omega) hkey (val := v7) (d := .held v7) (ps := []) rfl
             have hb8 : Blk w8 cb 63 _ := hb7.grown hg8 (fun e => by injection e with e; exact HH.out.ne e.symm)
             have f8 := hb8.frozen 1
             have e8 := hb8.cell 1
             simp at e8
             have HO7 := Lib.hid hown7
             have HG7 := Lib.hid hg7
             have HA7 := Lib.hid hat7
             have HM8 := Lib.hid hown8
             have HG8 := Lib.hid hg8
             clear ch7 hmap7 hb7 hown7 hg7 hat7 hown8 hg8 hb8))
        all_goals
          go_wp2_with fail
          go_ret
          refine ⟨rfl, ?_⟩
          rw [HCUT.out]
          exact hap.out w7 w8 v7 (l ++ [putV val true m]) (by simp) (by have := HO7.out; rw [List.length_append, flatV_snoc]; simpa [putV, HLN.out] using this) HG7.out HA7.out HM8.out HG8.out
end Go.Proofs.Ytfcdplfnhjbdnaa
