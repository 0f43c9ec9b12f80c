/- All: a store's cells, in a row of the call's own. -/
import Derived.Test.YtfcdplfnhjbdnaaKs
namespace Go.Proofs.Ytfcdplfnhjbdnaa
open Go.RowKit Go.Maps
set_option linter.unusedVariables false

theorem own_two {w : World} {B1 B2 s1 s2 n1 n2 : Nat} {e1 e2 : TypeId} {v1 v2 : Value} {x1 x2 : List Value} (h : w.ownsRow B1 e1 s1 v1 n1 x1) (h' : w.ownsRow B2 e2 s2 v2 n2 x2) (hne : e1 ≠ e2) : ∀ g, v1.ownBlock = some g → v2.ownBlock ≠ some g := by
  intro g hg
  rcases h.2 with ⟨rfl, _⟩ | ⟨g', cap, cur, rfl, _, hh, _⟩
  · simp [Value.ownBlock] at hg
  · simp [Value.ownBlock] at hg
    subst hg
    exact own_blk_ne h' hh (fun e => hne e.symm)
def flatZ (zs : List (List UInt8 × Value)) : List Value := zs.flatMap fun z => [encStr z.1, z.2]
theorem flatZ_snoc (zs : List (List UInt8 × Value)) (z : List UInt8 × Value) : flatZ (zs ++ [z]) = flatZ zs ++ [encStr z.1, z.2] := by simp [flatZ]
theorem flatZ_get (zs : List (List UInt8 × Value)) {i : Nat} {z : List UInt8 × Value} (h : zs[i]? = some z) : (flatZ zs)[i * 2]? = some (encStr z.1) ∧ (flatZ zs)[i * 2 + 1]? = some z.2 := by
  refine ⟨?_, ?_⟩
  · have := flat_get (f := fun z : List UInt8 × Value => [encStr z.1, z.2]) (m := 2) (fun _ _ => rfl) h (j := 0) (by omega); simpa [flatZ] using this
  · have := flat_get (f := fun z : List UInt8 × Value => [encStr z.1, z.2]) (m := 2) (fun _ _ => rfl) h (j := 1) (by omega); simpa [flatZ] using this
/-- A row of cells can be read at a slice's place. -/
def RdC (w : World) (A : Option Addr) (cs : List (List UInt8 × List Ver)) : Prop := cs ≠ [] → ∃ g off, A = some ⟨g, off, none⟩ ∧ ∀ i k l, cs[i]? = some (k, l) →
  w.cell? ⟨g, off + i * 2, none⟩ = some (encStr k) ∧ ∃ A' c', w.cell? ⟨g, off + i * 2 + 1, none⟩ = some (.slice A' l.length c') ∧ RdV w A' l
theorem RdC.new_ {w w' : World} {A : Option Addr} {cs : List (List UInt8 × List Ver)} (h : RdC w A cs) (hc : NewW w w') : RdC w' A cs := fun hl => by
  obtain ⟨g, off, hA, hh⟩ := h hl
  refine ⟨g, off, hA, fun i k l hkl => ?_⟩
  obtain ⟨h0, A', c', h1, h2⟩ := hh i k l hkl
  exact ⟨new_cell hc h0, A', c', new_cell hc h1, h2.new_ hc⟩
theorem RdC.at_ {w : World} {A : Option Addr} {cs : List (List UInt8 × List Ver)} (h : RdC w A cs) {i : Nat} {k : List UInt8} {l : List Ver} (hkl : cs[i]? = some (k, l)) : ∃ g off, A = some ⟨g, off, none⟩ ∧
    w.cell? ⟨g, off + i * 2, none⟩ = some (encStr k) ∧ ∃ A' c', w.cell? ⟨g, off + i * 2 + 1, none⟩ = some (.slice A' l.length c') ∧ RdV w A' l := by
  obtain ⟨g, off, hA, hh⟩ := h (fun e => by subst e; simp at hkl)
  exact ⟨g, off, hA, hh i k l hkl⟩
def cellsOf (f : List UInt8 → List Ver) (ks : List (List UInt8)) : List (List UInt8 × List Ver) := ks.map fun k => (k, f k)
/-- Where cells are being gathered: an own row of them, their versions in own rows. -/
structure Gath (w : World) (B : Nat) (f : List UInt8 → List Ver) (ks : List (List UInt8)) (o : Value) (zs : List (List UInt8 × Value)) : Prop where
  own : w.ownsRow B 58 2 o zs.length (flatZ zs)
  keys : zs.map Prod.fst = ks
  vers : ∀ z ∈ zs, ∃ A' c', z.2 = .slice A' (f z.1).length c' ∧ w.ownsRow B 66 3 z.2 (f z.1).length (flatV (f z.1))
theorem Gath.len {w : World} {B : Nat} {f : List UInt8 → List Ver} {ks : List (List UInt8)} {o : Value} {zs : List (List UInt8 × Value)} (h : Gath w B f ks o zs) : zs.length = ks.length := by
  rw [← h.keys, List.length_map]
theorem Gath.new_ {w w' : World} {B : Nat} {f : List UInt8 → List Ver} {ks : List (List UInt8)} {o : Value} {zs : List (List UInt8 × Value)} (h : Gath w B f ks o zs) (hc : NewW w w') : Gath w' B f ks o zs :=
  ⟨own_ch h.own hc (fun _ _ h => h), h.keys, fun z hz => by
    obtain ⟨A', c', h1, h2⟩ := h.vers z hz
    exact ⟨A', c', h1, own_ch h2 hc (fun _ _ h => h)⟩⟩
theorem Gath.more {w w7 : World} {B : Nat} {f : List UInt8 → List Ver} {ks : List (List UInt8)} {o v7 : Value} {zs : List (List UInt8 × Value)} (h : Gath w B f ks o zs) (ob : Obj) {k : List UInt8} {A' : Option Addr} {c' : Nat}
    (hv : w.ownsRow B 66 3 (.slice A' (f k).length c') (f k).length (flatV (f k))) (ho : w7.ownsRow B 58 2 v7 (zs.length + 1) (flatZ zs ++ [encStr k, .slice A' (f k).length c'])) (hg : (w.alloc ob).grownBy w7 o.ownBlock) :
    Gath w7 B f (ks ++ [k]) v7 (zs ++ [(k, .slice A' (f k).length c')]) := by
  have hc : Ch (fun g => o.ownBlock = some g) w w7 := ((Ch.refl _ w).alloc ob).grown hg (fun g hg => .inl hg)
  refine ⟨by rw [List.length_append, flatZ_snoc]; exact ho, by rw [List.map_append, h.keys]; rfl, fun z hz => ?_⟩
  rcases List.mem_append.1 hz with hz | hz
  · obtain ⟨A2, c2, h1, h2⟩ := h.vers z hz
    exact ⟨A2, c2, h1, own_ch h2 hc (fun g hg => own_two h2 h.own (by decide) g hg)⟩
  · simp at hz
    subst hz
    exact ⟨A', c', rfl, own_ch hv hc (fun g hg => own_two hv h.own (by decide) g hg)⟩
theorem Gath.done {w : World} {B : Nat} {f : List UInt8 → List Ver} {ks : List (List UInt8)} {A : Option Addr} {c n : Nat} {zs : List (List UInt8 × Value)} (h : Gath w B f ks (.slice A n c) zs) (hn : zs.length = n) : RdC w A (cellsOf f ks) := by
  intro hne
  have hl := h.len
  have hpos : 0 < zs.length := by
    rw [hl]
    cases ks
    · exact absurd rfl hne
    · simp
  have hown := h.own
  rw [hn] at hown hpos
  obtain ⟨g, cap, hv, _⟩ := hown.form hpos
  injection hv with hA hnn hcc
  subst hA
  refine ⟨g, 0, rfl, fun i k l hkl => ?_⟩
  unfold cellsOf at hkl
  rw [← h.keys, List.getElem?_map, List.getElem?_map] at hkl
  rcases hz : zs[i]? with _ | z
  · rw [hz] at hkl; simp at hkl
  · rw [hz] at hkl
    simp at hkl
    obtain ⟨rfl, rfl⟩ := hkl
    obtain ⟨h0, h1⟩ := flatZ_get zs hz
    have a := hown.cells (g := g) rfl _ _ h0
    have b := hown.cells (g := g) rfl _ _ h1
    rw [add_mk] at a b
    obtain ⟨A', c', e1, e2⟩ := h.vers z (mem_of_some hz)
    rw [e1] at b e2
    exact ⟨a, A', c', b, own_rdv e2⟩
theorem cell_info : (Try.prog.info? 58).map (fun i => (i.zero, i.size, i.bytes)) = some (some (.agg #[.string ⟨#[]⟩, .slice none 0 0]), 2, 40) := by kernel_rfl
section
variable {w : World} {B cb mb n : Nat} {D : DataW Value} {V : List UInt8 → Value} {s : CS}
theorem clone_row {B' : Nat} {A : Option Addr} {c : Nat} {l : List Ver} (hrow : w.ownsRow B' 66 3 (.slice A l.length c) l.length (flatV l)) (hl : l.length ≤ 1000000) :
    Calls Try.prog 28 #[.slice A l.length c] w fun e w' => ∃ A' c', e = .returned (.slice A' l.length c') ∧ w'.ownsRow w.heap.size 66 3 (.slice A' l.length c') l.length (flatV l) ∧ NewW w w' := by
  rcases hrow.2 with ⟨hv, h0⟩ | ⟨g, cap, cur, hv, _⟩
  · injection hv with hA hn hq
    subst hA
    obtain rfl : l = [] := List.eq_nil_of_length_eq_zero h0
    exact (clone_none _ _ w).mono fun e w' ⟨q1, q2⟩ => ⟨none, 0, q1, ⟨rfl, .inl ⟨rfl, rfl⟩⟩, by subst q2; exact Ch.refl _ _⟩
  · injection hv with hA hn hq
    subst hA
    refine (clone_some g 0 c l w hl (fun i v hv => ?_)).mono fun e w' ⟨v', q1, q2, q3⟩ => ?_
    · obtain ⟨g', off', hA, a⟩ := (own_rdv hrow).at_ hv
      injection hA with hA
      injection hA with hA1 hA2
      subst hA1 hA2
      exact a
    · obtain ⟨A', c', rfl⟩ := own_form q2
      exact ⟨A', c', q1, q2, Ch.of_below q3 (fun k hk _ => hk)⟩
set_option maxRecDepth 100000 in
set_option maxHeartbeats 8000000 in
theorem all_any (h : CM w B cb mb n D V s) (hn : n ≤ 1000000) (hl : ∀ k, (s.f k).length ≤ 1000000) :
    Calls Try.prog 14 #[.pointer (some ⟨cb, 0, none⟩)] w fun e w' => ∃ (A : Option Addr) (c : Nat) (ks : List (List UInt8)), KeysIn s ks ∧ (∀ k ∈ ks, k.length ≤ maxLen) ∧ ks.length ≤ n ∧ e = .returned (.slice A ks.length c) ∧ RdC w' A (cellsOf s.f ks) ∧ NewW w w' := by
  have HS := Lib.hid (sorted_any h hn)
  have HM := Lib.hid h
  obtain ⟨i0, hi0, hz0, hz1, hz2⟩ := info_parts cell_info
  clear h
  go_enter Try.func14, Try.ntmps14
  go_wp2_with fail
  refine HS.out.mono ?_
  rintro e w1 ⟨A, c, ks, rfl, hrow, hkeys, hlen, hkl, hN1⟩
  dsimp only
  have HR1 := Lib.hid hrow
  have HKS := Lib.hid hkeys
  have HKL := Lib.hid hkl
  have HN1 := Lib.hid hN1
  have HLN := Lib.hid hlen
  clear hrow hkeys hkl hN1 HS
  go_wp2_with fail
  go_loopw [3, 11] (fun o i w' => ∃ j : Nat, j ≤ ks.length ∧ i = .int .i64 j ∧ (∃ zs, Gath w' w1.heap.size s.f (ks.take j) o zs) ∧ NewW w1 w') (fun _ i _ => ks.length - (intOf i).toNat)
  case atStart => exact ⟨0, by omega, rfl, ⟨[], ⟨by exact ⟨rfl, .inl ⟨rfl, rfl⟩⟩, rfl, by simp⟩⟩, Ch.refl _ _⟩
  case round =>
    obtain ⟨j, hj, rfl, ⟨zs, hG⟩, hC⟩ := hrel
    have hM := HM.out.new_ (HN1.out.trans' hC)
    have hzl : zs.length = j := by rw [hG.len, List.length_take]; omega
    by_cases hlt : j < ks.length
    · obtain ⟨k, hk⟩ := some_of_lt hlt
      have hrow := own_ch HR1.out hC (fun _ _ h => h)
      obtain ⟨kb, hkb⟩ : ∃ kb : ByteArray, kb = ⟨k.toArray⟩ := ⟨_, rfl⟩
      have hkd : kb.data.toList = k := by rw [hkb]
      have hkm : kb.size ≤ maxLen := by
        have := HKL.out k (mem_of_some hk)
        rw [hkb]; simpa [ByteArray.size] using this
      obtain ⟨gk, qk, hvk, _, _⟩ := hrow.form (by omega)
      injection hvk with hvk _ hqk
      subst hvk hqk
      have hck := hrow.cells (g := gk) rfl j (.string kb) (by rw [List.getElem?_map, hk, hkb]; rfl)
      rw [add_mk, Nat.zero_add] at hck
      have hlk := hM.look hkm
      rw [hkd] at hlk
      have hrk := hM.row k
      obtain ⟨A2, q2, hv2⟩ := own_form hrk
      rw [hv2] at hlk hrk
      have HCL := Lib.hid (clone_row hrk (hl k))
      have hencs : encStr k = .string kb := by rw [hkb]
      have HTK := Lib.hid (show ks.take (j + 1) = ks.take j ++ [k] by rw [List.take_add_one, hk]; rfl)
      have c0 := hM.c0
      have HG := Lib.hid hG
      have HC := Lib.hid hC
      have hsz : w1.heap.size ≤ wr.heap.size := hC.size
      obtain ⟨A3, q3, hv3⟩ := own_form hG.own
      subst hv3
      clear hM hC hG hrow hk hkb hkd hkm hv2 hrk
      generalize hfk : s.f k = fk at *
      have HFK := Lib.hid hfk
      generalize hNN : fk.length = NN at *
      have HNN := Lib.hid hNN
      clear hfk hNN
      subst hzl
      go_wp2_with (first
        | (go_at_call 28; refine HCL.out.mono ?_; rintro e w2 ⟨A4, c4, rfl, ho4, hN4⟩; have HG2 := Lib.hid (HG.out.new_ hN4); have HO4 := Lib.hid (own_mono ho4 hsz); have HN4 := Lib.hid hN4; have hsz4 := Nat.le_trans hsz (Ch.size hN4); clear ho4 hN4)
        | (at_builtin
           refine wpList_append_any _ rfl (.tmp 15) (.tmp 25) _ rfl w1.heap.size 58 i0 _ 2 40 Try.underlying36 hi0 hz0 hz1 hz2 rfl (by omega) _ zs.length (flatZ zs) rfl
             (own_ch HG2.out.own ((Ch.refl (fun _ => False) _).alloc _) (fun _ _ h => h)) (w2.heap.size + 1) (some ⟨w2.heap.size, 0, none⟩) 1 1 [.string kb, .slice A4 NN c4] rfl (reads_new w2 58 #[.string kb, .slice A4 NN c4] 1 2 rfl) (by simp [Value.oneCell']) (by simp only [maxLen]; omega) (by omega) (by simp; omega) ?_
           intro v7 w7 hown7 hg7 hat7
           have HO7 := Lib.hid hown7
           have HG7 := Lib.hid hg7
           clear hown7 hg7 hat7))
      refine ⟨⟨zs.length + 1, by omega, by go_num, ⟨zs ++ [(k, .slice A4 NN c4)], ?_⟩, ((HC.out.trans' HN4.out).alloc _).grown HG7.out (fun q hq => .inr (own_lt HG2.out.own hq).1)⟩, by simp [intOf]; omega⟩
      have := Gath.more HG2.out (.cells #[.string kb, .slice A4 NN c4] 58) (k := k) (A' := A4) (c' := c4) (v7 := v7) (w7 := w7) (by rw [HFK.out, HNN.out]; exact HO4.out) (by rw [HFK.out, HNN.out, hencs]; exact HO7.out) HG7.out
      rw [HFK.out, HNN.out] at this
      rw [HTK.out]
      exact this
    · obtain rfl : j = ks.length := by omega
      rw [List.take_length] at hG
      obtain ⟨A9, c9, hv9⟩ := own_form hG.own
      subst hv9
      have hd := hG.done rfl
      rw [hzl] at hG
      have HF := Lib.hid (show ∃ (A : Option Addr) (c : Nat) (ks' : List (List UInt8)), KeysIn s ks' ∧ (∀ k ∈ ks', k.length ≤ maxLen) ∧ ks'.length ≤ n ∧ (.returned (.slice A9 ks.length c9) : Ending) = .returned (.slice A ks'.length c) ∧ RdC wr A (cellsOf s.f ks') ∧ NewW w wr from
        ⟨A9, c9, ks, HKS.out, HKL.out, HLN.out, rfl, hd, HN1.out.trans' hC⟩)
      rw [hzl]
      clear hM hC hG hd hlt hj
      go_wp2_with fail
      go_ret
      exact HF.out
theorem ks_all {w0 : World} (h : KS w0 n cb s w) (hn : n ≤ 900000) :
    Calls Try.prog 14 #[.pointer (some ⟨cb, 0, none⟩)] w fun e w' => ∃ (A : Option Addr) (c : Nat) (ks : List (List UInt8)), KeysIn s ks ∧ (∀ k ∈ ks, k.length ≤ maxLen) ∧ ks.length ≤ n ∧ e = .returned (.slice A ks.length c) ∧ RdC w' A (cellsOf s.f ks) ∧ NewW w w' := by
  obtain ⟨mb, D, V, hm⟩ := h.cm
  exact all_any hm (by omega) (fun k => by have := h.len k; omega)
end
end Go.Proofs.Ytfcdplfnhjbdnaa
