/- Drop: the walk. -/
import Derived.Test.YtfcdplfnhjbdnabDoorDp
import Derived.RegionTactic
namespace Go.Proofs.YtfcdplfnhjbdnabDoor
open Go.RowKit Go.Sort
set_option linter.unusedVariables false

/-- The first k nodes are mended. -/
def mixK (L : List Nd) (at_ last k : Nat) : List Nd := (L.take k).map (fixN at_ last) ++ L.drop k
theorem mix_len (L : List Nd) (at_ last k : Nat) : (mixK L at_ last k).length = L.length := by
  unfold mixK
  rw [List.length_append, List.length_map, List.length_take, List.length_drop]
  omega
theorem mix_at {L : List Nd} {at_ last k : Nat} {x : Nd} (h : L[k]? = some x) : (mixK L at_ last k)[k]? = some x := by
  have hl := lt_of_some h
  unfold mixK
  rw [List.getElem?_append_right (by simp; omega), List.length_map, List.length_take, Nat.min_eq_left (by omega), Nat.sub_self, List.getElem?_drop, Nat.add_zero, h]
theorem mix_next {L : List Nd} {at_ last k : Nat} {x : Nd} (h : L[k]? = some x) : (mixK L at_ last k).set k (fixN at_ last x) = mixK L at_ last (k + 1) := by
  have hl := lt_of_some h
  have hd : L.drop k = x :: L.drop (k + 1) := by
    rw [List.drop_eq_getElem_cons hl]
    rw [List.getElem?_eq_getElem hl] at h
    injection h with h
    rw [h]
  unfold mixK
  rw [List.set_append_right _ _ (by simp; omega), List.length_map, List.length_take, Nat.min_eq_left (by omega), Nat.sub_self, hd, List.set_cons_zero, List.take_add_one, h, List.map_append, List.append_assoc]
  rfl
theorem mix_end {L : List Nd} {at_ last : Nat} : mixK L at_ last L.length = L.map (fixN at_ last) := by simp [mixK]
/-- A node is stored. -/
theorem flatN_put {l : List Nd} {i : Nat} {x : Nd} (h : l[i]? = some x) (y : Nd) : (((flatN l).set (i * 3) (.int .i64 y.id)).set (i * 3 + 1) (.int .i64 y.st)).set (i * 3 + 2) (.int .u64 y.to) = flatN (l.set i y) := by
  have hl := lt_of_some h
  have s1 : (flatN l).set (i * 3) (.int .i64 y.id) = flatN (l.set i ⟨y.id, x.st, x.to⟩) :=
    flat_set (f := fun x : Nd => [Value.int .i64 x.id, .int .i64 x.st, .int .u64 x.to]) (m := 3) (fun _ _ => rfl) h (j := 0) (by omega) rfl
  have s2 : (flatN (l.set i ⟨y.id, x.st, x.to⟩)).set (i * 3 + 1) (.int .i64 y.st) = flatN ((l.set i ⟨y.id, x.st, x.to⟩).set i ⟨y.id, y.st, x.to⟩) :=
    flat_set (f := fun x : Nd => [Value.int .i64 x.id, .int .i64 x.st, .int .u64 x.to]) (m := 3) (fun _ _ => rfl) (x := ⟨y.id, x.st, x.to⟩) (by rw [List.getElem?_set_self hl]) (j := 1) (by omega) rfl
  have s3 : (flatN (l.set i ⟨y.id, y.st, x.to⟩)).set (i * 3 + 2) (.int .u64 y.to) = flatN ((l.set i ⟨y.id, y.st, x.to⟩).set i y) :=
    flat_set (f := fun x : Nd => [Value.int .i64 x.id, .int .i64 x.st, .int .u64 x.to]) (m := 3) (fun _ _ => rfl) (x := ⟨y.id, y.st, x.to⟩) (by rw [List.getElem?_set_self hl]) (j := 2) (by omega) rfl
  rw [List.set_set] at s2 s3
  rw [s1, s2, s3]
def dropE (l : List Nd) (id : Int) : Int := if idxOf l id < 0 then 6 else 0
def dropI (l : List Nd) (id : Int) : List Nd := if idxOf l id < 0 then l else dropL l (idxOf l id).toNat
section
variable {w0 w : World} {gb : Nat} {l : List Nd}
theorem GM.cel {w : World} {B gb g n q : Nat} {l : List Nd} (h : GM w B gb l (.slice (some ⟨g, 0, none⟩) n q)) {i : Nat} {x : Nd} (hx : l[i]? = some x) :
    w.cell? ⟨g, i * 3, none⟩ = some (.int .i64 x.id) ∧ w.cell? ⟨g, i * 3 + 1, none⟩ = some (.int .i64 x.st) ∧ w.cell? ⟨g, i * 3 + 2, none⟩ = some (.int .u64 x.to) := by
  obtain ⟨g', q', hv', h0, h1, h2⟩ := h.at_ hx
  injection hv' with hv' _ _
  injection hv' with hv'
  injection hv' with hv'
  subst hv'
  exact ⟨h0, h1, h2⟩
theorem flatN_append (a b : List Nd) : flatN (a ++ b) = flatN a ++ flatN b := by simp [flatN]
theorem flatN_len (a : List Nd) : (flatN a).length = a.length * 3 := flat_len (f := fun x : Nd => [Value.int .i64 x.id, .int .i64 x.st, .int .u64 x.to]) (m := 3) (fun _ _ => rfl)
theorem own_cap {w : World} {B g n c : Nat} {xs : List Value} (h : w.ownsRow B 57 3 (.slice (some ⟨g, 0, none⟩) n c) n xs) : n ≤ c ∧ c ≤ maxLen := by
  rcases h.2 with ⟨h0, _⟩ | ⟨g', cap', cur, hv, _, _, hnc, hcm, _⟩
  · cases h0
  · injection hv with _ _ hq
    subst hq
    exact ⟨hnc, hcm⟩
set_option maxHeartbeats 4000000 in
theorem drop_any (h : KG w0 gb l w) (id : Int) :
    Calls Tryd.prog 14 #[.pointer (some ⟨gb, 0, none⟩), .int .i64 id] w fun e w' => e = .returned (.int .i64 (dropE l id)) ∧ KG w0 gb (dropI l id) w' ∧ KpT w w' := by
  obtain ⟨v, hm⟩ := h.gm
  have HFA := Lib.hid (find_any hm id)
  have HH := Lib.hid h
  have h64 := hm.ok.len
  unfold dropE dropI
  rcases idx_cases l id with ⟨hx, _⟩ | ⟨a, p, hx, hxa, _⟩
  · rw [hx] at HFA ⊢
    rw [if_pos (by decide), if_pos (by decide)]
    clear h hm hx
    go_enter Tryd.func14, Tryd.ntmps14
    go_wp2_with fail
    refine HFA.out.mono ?_
    rintro e w2 ⟨rfl, hN2⟩
    have HN2 := Lib.hid hN2
    clear hN2 HFA
    dsimp only
    go_wp2_with fail
    go_ret
    exact ⟨rfl, HH.out.new_ HN2.out, KpT.new_ HN2.out⟩
  · rw [hx] at HFA ⊢
    rw [if_neg (by omega), if_neg (by omega), Int.toNat_natCast]
    obtain ⟨g, q, hv, _, _, _⟩ := hm.at_ hxa
    subst hv
    have hal := lt_of_some hxa
    obtain ⟨m, hm1⟩ : ∃ m, l.length = m + 1 := ⟨l.length - 1, by omega⟩
    obtain ⟨z, hz⟩ := some_of_lt (show m < l.length by omega)
    have hmov : movL l a = (l.set a z).take m := by
      unfold movL
      rw [hm1, Nat.add_sub_cancel, List.getD_eq_getElem?_getD, hz]; rfl
    have HMV := Lib.hid hmov
    have HOK := Lib.hid (ok_drop hm.ok hal)
    have hML : (movL l a).length = m := by rw [mov_len]; omega
    have HML := Lib.hid hML
    have HDL := Lib.hid (show dropL l a = (movL l a).map (fixN a m) from by unfold dropL; rw [hm1, Nat.add_sub_cancel])
    have HB64 := Lib.hid (fun (x : Nd) (hx : x ∈ movL l a) => (show x.to < 18446744073709551616 from by
      unfold movL at hx
      rcases List.mem_or_eq_of_mem_set (List.mem_of_mem_take hx) with h' | h'
      · exact bit64 hm.ok h'
      · rw [h', List.getD_eq_getElem?_getD, hm1, Nat.add_sub_cancel, hz]; exact bit64 hm.ok (mem_of_some hz)))
    obtain ⟨hcap, hcapm⟩ := own_cap hm.own
    obtain ⟨cur, hcur⟩ := own_blk hm.own
    have hne : gb ≠ g := hm.blk.ne_ hcur (by decide)
    have HM := Lib.hid hm
    have HXA := Lib.hid hxa
    have HZ := Lib.hid hz
    have HDRP := Lib.hid (fun (w' : World) (hb : Blk w' gb 60 #[.slice (some ⟨g, 0, none⟩) m q]) (ho : w'.ownsRow w0.heap.size 57 3 (.slice (some ⟨g, 0, none⟩) m q) m (flatN (dropL l a))) (hc : Ch (fun k => k = g ∨ k = gb) w w') => (show KG w0 gb (dropL l a) w' ∧ KpT w w' from
      ⟨⟨⟨.slice (some ⟨g, 0, none⟩) m q, hb, by rw [drop_len, hm1, Nat.add_sub_cancel]; exact ho, HM.out.bB, HOK.out⟩, Ch.below HH.out.below hc (fun k hk => by
        rcases hk with rfl | rfl
        · exact (own_lt HM.out.own (g := k) rfl).1
        · exact HM.out.bB) HH.out.size⟩, fun k t cs' h1 h2 hk => hk.ch hc (fun e => by
        rcases e with rfl | rfl
        · exact hcur.ne_ hk (fun e => h1 e.symm) rfl
        · exact HM.out.blk.ne_ hk (fun e => h2 e.symm) rfl)⟩))
    have haI : (a : Int) < ((m + 1 : Nat) : Int) := by omega
    have haI2 : (a : Int) < (m : Int) + 1 := by omega
    have ham : a < m + 1 := by omega
    have hmm : (m : Int) ≤ 63 := by omega
    have hcapI : ((m + 1 : Nat) : Int) ≤ (q : Int) := by omega
    have hcapm' : (q : Int) ≤ 9223372036854775807 := by unfold maxLen at hcapm; omega
    have hw1 : IntKind.i64.wrap (((m + 1 : Nat) : Int) - 1) = (m : Int) := by rw [show (((m + 1 : Nat) : Int) - 1) = m by omega]; exact IntWalk.i64_in _ (by omega)
    have hw2 : IntKind.i64.wrap ((m : Int) + 1 - 1) = (m : Int) := by rw [Int.add_sub_cancel]; exact IntWalk.i64_in _ (by omega)
    have hw0 : IntKind.i64.wrap (m : Int) = (m : Int) := IntWalk.i64_in _ (by omega)
    have dlt : decide ((a : Int) < 0) = false := by simp
    clear h hm hx hxa hz hmov hML hcur
    rw [hm1] at hcap
    have HM1 := Lib.hid hm1
    go_enter Tryd.func14, Tryd.ntmps14
    go_wp2_with fail
    refine HFA.out.mono ?_
    rintro e w2 ⟨rfl, hN2⟩
    have hm2 := HM.out.new_ hN2
    have HN2 := Lib.hid hN2
    obtain ⟨s0, s1, s2⟩ := hm2.cel HZ.out
    obtain ⟨r0, r1, r2⟩ := hm2.cel HXA.out
    have c0 := hm2.c0
    have f0 := hm2.own.frozenAt (a * 3)
    have f1 := hm2.own.frozenAt (a * 3 + 1)
    have f2 := hm2.own.frozenAt (a * 3 + 2)
    rw [hm1] at c0
    clear hm1
    have HM2 := Lib.hid hm2
    clear hN2 HFA hm2
    dsimp only
    go_wp2_with fail
    go_region
    have hown3 : ((((w2.setCell ⟨g, a * 3, none⟩ (.int .i64 z.id)).setCell ⟨g, a * 3 + 1, none⟩ (.int .i64 z.st)).setCell ⟨g, a * 3 + 2, none⟩ (.int .u64 z.to)).drew).ownsRow w0.heap.size 57 3 (.slice (some ⟨g, 0, none⟩) m q) m (flatN (movL l a)) := by
      have h1 := (((HM2.out.own.stored (a * 3) (.int .i64 z.id)).1.stored (a * 3 + 1) (.int .i64 z.st)).1.stored (a * 3 + 2) (.int .u64 z.to)).1
      rw [flatN_put HXA.out z, HM1.out] at h1
      have h2 : flatN (l.set a z) = flatN (movL l a) ++ flatN ((l.set a z).drop m) := by rw [HMV.out, ← flatN_append, List.take_append_drop]
      rw [h2] at h1
      exact (ownsRow_pop (by rw [flatN_len, HML.out]) h1).drew
    have hch3 : Ch (fun k => k = g ∨ k = gb) w ((((w2.setCell ⟨g, a * 3, none⟩ (.int .i64 z.id)).setCell ⟨g, a * 3 + 1, none⟩ (.int .i64 z.st)).setCell ⟨g, a * 3 + 2, none⟩ (.int .u64 z.to)).drew) :=
      (((((HN2.out : Ch (fun _ => False) w w2).mono (fun _ h => h.elim)).setCell (p := ⟨g, a * 3, none⟩) (.inl (.inl rfl)) _).setCell (p := ⟨g, a * 3 + 1, none⟩) (.inl (.inl rfl)) _).setCell (p := ⟨g, a * 3 + 2, none⟩) (.inl (.inl rfl)) _).drew
    have hb3 : Blk ((((w2.setCell ⟨g, a * 3, none⟩ (.int .i64 z.id)).setCell ⟨g, a * 3 + 1, none⟩ (.int .i64 z.st)).setCell ⟨g, a * 3 + 2, none⟩ (.int .u64 z.to)).drew) gb 60 #[.slice (some ⟨g, 0, none⟩) (m + 1) q] := by
      have h1 := ((HM2.out.blk.far (p := ⟨g, a * 3, none⟩) hne (.int .i64 z.id)).far (p := ⟨g, a * 3 + 1, none⟩) hne (.int .i64 z.st)).far (p := ⟨g, a * 3 + 2, none⟩) hne (.int .u64 z.to)
      rw [HM1.out] at h1
      exact h1.drew
    have HO3 := Lib.hid hown3
    have HC3 := Lib.hid hch3
    have HB3 := Lib.hid hb3
    clear hown3 hch3 hb3 s0 s1 s2 r0 r1 r2 c0 f0 f1 f2
    generalize (((w2.setCell ⟨g, a * 3, none⟩ (.int .i64 z.id)).setCell ⟨g, a * 3 + 1, none⟩ (.int .i64 z.st)).setCell ⟨g, a * 3 + 2, none⟩ (.int .u64 z.to)).drew = w3 at *
    have c0 : w3.cell? ⟨gb, 0, none⟩ = some (.slice (some ⟨g, 0, none⟩) (m + 1) q) := by rw [HB3.out.cell]; rfl
    have f0 := HB3.out.frozen 0
    have hmI : (m : Int) ≤ (q : Int) := by omega
    have HB4 := Lib.hid (show Blk (w3.setCell ⟨gb, 0, none⟩ (.slice (some ⟨g, 0, none⟩) m q)) gb 60 #[.slice (some ⟨g, 0, none⟩) m q] from by
      have := HB3.out.set_ 0 (.slice (some ⟨g, 0, none⟩) m q)
      simpa using this)
    have HO4 := Lib.hid (own_set_far HO3.out (a := ⟨gb, 0, none⟩) (by intro e; injection e with e; exact hne e.symm) (.slice (some ⟨g, 0, none⟩) m q))
    have HC4 := Lib.hid ((HC3.out : Ch (fun k => k = g ∨ k = gb) w w3).setCell (p := ⟨gb, 0, none⟩) (.inl (.inr rfl)) (.slice (some ⟨g, 0, none⟩) m q))
    go_wp2_with fail
    go_loopw [50] (fun i w' => ∃ k : Nat, k ≤ m ∧ i = .int .i64 k ∧ w'.ownsRow w0.heap.size 57 3 (.slice (some ⟨g, 0, none⟩) m q) m (flatN (mixK (movL l a) a m k)) ∧ Blk w' gb 60 #[.slice (some ⟨g, 0, none⟩) m q] ∧ Ch (fun k => k = g ∨ k = gb) w w') (fun i _ => m - (intOf i).toNat)
    case atStart => exact ⟨0, by omega, rfl, HO4.out, HB4.out, HC4.out⟩
    case round =>
      obtain ⟨k, hk, rfl, hO, hB, hC⟩ := hrel
      have c1 : wr.cell? ⟨gb, 0, none⟩ = some (.slice (some ⟨g, 0, none⟩) m q) := by rw [hB.cell]; rfl
      by_cases hlt : k < m
      · obtain ⟨x, hx⟩ := some_of_lt (L := movL l a) (i := k) (by rw [HML.out]; exact hlt)
        have r2 := hO.cells (g := g) rfl (k * 3 + 2) (.int .u64 x.to) (flatN_get _ (mix_at hx)).2.2
        rw [add_mk, Nat.zero_add] at r2
        have f2 := hO.frozenAt (k * 3 + 2)
        have t64 := HB64.out x (mem_of_some hx)
        have ha64 : a < 64 := by omega
        have hm64 : m < 64 := by omega
        have p64 := or_lt64 (pow64 ha64) (pow64 hm64)
        have HHA := Lib.hid (fun w' => has_any x.to m t64 hm64 w')
        have E1 := Lib.hid (show bits BinOp.or IntKind.u64 (IntKind.u64.wrap ((2 : Int) ^ a)) (IntKind.u64.wrap ((2 : Int) ^ m)) = ((2 ^ a ||| 2 ^ m : Nat) : Int) from by rw [w_pow ha64, w_pow hm64, u64_or_nat _ _ (pow64 ha64) (pow64 hm64)])
        have E2 := Lib.hid (show bits BinOp.andNot IntKind.u64 (x.to : Int) ((2 ^ a ||| 2 ^ m : Nat) : Int) = ((minus x.to (2 ^ a ||| 2 ^ m) : Nat) : Int) from by rw [u64_andNot_nat _ _ t64 p64]; rfl)
        have E3 := Lib.hid (b_or (S := minus x.to (2 ^ a ||| 2 ^ m)) (minus_lt t64) ha64)
        have HNX := Lib.hid (fun T (hT : fixTo a m x.to = T) => (show (wr.setCell ⟨g, k * 3 + 2, none⟩ (.int .u64 T)).ownsRow w0.heap.size 57 3 (.slice (some ⟨g, 0, none⟩) m q) m (flatN (mixK (movL l a) a m (k + 1))) from by
          have h1 := (hO.stored (k * 3 + 2) (.int .u64 T)).1
          rw [flatN_set (mix_at hx)] at h1
          have h2 := mix_next (at_ := a) (last := m) hx
          unfold fixN at h2
          rw [hT] at h2
          rw [h2] at h1
          exact h1))
        have HBN := Lib.hid (fun T => hB.far (p := ⟨g, k * 3 + 2, none⟩) hne (.int .u64 T))
        have HCN := Lib.hid (fun T => hC.setCell (p := ⟨g, k * 3 + 2, none⟩) (.inl (.inl rfl)) (.int .u64 T))
        have HFX := Lib.hid (show fixTo a m x.to = if x.to.testBit m = true ∧ a ≠ m then minus x.to (2 ^ a ||| 2 ^ m) ||| 2 ^ a else minus x.to (2 ^ a ||| 2 ^ m) from rfl)
        clear hO hB hC hx t64 p64 c0 f0
        obtain ⟨t, ht⟩ : ∃ t, x.to = t := ⟨_, rfl⟩
        rw [ht] at r2 HHA E2 E3 HNX HFX
        obtain ⟨mb, hmb⟩ : ∃ mb, t.testBit m = mb := ⟨_, rfl⟩
        rw [hmb] at HHA HFX
        clear ht hmb
        cases mb
        · have hfx : fixTo a m t = minus t (2 ^ a ||| 2 ^ m) := by rw [HFX.out, if_neg (by simp)]
          have HO9 := Lib.hid (HNX.out _ hfx)
          clear hfx
          go_wp2_with fail
          refine (HHA.out _).mono ?_
          rintro e w5 ⟨rfl, rfl⟩
          dsimp only
          go_wp2_with fail
          rw [E1.out, E2.out]
          exact ⟨⟨k + 1, by omega, by go_num, HO9.out, HBN.out _, HCN.out _⟩, by simp [intOf]; omega⟩
        · by_cases ham2 : a = m
          · have hfx : fixTo a m t = minus t (2 ^ a ||| 2 ^ m) := by rw [HFX.out, if_neg (by simp [ham2])]
            have HO9 := Lib.hid (HNX.out _ hfx)
            have dn : ((a : Int) != (m : Int)) = false := by simp [ham2]
            have dn' : (a != m) = false := by simp [ham2]
            clear hfx ham2
            go_wp2_with fail
            refine (HHA.out _).mono ?_
            rintro e w5 ⟨rfl, rfl⟩
            dsimp only
            go_wp2_with fail
            rw [E1.out, E2.out]
            exact ⟨⟨k + 1, by omega, by go_num, HO9.out, HBN.out _, HCN.out _⟩, by simp [intOf]; omega⟩
          · have hfx : fixTo a m t = minus t (2 ^ a ||| 2 ^ m) ||| 2 ^ a := by rw [HFX.out, if_pos ⟨rfl, ham2⟩]
            have HO9 := Lib.hid (HNX.out _ hfx)
            have dn : ((a : Int) != (m : Int)) = true := by simp; omega
            have dn' : (a != m) = true := by simp; omega
            clear hfx
            go_wp2_with fail
            refine (HHA.out _).mono ?_
            rintro e w5 ⟨rfl, rfl⟩
            dsimp only
            go_wp2_with fail
            rw [E1.out, E2.out, E3.out]
            exact ⟨⟨k + 1, by omega, by go_num, HO9.out, HBN.out _, HCN.out _⟩, by simp [intOf]; omega⟩
      · obtain rfl : k = m := by omega
        have hme := mix_end (L := movL l a) (at_ := a) (last := k)
        rw [HML.out] at hme
        rw [hme, ← HDL.out] at hO
        have HF := Lib.hid (HDRP.out wr hB hO hC)
        clear hlt hk hO hB hC hme c0 f0
        go_wp2_with fail
        go_ret
        exact ⟨rfl, HF.out⟩
end
end Go.Proofs.YtfcdplfnhjbdnabDoor
