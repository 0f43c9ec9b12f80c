/- Keys and Versions. -/
import Derived.Test.YtfcdplfnhjbdnaaTw
namespace Go.Proofs.Ytfcdplfnhjbdnaa
open Go.RowKit Go.Maps
set_option linter.unusedVariables false

theorem str_info : (Try.prog.info? 9).map (fun i => (i.zero, i.size, i.bytes)) = some (some (.string ⟨#[]⟩), 1, 16) := by kernel_rfl
/-- The keys that have a value at a moment. -/
def keysAt (s : CS) (m : Int) (ks : List (List UInt8)) : List (List UInt8) := if m < s.floor then [] else ks.filter fun k => (valOf (s.f k) m).2
theorem filter_next {α : Type} (p : α → Bool) (ks : List α) {j : Nat} {k : α} (h : ks[j]? = some k) : (ks.take (j + 1)).filter p = (ks.take j).filter p ++ (if p k then [k] else []) := by
  rw [List.take_add_one, h, Option.toList_some, List.filter_append]
  congr 1
  by_cases e : p k <;> simp [e]
section
variable {w : World} {B cb mb n : Nat} {D : DataW Value} {V : List UInt8 → Value} {s : CS}
set_option maxRecDepth 100000 in
set_option maxHeartbeats 8000000 in
theorem keys_any (h : CM w B cb mb n D V s) (hn : n ≤ 1000000) (hg : Good s) (hl : ∀ k, (s.f k).length ≤ 1000000) (m : Int) :
    Calls Try.prog 19 #[.pointer (some ⟨cb, 0, none⟩), .int .i64 m] w fun e w' => ∃ (A : Option Addr) (c : Nat) (ks : List (List UInt8)), KeysIn s ks ∧ e = .returned (.slice A (keysAt s m ks).length c) ∧
      w'.ownsRow w.heap.size 9 1 (.slice A (keysAt s m ks).length c) (keysAt s m ks).length ((keysAt s m ks).map encStr) ∧ (∀ k ∈ ks, k.length ≤ maxLen) ∧ NewW w w' := by
  have c2 := h.c2
  have HS := Lib.hid (sorted_any h hn)
  by_cases h1 : m < s.floor
  · -- the keys are of no account here, yet there are some
    have d1 : decide (m < s.floor) = true := by simpa using h1
    obtain ⟨ks, hks, hkl⟩ : ∃ ks, KeysIn s ks ∧ ∀ k ∈ ks, k.length ≤ maxLen := ⟨_, (h.keys (List.Perm.refl _)).1, (h.keys (List.Perm.refl _)).2.2⟩
    have HF := Lib.hid (show ∃ (A : Option Addr) (c : Nat) (ks : List (List UInt8)), KeysIn s ks ∧ (.returned (.slice none 0 0) : Ending) = .returned (.slice A (keysAt s m ks).length c) ∧
      w.ownsRow w.heap.size 9 1 (.slice A (keysAt s m ks).length c) (keysAt s m ks).length ((keysAt s m ks).map encStr) ∧ (∀ k ∈ ks, k.length ≤ maxLen) ∧ NewW w w from
        ⟨none, 0, ks, hks, by unfold keysAt; rw [if_pos h1]; rfl, by unfold keysAt; rw [if_pos h1]; exact ⟨rfl, .inl ⟨rfl, rfl⟩⟩, hkl, Ch.refl _ _⟩)
    clear h HS hks hkl h1 hg hl
    generalize s.floor = F at *
    go_enter Try.func19, Try.ntmps19
    go_wp2_with fail
    go_ret
    exact HF.out
  · have d1 : decide (m < s.floor) = false := by simpa using h1
    have HKA := Lib.hid (fun ks => (show keysAt s m ks = ks.filter fun k => (valOf (s.f k) m).2 from by unfold keysAt; rw [if_neg h1]))
    have HM := Lib.hid h
    obtain ⟨i0, hi0, hz0, hz1, hz2⟩ := info_parts str_info
    clear h h1
    generalize s.floor = F at *
    go_enter Try.func19, Try.ntmps19
    go_wp2_with fail
    refine HS.out.mono ?_
    rintro e w1 ⟨A, c, ks, rfl, hrow, hkeys, hlen, hkl, hN1⟩
    dsimp only
    have HR1 := Lib.hid hrow
    have HKS := Lib.hid hkeys
    have HKL := Lib.hid hkl
    have HN1 := Lib.hid hN1
    have hsz1 : w.heap.size ≤ w1.heap.size := hN1.size
    clear hrow hkeys hkl hN1 HS c2 d1
    go_wp2_with fail
    go_loopw [5, 23] (fun o i w' => ∃ j : Nat, j ≤ ks.length ∧ i = .int .i64 j ∧ (∃ kk, kk = (ks.take j).filter (fun k => (valOf (s.f k) m).2) ∧ kk.length ≤ j ∧ w'.ownsRow w1.heap.size 9 1 o kk.length (kk.map encStr)) ∧ NewW w1 w') (fun _ i _ => ks.length - (intOf i).toNat)
    case atStart => exact ⟨0, by omega, rfl, ⟨[], by simp, by simp, ⟨rfl, .inl ⟨rfl, rfl⟩⟩⟩, Ch.refl _ _⟩
    case round =>
      obtain ⟨j, hj, rfl, ⟨kk, hkk, hkn, hout⟩, hC⟩ := hrel
      have hM := HM.out.new_ (HN1.out.trans' hC)
      by_cases hlt : j < ks.length
      · obtain ⟨k, hk⟩ := some_of_lt hlt
        have hrow := own_ch HR1.out hC (fun _ _ h => h)
        obtain ⟨kb, hkb⟩ : ∃ kb : ByteArray, kb = ⟨k.toArray⟩ := ⟨_, rfl⟩
        have hkd : kb.data.toList = k := by rw [hkb]
        have hkm : kb.size ≤ maxLen := by
          have := HKL.out k (mem_of_some hk)
          rw [hkb]; simpa [ByteArray.size] using this
        obtain ⟨gk, qk, hvk, _, _⟩ := hrow.form (by omega)
        injection hvk with hvk _ hqk
        subst hvk hqk
        have hck := hrow.cells (g := gk) rfl j (.string kb) (by rw [List.getElem?_map, hk, hkb]; rfl)
        rw [add_mk, Nat.zero_add] at hck
        have hlk := hM.look hkm
        rw [hkd] at hlk
        have hrk := hM.row k
        obtain ⟨A2, q2, hv2⟩ := own_form hrk
        rw [hv2] at hlk hrk
        have HG := Lib.hid (value_any A2 q2 (s.f k) m wr (own_rdv hrk) (hg.rise k) (hl k))
        have HFN := Lib.hid (filter_next (fun k => (valOf (s.f k) m).2) ks hk)
        have hencs : encStr k = .string kb := by rw [hkb]
        have c0 := hM.c0
        have HO := Lib.hid hout
        have HC := Lib.hid hC
        have HKK := Lib.hid hkk
        have hsz2 : w1.heap.size ≤ wr.heap.size := hC.size
        clear hM hC hout hrow hk hkb hkd hkm hv2 hrk hkk
        obtain ⟨vo, hvo⟩ : ∃ vo, valOf (s.f k) m = vo := ⟨_, rfl⟩
        rw [hvo] at HG
        have HVO := Lib.hid hvo
        clear hvo
        generalize (s.f k).length = NN at *
        obtain ⟨vv, vh⟩ := vo
        simp only at HG HVO
        cases vh
        · go_wp2_with (go_at_call 30; refine HG.out.mono ?_; rintro e w2 ⟨rfl, hN2⟩; have HN2 := Lib.hid hN2; clear hN2)
          refine ⟨⟨j + 1, by omega, by go_num, ⟨kk, by rw [HFN.out, ← HKK.out, HVO.out]; simp, by omega, own_ch HO.out HN2.out (fun _ _ h => h)⟩, HC.out.trans' HN2.out⟩, by simp [intOf]; omega⟩
        · go_wp2_with (first
            | (go_at_call 30; refine HG.out.mono ?_; rintro e w2 ⟨rfl, hN2⟩; have hsz3 := Nat.le_trans hsz2 (Ch.size hN2); have HO2 := Lib.hid (own_ch HO.out hN2 (fun _ _ h => h)); have HN2 := Lib.hid hN2; clear hN2)
            | (at_builtin
               refine wpList_append_any _ rfl (.tmp 39) (.tmp 41) _ rfl w1.heap.size 9 i0 _ 1 16 Try.underlying44 hi0 hz0 hz1 hz2 rfl (by omega) _ kk.length (kk.map encStr) rfl
                 (own_ch HO2.out ((Ch.refl (fun _ => False) _).alloc _) (fun _ _ h => h)) (w2.heap.size + 1) (some ⟨w2.heap.size, 0, none⟩) 1 1 [.string kb] rfl (reads_one _ _ _) (by simp [Value.oneCell']) (by simp only [maxLen]; omega) (by omega) (by simp; omega) ?_
               intro v7 w7 hown7 hg7 hat7
               have HO7 := Lib.hid hown7
               have HG7 := Lib.hid hg7
               clear hown7 hg7 hat7))
          refine ⟨⟨j + 1, by omega, by go_num, ⟨kk ++ [k], by rw [HFN.out, ← HKK.out, HVO.out]; simp, by simp; omega, by rw [List.length_append, List.map_append, List.map_cons, List.map_nil, hencs]; exact HO7.out⟩,
            ((HC.out.trans' HN2.out).alloc _).grown HG7.out (fun q hq => .inr (own_lt HO2.out hq).1)⟩, by simp [intOf]; omega⟩
      · obtain rfl : j = ks.length := by omega
        have hka := HKA.out ks
        rw [List.take_length] at hkk
        rw [← hkk] at hka
        obtain ⟨A9, c9, hv9⟩ := own_form hout
        subst hv9
        have HF := Lib.hid (show ∃ (A : Option Addr) (c : Nat) (ks : List (List UInt8)), KeysIn s ks ∧ (.returned (.slice A9 kk.length c9) : Ending) = .returned (.slice A (keysAt s m ks).length c) ∧
          wr.ownsRow w.heap.size 9 1 (.slice A (keysAt s m ks).length c) (keysAt s m ks).length ((keysAt s m ks).map encStr) ∧ (∀ k ∈ ks, k.length ≤ maxLen) ∧ NewW w wr from
            ⟨A9, c9, ks, HKS.out, by rw [hka], by rw [hka]; exact own_mono hout hsz1, HKL.out, HN1.out.trans' hC⟩)
        clear hM hC hout hka hkk hlt hj
        go_wp2_with fail
        go_ret
        exact HF.out
theorem versions_any (h : CM w B cb mb n D V s) {key : ByteArray} (hk : key.size ≤ maxLen) (hl : (s.f key.data.toList).length ≤ 1000000) :
    Calls Try.prog 24 #[.pointer (some ⟨cb, 0, none⟩), .string key] w fun e w' => ∃ A c, e = .returned (.slice A (s.f key.data.toList).length c) ∧ w'.ownsRow w.heap.size 66 3 (.slice A (s.f key.data.toList).length c) (s.f key.data.toList).length (flatV (s.f key.data.toList)) ∧ NewW w w' := by
  have hlk := h.look hk
  have hrow := h.row key.data.toList
  obtain ⟨A, c, hv⟩ := own_form hrow
  rw [hv] at hlk hrow
  have c0 := h.c0
  clear hv h
  generalize s.f key.data.toList = l at *
  have hcl : Calls Try.prog 28 #[.slice A l.length c] w fun e w' => ∃ A' c', e = .returned (.slice A' l.length c') ∧ w'.ownsRow w.heap.size 66 3 (.slice A' l.length c') l.length (flatV l) ∧ NewW w w' := by
    rcases hrow.2 with ⟨hv, h0⟩ | ⟨g, cap, cur, hv, _⟩
    · injection hv with hA hn hq
      subst hA
      obtain rfl : l = [] := List.eq_nil_of_length_eq_zero h0
      exact (clone_none _ _ w).mono fun e w' ⟨q1, q2⟩ => ⟨none, 0, q1, ⟨rfl, .inl ⟨rfl, rfl⟩⟩, by subst q2; exact Ch.refl _ _⟩
    · injection hv with hA hn hq
      subst hA
      refine (clone_some g 0 c l w hl (fun i v hv => ?_)).mono fun e w' ⟨v', q1, q2, q3⟩ => ?_
      · obtain ⟨g', off', hA, a⟩ := (own_rdv hrow).at_ hv
        injection hA with hA
        injection hA with hA1 hA2
        subst hA1 hA2
        exact a
      · obtain ⟨A', c', rfl⟩ := own_form q2
        exact ⟨A', c', q1, q2, Ch.of_below q3 (fun k hk _ => hk)⟩
  have HCL := Lib.hid hcl
  clear hcl hrow
  generalize l.length = N at *
  go_enter Try.func24, Try.ntmps24
  go_wp2_with (go_at_call 28; refine HCL.out.mono ?_; rintro e w2 ⟨A', c', rfl, ho, hN⟩; have HO := Lib.hid ho; have HN := Lib.hid hN; clear ho hN)
  go_ret
  exact ⟨A', c', rfl, HO.out, HN.out⟩
end
end Go.Proofs.Ytfcdplfnhjbdnaa
