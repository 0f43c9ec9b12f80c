/- All: the rising row of what a plan's map has. -/
import Derived.Test.YtbggadhaaphmcaaDoorMm
import Derived.Test.YtbggadhaaphmcaaDoorLibArgs
import Derived.Test.YtbggadhaaphmcaaDoorIter
import Derived.Maps.Ext
import Derived.Sort.KeysCollected
namespace Go.Proofs.YtbggadhaaphmcaaDoor
open Go.RowKit Go.Maps Go.Sort Go.Shelf
set_option linter.unusedVariables false

theorem strKeys_mem {D : DataW Value} (hs : ∃ es, D = .map es ∧ ∀ p ∈ es, KeysOf Tryd.prog 9 p.1) (k : List UInt8) : k ∈ strKeys D ↔ Maps.has D (.string k) = true := by
  obtain ⟨es, rfl, hk⟩ := hs
  rw [Maps.has_eq]
  unfold strKeys
  rw [List.mem_map, List.any_eq_true]
  constructor
  · rintro ⟨p, hp, rfl⟩
    refine ⟨p, hp, ?_⟩
    obtain ⟨v, hv⟩ := hk p hp
    obtain ⟨x, _, hx, _⟩ := Maps.keyOf_str Tryd.underlying9 hv
    rw [hx]
    simp [strOf, Lit.sameKey]
  · rintro ⟨p, hp, hpk⟩
    refine ⟨p, hp, ?_⟩
    obtain ⟨v, hv⟩ := hk p hp
    obtain ⟨x, _, hx, _⟩ := Maps.keyOf_str Tryd.underlying9 hv
    rw [hx] at hpk ⊢
    simpa [strOf, Lit.sameKey] using hpk
theorem strKeys_nodup {D : DataW Value} (hs : ∃ es, D = .map es ∧ ∀ p ∈ es, KeysOf Tryd.prog 9 p.1) (hc : Maps.Canon D) : (strKeys D).Nodup := by
  obtain ⟨es, rfl, hk⟩ := hs
  obtain ⟨es', he, hp, _⟩ := hc
  injection he with he
  subst he
  unfold strKeys
  have := Maps.apart_of_rising hp
  rw [List.Nodup, List.pairwise_map]
  refine (List.Pairwise.imp_of_mem (fun {p q} hp' hq' h => ?_) this)
  obtain ⟨v, hv⟩ := hk p hp'
  obtain ⟨v', hv'⟩ := hk q hq'
  obtain ⟨x, _, hx, _⟩ := Maps.keyOf_str Tryd.underlying9 hv
  obtain ⟨y, _, hy, _⟩ := Maps.keyOf_str Tryd.underlying9 hv'
  rw [hx, hy] at h ⊢
  intro e
  simp only [strOf] at e
  exact h (by rw [e])
theorem strKeys_len {D : DataW Value} (hs : ∃ es, D = .map es ∧ ∀ p ∈ es, KeysOf Tryd.prog 9 p.1) : ∀ k ∈ strKeys D, k.length ≤ maxLen := by
  obtain ⟨es, rfl, hk⟩ := hs
  intro k hkk
  unfold strKeys at hkk
  obtain ⟨p, hp, rfl⟩ := List.mem_map.1 hkk
  obtain ⟨v, hv⟩ := hk p hp
  obtain ⟨x, _, hx, hl⟩ := Maps.keyOf_str Tryd.underlying9 hv
  rw [hx]
  exact hl
theorem sort_rise {ss : List (List UInt8)} (hn : ss.Nodup) : (ss.mergeSort fun x y => decide (x ≤ y)).Pairwise (· < ·) := by
  have h1 := List.pairwise_mergeSort (le := fun x y : List UInt8 => decide (x ≤ y)) (fun a b c h h' => by simp at h h' ⊢; exact List.le_trans h h') (fun a b => by simpa using List.le_total a b) ss
  have h2 : (ss.mergeSort fun x y => decide (x ≤ y)).Nodup := (List.mergeSort_perm _ _).nodup_iff.2 hn
  refine (List.Pairwise.and h1 h2).imp fun {a b} ⟨hle, hne⟩ => ?_
  simp at hle
  rcases Classical.em (a < b) with h | h
  · exact h
  · exact absurd (List.le_antisymm hle (List.not_lt.1 h)) hne
/-- The row of the keys with what f tells. -/
def rowF (f : Has) (ks : List Txt) : Wl := ks.map fun k => (mkT k, vOf (f k))
theorem rowF_len (f : Has) (ks : List Txt) : (rowF f ks).length = ks.length := List.length_map _
theorem mkT_data (k : Txt) : (mkT k).data.toList = k := by simp [mkT]
theorem rowF_sorted {f : Has} {ks : List Txt} (h1 : ks.Pairwise (· < ·)) (h2 : ∀ k, k ∈ ks ↔ f k ≠ none) : SortedW (rowF f ks) f := by
  refine ⟨?_, fun k v => ?_⟩
  · unfold rowF
    rw [List.pairwise_map]
    exact h1.imp fun {a b} h => by simpa [kOf, mkT_data] using h
  · unfold rowF
    rw [List.mem_map]
    constructor
    · rintro ⟨x, hx, he⟩
      injection he with he1 he2
      subst he1 he2
      rw [mkT_data]
      have := (h2 x).1 hx
      rcases hf : f x with _ | u
      · exact absurd hf this
      · rfl
    · intro hf
      exact ⟨k.data.toList, (h2 _).2 (by rw [hf]; simp), by rw [hf]; exact Prod.ext (key_inj (mkT_data _)) rfl⟩
theorem rowF_take {f : Has} {ks : List Txt} {j : Nat} {k : Txt} (h : ks[j]? = some k) : rowF f (ks.take (j + 1)) = rowF f (ks.take j) ++ [(mkT k, vOf (f k))] := by
  have hj := lt_of_some h
  rw [List.take_succ_eq_append_getElem hj]
  rw [List.getElem?_eq_getElem hj] at h
  injection h with h
  simp [rowF, h]
section
variable {w : World} {mb n : Nat} {D : DataW Value} {f : Has}
theorem MP.size_le (h : MP w mb n D f) : Maps.size D ≤ n := by
  obtain ⟨es, clock, _, F, hs, rfl⟩ := h.map
  rw [Maps.size_eq, length_sorted]
  simpa using hs
theorem MP.keys (h : MP w mb n D f) {ss : List (List UInt8)} (hp : ss.Perm (strKeys D)) : ((ss.mergeSort fun x y => decide (x ≤ y)).Pairwise (· < ·) ∧ ∀ k, k ∈ (ss.mergeSort fun x y => decide (x ≤ y)) ↔ f k ≠ none) ∧
    (ss.mergeSort fun x y => decide (x ≤ y)).length ≤ n ∧ ∀ k ∈ (ss.mergeSort fun x y => decide (x ≤ y)), k.length ≤ maxLen := by
  have hk := h.map.keysOf
  refine ⟨⟨sort_rise (hp.nodup_iff.2 (strKeys_nodup hk (h.map.canon keyed9))), fun k => ?_⟩, ?_, fun k hkk => ?_⟩
  · rw [List.mem_mergeSort, hp.mem_iff, strKeys_mem hk, h.has]
  · rw [List.length_mergeSort, hp.length_eq]
    have := h.size_le
    obtain ⟨es, rfl, _⟩ := hk
    simpa [strKeys, Maps.size_eq] using this
  · rw [List.mem_mergeSort, hp.mem_iff] at hkk
    exact strKeys_len hk k hkk
end
theorem own_mono {w : World} {B B' size n : Nat} {e : TypeId} {v : Value} {xs : List Value} (h : w.ownsRow B e size v n xs) (hB : B' ≤ B) : w.ownsRow B' e size v n xs := by
  refine ⟨h.1, ?_⟩
  rcases h.2 with h2 | ⟨g, cap, cur, rfl, hg, hh, r⟩
  · exact .inl h2
  · exact .inr ⟨g, cap, cur, rfl, by omega, hh, r⟩
theorem own_lt {w : World} {B size n : Nat} {e : TypeId} {v : Value} {xs : List Value} (h : w.ownsRow B e size v n xs) {g : Nat} (hg : v.ownBlock = some g) : B ≤ g ∧ g < w.heap.size := by
  rcases h.2 with ⟨rfl, _⟩ | ⟨g', cap, cur, rfl, hB, hh, _⟩
  · simp [Value.ownBlock] at hg
  · simp [Value.ownBlock] at hg
    subst hg
    exact ⟨hB, Blk.lt hh⟩
theorem write_info : (Tryd.prog.info? 101).map (fun i => (i.zero, i.size, i.bytes)) = some (some (.agg #[.string ⟨#[]⟩, .string ⟨#[]⟩, .bool false]), 3, 40) := by kernel_rfl
theorem keys_any (mb : Option Nat) (W : World) : Calls Tryd.prog 59 #[.map mb] W fun e w' => e = .returned (.func (.func 77) #[] #[.pointer (some ⟨W.heap.size, 0, none⟩)]) ∧ w' = W.alloc (.cells #[.map mb] 92) := callsIn_wide.1 (Tryd.maps_Keys_59 mb W)
set_option maxRecDepth 100000 in
set_option maxHeartbeats 1000000 in
theorem All_any {w0 w : World} {pb n : Nat} {f : Has} (h : KM w0 pb n f w) (hn : n ≤ 100000) :
    Calls Tryd.prog 22 #[.pointer (some ⟨pb, 0, none⟩)] w fun e w' => ∃ (A : Option Addr) (c : Nat) (L : Wl), e = .returned (.slice A L.length c) ∧ SortedW L f ∧ L.length ≤ n ∧ w'.ownsRow w.heap.size 101 3 (.slice A L.length c) L.length (flatW L) ∧ NewW w w' := by
  obtain ⟨mb, D, hm⟩ := h.pm
  have hsz := hm.mp.size_le
  have hmax : Maps.size D ≤ maxLen := by unfold maxLen; omega
  have hbytes : Maps.size D * 16 ≤ 140737488355328 := by omega
  have HKA := Lib.hid (keys_any (some mb) w)
  have HSO := Lib.hid (callsIn_wide.1 (Tryd.slices_Sorted_keys_58_59 mb n D RH w hm.mp.map hmax hbytes))
  have HK := Lib.hid (fun (ss : List (List UInt8)) (hp : ss.Perm (strKeys D)) => hm.mp.keys hp)
  have HM := Lib.hid hm
  have c0 := hm.c0
  obtain ⟨i1, hi1, hy0, hy1, hy2⟩ := info_parts write_info
  clear hm h hmax hbytes hsz
  go_enter Tryd.func22, Tryd.ntmps22
  go_wp2_with fail
  refine HKA.out.mono ?_
  rintro e w1 ⟨rfl, rfl⟩
  dsimp only
  go_wp2_with fail
  refine HSO.out.mono ?_
  rintro e w2 ⟨v, ss, rfl, hS, hrow, hnil, hb⟩
  obtain ⟨⟨q1, q2⟩, q3, q4⟩ := HK.out ss hS
  have hrow' := own_mono hrow (show w.heap.size ≤ (w.alloc (.cells #[.map (some mb)] 92)).heap.size by simp)
  have hlen : ss.length = (ss.mergeSort fun x y => decide (x ≤ y)).length := (List.length_mergeSort _).symm
  rw [hlen] at hrow'
  have HN2 := Lib.hid (((Ch.refl _ w).alloc (.cells #[.map (some mb)] 92)).trans' (Ch.of_below hb fun k hk _ => hk) : NewW w w2)
  generalize (ss.mergeSort fun x y => decide (x ≤ y)) = ks at *
  obtain ⟨A, c, hv⟩ := own_form hrow'
  subst hv
  have HR := Lib.hid hrow'
  have HL := Lib.hid q4
  have HSR := Lib.hid (rowF_sorted q1 q2)
  have hkn : ks.length ≤ 100000 := by omega
  have HKN := Lib.hid q3
  clear hS hrow hnil hb q1 q2 q3 q4 hrow' hlen HK HSO HKA
  dsimp only
  generalize hNN : ks.length = N at *
  have HNN := Lib.hid hNN
  clear hNN
  go_wp2_with fail
  go_loopw [3, 15] (fun ov i w' => ∃ k : Nat, k ≤ N ∧ i = .int .i64 k ∧ w'.ownsRow w2.heap.size 101 3 ov (rowF f (ks.take k)).length (flatW (rowF f (ks.take k))) ∧ NewW w2 w') (fun _ i _ => N - (intOf i).toNat)
  case atStart => exact ⟨0, by omega, rfl, ⟨by simp [rowF, flatW], .inl ⟨by simp, by simp [rowF]⟩⟩, Ch.refl _ _⟩
  case round =>
    obtain ⟨k, hk, rfl, hO, hC⟩ := hrel
    obtain ⟨A7, q7, rfl⟩ := own_form hO
    have HO7 := Lib.hid hO
    have HC := Lib.hid hC
    by_cases hlt : k < N
    · obtain ⟨x, hx⟩ := some_of_lt (L := ks) (i := k) (by rw [HNN.out]; exact hlt)
      have hrow := own_ch HR.out hC (fun _ _ h => h)
      obtain ⟨g, qq, hv, _, _⟩ := hrow.form (by omega)
      injection hv with hv _ _
      subst hv
      have hcell := hrow.cells (g := g) rfl k (.string (mkT x)) (by rw [List.getElem?_map, hx]; rfl)
      rw [add_mk, Nat.zero_add] at hcell
      have hxl : (mkT x).size ≤ maxLen := by rw [← size_len, mkT_data]; exact HL.out x (mem_of_some hx)
      have hM := HM.out.new_ (HN2.out.trans' hC)
      have hlk := hM.mp.look hxl
      rw [mkT_data] at hlk
      have c1 := hM.c0
      have HS := Lib.hid (rowF_take (f := f) hx)
      have hfl : (rowF f (ks.take k)).length = k := by rw [rowF_len, List.length_take, HNN.out]; omega
      generalize hF : rowF f (ks.take k) = F at *
      obtain ⟨V, hV⟩ : ∃ V, vOf (f x) = V := ⟨_, rfl⟩
      obtain ⟨HB, hHB⟩ : ∃ HB, hOf (f x) = HB := ⟨_, rfl⟩
      rw [hV, hHB] at hlk
      rw [hV] at HS
      generalize mkT x = kb at *
      have HFL := Lib.hid hfl
      rw [hfl] at HO7 ⊢
      have hB7 := HC.out.size
      have hfd : ∀ w' : World, (Instr.field 45 (.agg #[.string V, .bool HB]) 0).run Tryd.prog w' = .ok (.string V) w' := fun _ => by kernel_rfl
      clear hO hC hx hF hfl hrow hM hV hHB hxl
      go_wp2_with (first
        | (at_builtin
           refine wpList_append_any _ rfl (.tmp 19) (.tmp 29) _ rfl w2.heap.size 101 i1 _ 3 40 Tryd.underlying28 hi1 hy0 hy1 hy2 rfl (by omega) _ k (flatW F) rfl
             (own_ch HO7.out ((Ch.refl (fun _ => False) _).alloc _) (fun _ _ h => h)) (wr.heap.size + 1) (some ⟨wr.heap.size, 0, none⟩) 1 1 [.string kb, .string V, .bool true] rfl (reads_new wr 101 #[.string kb, .string V, .bool true] 1 3 rfl) (by simp [Value.oneCell']) (by simp only [maxLen]; omega) (by omega) (by simp; omega) ?_
           intro v8 w8 hown8 hg8 hat8
           have HOA := Lib.hid hown8
           have HG8 := Lib.hid hg8
           clear hown8 hg8 hat8))
      refine ⟨⟨_, _, _, ⟨k + 1, by omega, by go_num, ?_, ((HC.out : Ch (fun _ => False) w2 wr).alloc _).grown HG8.out (fun g hg => .inr (own_lt HO7.out hg).1)⟩, rfl, rfl, rfl⟩, by simp [intOf]; omega⟩
      rw [HS.out, flatW_snoc, List.length_append, HFL.out]
      exact HOA.out
    · obtain rfl : N = k := by omega
      have HFT := Lib.hid (show ks.take N = ks from by rw [← HNN.out, List.take_length])
      rw [HFT.out] at HO7
      have hfl : (rowF f ks).length = N := by rw [rowF_len, HNN.out]
      rw [HFT.out, hfl]
      rw [hfl] at HO7
      have HFL := Lib.hid hfl
      clear hO hC hlt hk hfl
      go_wp2_with fail
      go_ret
      refine ⟨A7, q7, rowF f ks, by rw [HFL.out]; rfl, HSR.out, by rw [HFL.out]; exact HKN.out, ?_, HN2.out.trans' HC.out⟩
      rw [HFL.out]
      exact own_mono HO7.out HN2.out.size
end Go.Proofs.YtbggadhaaphmcaaDoor
