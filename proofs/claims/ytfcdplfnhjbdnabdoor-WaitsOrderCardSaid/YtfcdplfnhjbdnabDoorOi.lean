/- Oldest, Nodes, Victims: the walks. -/
import Derived.Test.YtfcdplfnhjbdnabDoorCy
import Derived.Sort.OwnSortedInts
namespace Go.Proofs.YtfcdplfnhjbdnabDoor
open Go.RowKit Go.Sort
set_option linter.unusedVariables false

theorem info_parts {t : TypeId} {z : Option Value} {a b : Nat} (h : (Tryd.prog.info? t).map (fun i => (i.zero, i.size, i.bytes)) = some (z, a, b)) : ∃ i, Tryd.prog.info? t = some i ∧ i.zero = z ∧ i.size = a ∧ i.bytes = b := by
  obtain ⟨i, h1, h2⟩ := Option.map_eq_some_iff.1 h
  injection h2 with h2 h3
  injection h3 with h3 h4
  exact ⟨i, h1, h2, h3, h4⟩
theorem int_info : (Tryd.prog.info? 3).map (fun i => (i.zero, i.size, i.bytes)) = some (some (.int .i64 0), 1, 8) := by kernel_rfl
abbrev sortI (zs : List Int) : List Int := zs.mergeSort fun x y => decide (x ≤ y)
abbrev ints (zs : List Int) : List Value := zs.map (Value.int .i64)
theorem sort_any {base n cap : Nat} {A : Option Addr} {zs : List Int} {w : World} (h : w.ownsRow base 3 1 (.slice A n cap) n (ints zs)) (hn : n ≤ 1000000) :
    Calls Tryd.prog 39 #[.slice A n cap] w fun e w' =>
      e = .returned (.tuple #[]) ∧ w'.ownsRow base 3 1 (.slice A n cap) n (ints (sortI zs)) ∧ Ch (fun k => (Value.slice A n cap).ownBlock = some k) w w' := by
  have hlen := h.1
  rcases h.2 with ⟨h0, h1⟩ | ⟨g', cap', cur, hv, hg, hb, hnc, hcm, hcs, hcur⟩
  · injection h0 with hA hn' hq
    subst hA hn' hq
    obtain rfl : zs = [] := by simpa [ints] using hlen
    refine (Tryd.slices_Sort_int_none none 0 w).mono ?_
    rintro e w' ⟨he, rfl⟩
    exact ⟨he, by simpa [sortI, ints] using h, Ch.refl _ _⟩
  · injection hv with hA hn' hq
    subst hA hq
    have hzl : zs.length = n := by simpa [ints] using hlen
    subst hzl
    have hcur' : cur.toList.take zs.length = zs.map (Value.int .i64) := by simpa using hcur
    have hlt : g' < w.heap.size := Blk.lt (t := 3) hb
    refine (Tryd.slices_Sort_int g' 0 cap zs w (holds_of_blockI hb hcur') hlt (by omega)).mono ?_
    rintro e w' ⟨he, k, os, rfl⟩
    refine ⟨he, ownsRow_sortedI (by simp) hg hb hnc hcm hcs, ?_⟩
    have := grownBy_sortedI (w := w) (g := g') (n := k) (os := os) ((zs.mergeSort fun x y => decide (x ≤ y)).toArray)
    exact (Ch.of_grown this).mono fun j hj => by injection hj with hj; subst hj; rfl
theorem own_new {w w' w'' : World} {base n cap : Nat} {A : Option Addr} {e : TypeId} {xs : List Value} (h : w'.ownsRow base e 1 (.slice A n cap) n xs) (hb : w.heap.size ≤ base) (h1 : NewW w w') (h2 : Ch (fun k => (Value.slice A n cap).ownBlock = some k) w' w'') : NewW w w'' :=
  Ch.trans h1 h2 fun k hk => .inr (by
    rcases h.2 with ⟨h0, _⟩ | ⟨g', cap', cur, hv, hg, _⟩
    · rw [h0] at hk; simp [Value.ownBlock] at hk
    · rw [hv] at hk; simp [Value.ownBlock] at hk; omega)
theorem own_lt {w : World} {B size n : Nat} {e : TypeId} {v : Value} {xs : List Value} (h : w.ownsRow B e size v n xs) {g : Nat} (hg : v.ownBlock = some g) : B ≤ g ∧ g < w.heap.size := by
  rcases h.2 with ⟨rfl, _⟩ | ⟨g', cap, cur, rfl, hB, hh, _⟩
  · simp [Value.ownBlock] at hg
  · simp [Value.ownBlock] at hg
    subst hg
    exact ⟨hB, Blk.lt hh⟩
/-! ### Nodes -/
def idAt (l : List Nd) (i : Nat) : Int := (l.getD i ⟨0, 0, 0⟩).id
theorem idAt_of {l : List Nd} {i : Nat} {x : Nd} (h : l[i]? = some x) : idAt l i = x.id := by
  unfold idAt
  rw [List.getD_eq_getElem?_getD, h]; rfl
theorem take_map {α β : Type} (f : α → β) {l : List α} {k : Nat} {x : α} (h : l[k]? = some x) : (l.take (k + 1)).map f = (l.take k).map f ++ [f x] := by
  rw [List.take_add_one, h, List.map_append]; rfl
theorem ints_snoc (zs : List Int) (z : Int) : ints (zs ++ [z]) = ints zs ++ [.int .i64 z] := by simp [ints]
set_option maxHeartbeats 1000000 in
theorem nodes_any {w : World} {B b : Nat} {l : List Nd} {v : Value} (h : GM w B b l v) :
    Calls Tryd.prog 15 #[.pointer (some ⟨b, 0, none⟩)] w fun e w' => ∃ A c, e = .returned (.slice A l.length c) ∧ w'.ownsRow w.heap.size 3 1 (.slice A l.length c) l.length (ints (sortI (l.map Nd.id))) ∧ NewW w w' := by
  obtain ⟨A, q, rfl⟩ := own_form h.own
  have c0 := h.c0
  have h64 := h.ok.len
  have HH := Lib.hid h
  obtain ⟨i1, hi1, hy0, hy1, hy2⟩ := info_parts int_info
  clear h
  generalize hn : l.length = n at *
  have HN := Lib.hid hn
  clear hn
  have hmax : (n : Int) ≤ 64 := by omega
  go_enter Tryd.func15, Tryd.ntmps15
  go_wp2_with fail
  go_loopw [3, 13] (fun o i w' => ∃ k : Nat, k ≤ n ∧ i = .int .i64 k ∧ w'.ownsRow w.heap.size 3 1 o k (ints ((l.take k).map Nd.id)) ∧ NewW w w') (fun _ i _ => n - (intOf i).toNat)
  case atStart => exact ⟨0, by omega, rfl, ⟨rfl, .inl ⟨rfl, rfl⟩⟩, Ch.refl _ _⟩
  case round =>
    obtain ⟨k, hk, rfl, hO, hC⟩ := hrel
    obtain ⟨A', c', rfl⟩ := own_form hO
    have HC := Lib.hid hC
    have HO := Lib.hid hO
    have hsz := hC.size
    by_cases hlt : k < n
    · obtain ⟨x, hx⟩ := some_of_lt (L := l) (i := k) (by rw [HN.out]; exact hlt)
      obtain ⟨g, cap, hv, r0, r1, r2⟩ := (HH.out.new_ hC).at_ hx
      injection hv with hA hn hq
      subst hA
      have HT := Lib.hid (take_map Nd.id hx)
      clear hC hO hx hn hq
      go_wp2_with (first
        | (at_builtin
           refine wpList_append_any _ rfl (.tmp 17) (.tmp 20) _ rfl w.heap.size 3 i1 _ 1 8 Tryd.underlying31 hi1 hy0 hy1 hy2 rfl (by omega) _ k (ints ((l.take k).map Nd.id)) rfl
             (own_ch HO.out (((Ch.refl (fun _ => False) _).alloc _).alloc _) (fun _ _ h => h)) (wr.heap.size + 1 + 1) (some ⟨wr.heap.size + 1, 0, none⟩) 1 1 [.int .i64 x.id] rfl (by
               have := reads_new (wr.alloc (.cells #[.int .i64 x.id, .int .i64 x.st, .int .u64 x.to] 57)) 3 #[.int .i64 x.id] 1 1 rfl
               simpa using this) (by simp [Value.oneCell']) (by simp only [maxLen]; omega) (by omega) (by simp; omega) ?_
           intro v7 w7 hown7 hg7 hat7
           have HO7 := Lib.hid hown7
           have HG7 := Lib.hid hg7
           clear hown7 hg7 hat7))
      refine ⟨⟨k + 1, by omega, by go_num, ?_, ((HC.out.alloc _).alloc _).grown HG7.out (fun g hg => .inr (own_lt HO.out hg).1)⟩, by simp [intOf]; omega⟩
      rw [HT.out, ints_snoc]
      exact HO7.out
    · obtain rfl : k = n := by omega
      rw [← HN.out, List.take_length, HN.out] at hO
      have HS := Lib.hid (sort_any hO (by omega))
      have HO2 := Lib.hid hO
      clear hlt hk hO hC
      go_wp2_with fail
      refine HS.out.mono ?_
      rintro e w2 ⟨rfl, ho2, hc2⟩
      have HF := Lib.hid (own_new HO2.out (Nat.le_refl _) HC.out hc2)
      have HO3 := Lib.hid ho2
      clear ho2 hc2
      dsimp only
      go_wp2_with fail
      go_ret
      exact ⟨A', c', rfl, HO3.out, HF.out⟩
/-! ### Victims -/
noncomputable def vict (l : List Nd) (i : Nat) : Bool := match l[i]? with
  | some y => (fromG l (eldK l y l.length) i).testBit i
  | none => false
noncomputable def vicK (l : List Nd) (k : Nat) : List Int := ((List.range k).filter (vict l)).map (idAt l)
theorem vicK_step {l : List Nd} {k : Nat} {x : Nd} (h : l[k]? = some x) : vicK l (k + 1) = vicK l k ++ (if vict l k then [x.id] else []) := by
  unfold vicK
  rw [List.range_succ, List.filter_append, List.map_append]
  congr 1
  by_cases hv : vict l k = true
  · rw [if_pos hv]; simp [hv, idAt_of h]
  · rw [if_neg hv]; simp [hv]
theorem vicK_len (l : List Nd) (k : Nat) : (vicK l k).length ≤ k := by
  unfold vicK
  rw [List.length_map]
  exact Nat.le_trans (List.length_filter_le _ _) (by simp)
set_option maxHeartbeats 1000000 in
theorem victims_any {w : World} {B b : Nat} {l : List Nd} {v : Value} (h : GM w B b l v) (hT : Tab w) :
    Calls Tryd.prog 11 #[.pointer (some ⟨b, 0, none⟩)] w fun e w' => ∃ A c, e = .returned (.slice A (vicK l l.length).length c) ∧ w'.ownsRow w.heap.size 3 1 (.slice A (vicK l l.length).length c) (vicK l l.length).length (ints (sortI (vicK l l.length))) ∧ NewW w w' := by
  obtain ⟨A, q, rfl⟩ := own_form h.own
  have c0 := h.c0
  have h64 := h.ok.len
  have HH := Lib.hid h
  have HT := Lib.hid hT
  obtain ⟨i1, hi1, hy0, hy1, hy2⟩ := info_parts int_info
  clear h hT
  generalize hn : l.length = n at *
  have HN := Lib.hid hn
  clear hn
  have hmax : (n : Int) ≤ 64 := by omega
  go_enter Tryd.func11, Tryd.ntmps11
  go_wp2_with fail
  go_loopw [3, 13] (fun o i w' => ∃ k : Nat, k ≤ n ∧ i = .int .i64 k ∧ w'.ownsRow w.heap.size 3 1 o (vicK l k).length (ints (vicK l k)) ∧ NewW w w') (fun _ i _ => n - (intOf i).toNat)
  case atStart => exact ⟨0, by omega, rfl, ⟨rfl, .inl ⟨rfl, rfl⟩⟩, Ch.refl _ _⟩
  case round =>
    obtain ⟨k, hk, rfl, hO, hC⟩ := hrel
    obtain ⟨A', c', rfl⟩ := own_form hO
    have HC := Lib.hid hC
    have HO := Lib.hid hO
    have hsz := hC.size
    by_cases hlt : k < n
    · obtain ⟨x, hx⟩ := some_of_lt (L := l) (i := k) (by rw [HN.out]; exact hlt)
      obtain ⟨g, cap, hv, r0, r1, r2⟩ := (HH.out.new_ hC).at_ hx
      injection hv with hA hn hq
      subst hA
      have hVS := vicK_step hx
      have hvk : vict l k = (fromG l (eldK l x l.length) k).testBit k := by unfold vict; rw [hx]
      have hCb : NewW wr (wr.alloc (.cells #[.int .i64 x.id, .int .i64 x.st, .int .u64 x.to] 57)) := (Ch.refl _ wr).alloc _
      have BX := Lib.hid (Blk.new wr 57 #[.int .i64 x.id, .int .i64 x.st, .int .u64 x.to])
      have HCB := Lib.hid (hC.trans' hCb)
      have HEL := Lib.hid (elders_any (HH.out.new_ HCB.out) hx)
      have HFR := Lib.hid (fun w' (hc : NewW w w') => from_any (a := k) (by_ := eldK l x l.length) (HH.out.new_ hc) (HT.out.new_ hc) (by rw [HN.out]; exact hlt) (eldK_lt l x (by rw [HN.out]; exact h64)))
      have HHA := Lib.hid (fun w' => has_any (fromG l (eldK l x l.length) k) k (fromG_64 HH.out.ok _ _) (by omega) w')
      obtain ⟨vb, hvb⟩ : ∃ vb, vict l k = vb := ⟨_, rfl⟩
      rw [← hvk, hvb] at HHA
      rw [hvb] at hVS
      have HVS := Lib.hid hVS
      have hvl := vicK_len l k
      have HOB := Lib.hid (own_ch HO.out hCb (fun _ _ h => h))
      clear hC hO hx hn hq hvk hvb hVS hCb
      generalize fromG l (eldK l x l.length) k = F at *
      generalize eldK l x l.length = EL at *
      generalize hvn : (vicK l k).length = vn at *
      go_upto_region 7 with (fail)
      generalize wr.alloc (.cells #[.int .i64 x.id, .int .i64 x.st, .int .u64 x.to] 57) = wb at *
      generalize wr.heap.size = bx at *
      clear r0 r1 r2
      go_wp2_with fail
      refine HEL.out.mono ?_
      rintro e w2 ⟨rfl, hN2⟩
      have HN2 := Lib.hid hN2
      clear hN2 HEL
      dsimp only
      go_wp2_with fail
      refine (HFR.out _ (HCB.out.trans' HN2.out)).mono ?_
      rintro e w3 ⟨rfl, hN3⟩
      have HN3 := Lib.hid (HN2.out.trans' hN3)
      clear hN3 HFR HN2
      dsimp only
      go_wp2_with fail
      refine (HHA.out _).mono ?_
      rintro e w4 ⟨rfl, rfl⟩
      dsimp only
      have HC3 := Lib.hid (HCB.out.trans' HN3.out)
      have HO3 := Lib.hid (own_ch HOB.out HN3.out (fun _ _ h => h))
      have hsz3 := HC3.out.size
      cases vb
      · go_wp2_with fail
        refine ⟨⟨k + 1, by omega, by go_num, ?_, HC3.out⟩, by simp [intOf]; omega⟩
        rw [HVS.out]
        simp only [Bool.false_eq_true, if_false, List.append_nil]
        rw [hvn]
        exact HO3.out
      · have x0 : w3.cell? ⟨bx, 0, none⟩ = some (.int .i64 x.id) := by rw [(BX.out.ch HN3.out (fun h => h)).cell]; rfl
        go_wp2_with (first
          | (at_builtin
             refine wpList_append_any _ rfl (.tmp 26) (.tmp 29) _ rfl w.heap.size 3 i1 _ 1 8 Tryd.underlying31 hi1 hy0 hy1 hy2 rfl (by omega) _ vn (ints (vicK l k)) rfl
               (own_ch HO3.out ((Ch.refl (fun _ => False) _).alloc _) (fun _ _ h => h)) (w3.heap.size + 1) (some ⟨w3.heap.size, 0, none⟩) 1 1 [.int .i64 x.id] rfl (reads_new w3 3 #[.int .i64 x.id] 1 1 rfl) (by simp [Value.oneCell']) (by simp only [maxLen]; omega) (by omega) (by simp; omega) ?_
             intro v7 w7 hown7 hg7 hat7
             have HO7 := Lib.hid hown7
             have HG7 := Lib.hid hg7
             clear hown7 hg7 hat7))
        refine ⟨⟨k + 1, by omega, by go_num, ?_, ((HC3.out : Ch (fun _ => False) w w3).alloc _).grown HG7.out (fun g hg => .inr (own_lt HO3.out hg).1)⟩, by simp [intOf]; omega⟩
        rw [HVS.out]
        simp only [if_true]
        rw [ints_snoc, List.length_append, hvn]
        exact HO7.out
    · obtain rfl : k = n := by omega
      have hvl := vicK_len l k
      generalize hvn : (vicK l k).length = vn at *
      have HS := Lib.hid (sort_any hO (by omega))
      have HO2 := Lib.hid hO
      clear hlt hk hO hC
      go_wp2_with fail
      refine HS.out.mono ?_
      rintro e w2 ⟨rfl, ho2, hc2⟩
      have HF := Lib.hid (own_new HO2.out (Nat.le_refl _) HC.out hc2)
      have HO3 := Lib.hid ho2
      clear ho2 hc2
      dsimp only
      go_wp2_with fail
      go_ret
      exact ⟨A', c', by rw [hvn]; rfl, by rw [hvn]; exact HO3.out, HF.out⟩
/-! ### Oldest -/
theorem bef_iff {a b : Nd} : bef a b = true ↔ a.st < b.st ∨ (a.st = b.st ∧ a.id < b.id) := by simp [bef]
theorem bef_trans {a b c : Nd} (h : bef a b = true) (h' : bef b c = true) : bef a c = true := by
  rw [bef_iff] at *
  omega
theorem bef_irrefl (a : Nd) : bef a a = false := by
  rcases h : bef a a with _ | _
  · rfl
  · rw [bef_iff] at h; omega
set_option maxHeartbeats 1000000 in
theorem oldest_any {w : World} {B b : Nat} {l : List Nd} {v : Value} (h : GM w B b l v) :
    Calls Tryd.prog 10 #[.pointer (some ⟨b, 0, none⟩)] w fun e w' => ((l = [] ∧ e = .returned (.tuple #[.int .i64 0, .bool false])) ∨ (∃ y : Nd, y ∈ l ∧ e = .returned (.tuple #[.int .i64 y.id, .bool true]) ∧ ∀ x : Nd, x ∈ l → bef x y = false)) ∧ NewW w w' := by
  obtain ⟨A, q, rfl⟩ := own_form h.own
  have c0 := h.c0
  have h64 := h.ok.len
  have HH := Lib.hid h
  by_cases he : l = []
  · have hl : l.length = 0 := by rw [he]; rfl
    rw [hl] at c0
    have HE := Lib.hid he
    clear h he hl
    go_enter Tryd.func10, Tryd.ntmps10
    go_wp2_with fail
    go_ret2
    exact ⟨.inl ⟨HE.out, rfl⟩, Ch.refl _ _⟩
  · have hpos : 0 < l.length := List.length_pos_iff.2 he
    obtain ⟨y, hy⟩ := some_of_lt hpos
    obtain ⟨g, cap, hv, r0, r1, r2⟩ := h.at_ hy
    injection hv with hA hn hq
    subst hA
    have HY := Lib.hid hy
    have hCb : NewW w (w.alloc (.cells #[.int .i64 y.id, .int .i64 y.st, .int .u64 y.to] 57)) := (Ch.refl _ w).alloc _
    have BX := Lib.hid (Blk.new w 57 #[.int .i64 y.id, .int .i64 y.st, .int .u64 y.to])
    have HCB := Lib.hid hCb
    have c1 := (h.new_ hCb).c0
    clear h hy hCb he hn hq
    generalize hn : l.length = n at *
    have HN := Lib.hid hn
    clear hn
    have hmax : (n : Int) ≤ 64 := by omega
    have hn0 : ((n : Int) == 0) = false := by simp; omega
    have hn0' : (n == 0) = false := by simp; omega
    have hnI : (0 : Int) < (n : Int) := by omega
    rw [Nat.zero_mul] at r0 r1 r2
    go_enter Tryd.func10, Tryd.ntmps10
    go_upto_region 4 with (fail)
    generalize w.alloc (.cells #[.int .i64 y.id, .int .i64 y.st, .int .u64 y.to] 57) = w1 at *
    have hszw : w.heap.size ≤ w.heap.size := Nat.le_refl _
    generalize hbx : w.heap.size = bx at *
    have hbx1 : w.heap.size ≤ bx := by omega
    clear r0 r1 r2 c0
    go_wp2_with fail
    go_loopw [28] (fun i w' => ∃ (k : Nat) (z : Nd), k ≤ n ∧ i = .int .i64 k ∧ z ∈ l ∧ (∀ (j : Nat) (x : Nd), j < k → l[j]? = some x → bef x z = false) ∧ Blk w' bx 57 #[.int .i64 z.id, .int .i64 z.st, .int .u64 z.to] ∧ NewW w w') (fun i _ => n - (intOf i).toNat)
    case atStart => exact ⟨0, y, by omega, rfl, mem_of_some HY.out, fun j x hj => absurd hj (by omega), BX.out, HCB.out⟩
    case round =>
      obtain ⟨k, z, hk, rfl, hz, hpre, hbk, hC⟩ := hrel
      have HC := Lib.hid hC
      have HB := Lib.hid hbk
      have HZ := Lib.hid hz
      have HP := Lib.hid hpre
      clear hz hpre
      by_cases hlt : k < n
      · obtain ⟨x, hx⟩ := some_of_lt (L := l) (i := k) (by rw [HN.out]; exact hlt)
        obtain ⟨g', cap, hv, r0, r1, r2⟩ := (HH.out.new_ hC).at_ hx
        injection hv with hA hn hq
        injection hA with hA
        injection hA with hA
        subst hA
        have BX2 := Lib.hid (Blk.new wr 57 #[.int .i64 x.id, .int .i64 x.st, .int .u64 x.to])
        have hC2 : NewW wr (wr.alloc (.cells #[.int .i64 x.id, .int .i64 x.st, .int .u64 x.to] 57)) := (Ch.refl _ wr).alloc _
        have HC2 := Lib.hid (hC.trans' hC2)
        have HB2 := Lib.hid (hbk.ch hC2 (fun h => h))
        have HX := Lib.hid hx
        have hszr := hC.size
        clear hC hbk hx hn hq hC2
        go_upto_region 7 with (fail)
        generalize wr.alloc (.cells #[.int .i64 x.id, .int .i64 x.st, .int .u64 x.to] 57) = wb at *
        generalize wr.heap.size = cx at *
        clear r0 r1 r2
        have x0 : wb.cell? ⟨cx, 0, none⟩ = some (.int .i64 x.id) := by rw [BX2.out.cell]; rfl
        have x1 : wb.cell? ⟨cx, 1, none⟩ = some (.int .i64 x.st) := by rw [BX2.out.cell]; rfl
        have x2 : wb.cell? ⟨cx, 2, none⟩ = some (.int .u64 x.to) := by rw [BX2.out.cell]; rfl
        have z0 : wb.cell? ⟨bx, 0, none⟩ = some (.int .i64 z.id) := by rw [HB2.out.cell]; rfl
        have z1 : wb.cell? ⟨bx, 1, none⟩ = some (.int .i64 z.st) := by rw [HB2.out.cell]; rfl
        have z2 : wb.cell? ⟨bx, 2, none⟩ = some (.int .u64 z.to) := by rw [HB2.out.cell]; rfl
        have HBE := Lib.hid (before_any x z wb)
        obtain ⟨be, hbe⟩ : ∃ be, bef x z = be := ⟨_, rfl⟩
        rw [hbe] at HBE
        have HBV := Lib.hid hbe
        clear hbe
        go_wp2_with fail
        refine HBE.out.mono ?_
        rintro e w3 ⟨rfl, hN3⟩
        dsimp only
        have y0 := new_cell hN3 x0
        have y1 := new_cell hN3 x1
        have y2 := new_cell hN3 x2
        have HB3 := Lib.hid (HB2.out.ch hN3 (fun h => h))
        have HC3 := Lib.hid (HC2.out.trans' hN3)
        have f0 := HB3.out.frozen 0
        have f1 := HB3.out.frozen 1
        have f2 := HB3.out.frozen 2
        have b0 : w3.cell? ⟨bx, 0, none⟩ = some (.int .i64 z.id) := by rw [HB3.out.cell]; rfl
        have b1 : w3.cell? ⟨bx, 1, none⟩ = some (.int .i64 z.st) := by rw [HB3.out.cell]; rfl
        have b2 : w3.cell? ⟨bx, 2, none⟩ = some (.int .u64 z.to) := by rw [HB3.out.cell]; rfl
        clear hN3 x0 x1 x2 z0 z1 z2 HBE
        cases be
        · go_wp2_with fail
          refine ⟨⟨k + 1, z, by omega, by go_num, HZ.out, fun j x' hj hx' => ?_, HB3.out, HC3.out⟩, by simp [intOf]; omega⟩
          by_cases e : j = k
          · subst e
            rw [HX.out] at hx'
            injection hx' with hx'
            rw [← hx']; exact HBV.out
          · exact HP.out j x' (by omega) hx'
        · go_wp2_with fail
          refine ⟨⟨k + 1, x, by omega, by go_num, mem_of_some HX.out, fun j x' hj hx' => ?_, ?_, ?_⟩, by simp [intOf]; omega⟩
          · by_cases e : j = k
            · subst e
              rw [HX.out] at hx'
              injection hx' with hx'
              rw [← hx']; exact bef_irrefl x
            · have := HP.out j x' (by omega) hx'
              rcases hb : bef x' x with _ | _
              · rfl
              · rw [bef_trans hb HBV.out] at this; cases this
          · have := ((HB3.out.set_ 0 (.int .i64 x.id)).set_ 1 (.int .i64 x.st)).set_ 2 (.int .u64 x.to)
            simpa using this
          · exact ((HC3.out.setCell (p := ⟨bx, 0, none⟩) (.inr hbx1) _).setCell (p := ⟨bx, 1, none⟩) (.inr hbx1) _).setCell (p := ⟨bx, 2, none⟩) (.inr hbx1) _
      · obtain rfl : k = n := by omega
        have e0 : wr.cell? ⟨bx, 0, none⟩ = some (.int .i64 z.id) := by rw [hbk.cell]; rfl
        clear hbk hC hlt hk
        go_wp2_with fail
        go_ret2
        refine ⟨.inr ⟨z, HZ.out, rfl, fun x hx => ?_⟩, HC.out⟩
        obtain ⟨j, hj⟩ := List.mem_iff_getElem?.1 hx
        exact HP.out j x (by rw [← HN.out]; exact lt_of_some hj) hj
end Go.Proofs.YtfcdplfnhjbdnabDoor
