/- The reference's Edges; the program's Stamp; same. -/
import Derived.Test.YtfcdplfnhjbdnabDoorRt
namespace Go.Proofs.YtfcdplfnhjbdnabDoor
open Go.RowKit Go.Sort
set_option linter.unusedVariables false

/-- The edges of a node, in order; all, in order. -/
def edRow (L : List Int) (E : List (Int × Int)) (a : Int) : List (Int × Int) := (L.filter (fun b => decide ((a, b) ∈ E))).map (fun b => (a, b))
def edR (L M : List Int) (E : List (Int × Int)) : List (Int × Int) := L.flatMap (edRow M E)
theorem edRow_step {L : List Int} {E : List (Int × Int)} {a b : Int} {k : Nat} (hx : L[k]? = some b) : edRow (L.take (k + 1)) E a = edRow (L.take k) E a ++ (if decide ((a, b) ∈ E) then [(a, b)] else []) := by
  unfold edRow
  rw [filtI_step hx, List.map_append]
  congr 1
  by_cases h : (a, b) ∈ E <;> simp [h]
theorem edR_step {L M : List Int} {E : List (Int × Int)} {a : Int} {k : Nat} (hx : L[k]? = some a) : edR (L.take (k + 1)) M E = edR (L.take k) M E ++ edRow M E a := by
  unfold edR
  rw [List.take_add_one, hx, List.flatMap_append]
  simp
theorem edRow_len (L : List Int) (E : List (Int × Int)) (a : Int) : (edRow L E a).length ≤ L.length := by
  unfold edRow
  rw [List.length_map]
  exact List.length_filter_le _ _
theorem edR_len (L M : List Int) (E : List (Int × Int)) : (edR L M E).length ≤ L.length * M.length := by
  unfold edR
  induction L with
  | nil => simp
  | cons a r ih =>
    rw [List.flatMap_cons, List.length_append, List.length_cons, Nat.add_mul, Nat.one_mul]
    have := edRow_len M E a
    omega
section
variable {w : World} {B rb : Nat} {N E : List (Int × Int)} {vn ve : Value}
set_option maxHeartbeats 4000000 in
theorem edges_r (h : RM w B rb N E vn ve) :
    Calls Tryd.prog 27 #[.pointer (some ⟨rb, 0, none⟩)] w fun e w' => ∃ A c, e = .returned (.slice A (edR (sortI (N.map Prod.fst)) (sortI (N.map Prod.fst)) E).length c) ∧ w'.ownsRow w.heap.size 41 2 (.slice A (edR (sortI (N.map Prod.fst)) (sortI (N.map Prod.fst)) E).length c) (edR (sortI (N.map Prod.fst)) (sortI (N.map Prod.fst)) E).length (flatE (edR (sortI (N.map Prod.fst)) (sortI (N.map Prod.fst)) E)) ∧ NewW w w' := by
  have HND := Lib.hid (nodes_r h)
  have HND2 := Lib.hid (fun (w' : World) (hc : NewW w w') => nodes_r (h.new_ hc))
  have HHA := Lib.hid (fun (w' : World) (hc : NewW w w') (a b : Int) => has_r (h.new_ hc) a b)
  have h64 := h.nl
  obtain ⟨i1, hi1, hy0, hy1, hy2⟩ := info_parts redge_info
  clear h
  obtain ⟨L, hL⟩ : ∃ L, sortI (N.map Prod.fst) = L := ⟨_, rfl⟩
  have hll : L.length = N.length := by rw [← hL, List.length_mergeSort, List.length_map]
  rw [hL] at HND HND2 ⊢
  generalize N.length = n at *
  have HLN := Lib.hid hll
  clear hL hll
  have hmax : (n : Int) ≤ 64 := by omega
  go_enter Tryd.func27, Tryd.ntmps27
  go_wp2_with fail
  refine HND.out.mono ?_
  rintro e w2 ⟨A, c, rfl, ho, hN⟩
  have HO := Lib.hid ho
  have HN2 := Lib.hid hN
  clear ho hN HND
  dsimp only
  go_wp2_with fail
  go_loopw [3, 11] (fun ov i w' => ∃ k : Nat, k ≤ n ∧ i = .int .i64 k ∧ w'.ownsRow w2.heap.size 41 2 ov (edR (L.take k) L E).length (flatE (edR (L.take k) L E)) ∧ NewW w2 w') (fun _ i _ => n - (intOf i).toNat)
  case atStart => exact ⟨0, by omega, rfl, ⟨by simp [edR, flatE], .inl ⟨by simp, by simp [edR]⟩⟩, Ch.refl _ _⟩
  case round =>
    obtain ⟨k, hk, rfl, hO, hC⟩ := hrel
    obtain ⟨A7, q7, rfl⟩ := own_form hO
    have HO7 := Lib.hid hO
    have HC := Lib.hid hC
    by_cases hlt : k < n
    · obtain ⟨x, hx⟩ := some_of_lt (L := L) (i := k) (by rw [HLN.out]; exact hlt)
      obtain ⟨g, rfl, hcell⟩ := row_kp HO.out (KpT.new_ hC) hx
      have HF := Lib.hid (edR_step (M := L) (E := E) hx)
      have HW := Lib.hid (HND2.out _ (HN2.out.trans' hC))
      have hfl : (edR (L.take k) L E).length ≤ 4096 := Nat.le_trans (edR_len _ _ _) (by rw [List.length_take, HLN.out]; exact Nat.mul_le_mul (show min k n ≤ 64 by omega) (show n ≤ 64 by omega))
      generalize hfn : edR (L.take k) L E = F at *
      generalize hfl' : F.length = fl at *
      have HFL := Lib.hid hfl'
      clear hO hC hx hfn hfl'
      go_wp2_with fail
      refine HW.out.mono ?_
      rintro e w3 ⟨A3, c3, rfl, ho, hN⟩
      have HO3 := Lib.hid ho
      have HC3 := Lib.hid (HC.out.trans' hN)
      have HO73 := Lib.hid (own_ch HO7.out hN (fun _ _ h => h))
      clear ho hN HW HC HO7
      dsimp only
      go_wp2_with fail
      go_loopw [3, 18] (fun ov i w' => ∃ m : Nat, m ≤ n ∧ i = .int .i64 m ∧ w'.ownsRow w2.heap.size 41 2 ov (F ++ edRow (L.take m) E x).length (flatE (F ++ edRow (L.take m) E x)) ∧ NewW w2 w' ∧ w'.ownsRow wr.heap.size 3 1 (.slice A3 n c3) n (ints L)) (fun _ i _ => n - (intOf i).toNat)
      case atStart => exact ⟨0, by omega, rfl, by simpa [edRow, HFL.out] using HO73.out, HC3.out, HO3.out⟩
      case round =>
        obtain ⟨m, hm, rfl, hO, hC, hT⟩ := hrel
        obtain ⟨A8, q8, rfl⟩ := own_form hO
        have HO8 := Lib.hid hO
        have HC8 := Lib.hid hC
        have HT8 := Lib.hid hT
        by_cases hlm : m < n
        · obtain ⟨y, hy⟩ := some_of_lt (L := L) (i := m) (by rw [HLN.out]; exact hlm)
          obtain ⟨g3, rfl, hcell3⟩ := row_kp hT (KpT.refl _) hy
          have HS := Lib.hid (show F ++ edRow (L.take (m + 1)) E x = (F ++ edRow (L.take m) E x) ++ (if decide ((x, y) ∈ E) then [(x, y)] else []) from by rw [edRow_step hy, List.append_assoc])
          have hgl : (F ++ edRow (L.take m) E x).length ≤ 5000 := by
            rw [List.length_append]
            have := edRow_len (L.take m) E x
            rw [List.length_take, HLN.out] at this
            have := HFL.out
            omega
          generalize hgn : F ++ edRow (L.take m) E x = G at *
          generalize hgl' : G.length = gl at *
          have HGL := Lib.hid hgl'
          have HH := Lib.hid (HHA.out _ (HN2.out.trans' hC) x y)
          obtain ⟨R, hR⟩ : ∃ R, decide ((x, y) ∈ E) = R := ⟨_, rfl⟩
          rw [hR] at HH HS
          clear hO hC hT hy hgn hgl' hR
          go_wp2_with fail
          refine HH.out.mono ?_
          rintro e w9 ⟨rfl, hN⟩
          have HC9 := Lib.hid (HC8.out.trans' hN)
          have HO9 := Lib.hid (own_ch HO8.out hN (fun _ _ h => h))
          have HT9 := Lib.hid (own_ch HT8.out hN (fun _ _ h => h))
          have hsz := HC9.out.size
          clear hN HH HC8 HO8 HT8
          dsimp only
          cases R
          · go_wp2_with fail
            refine ⟨⟨m + 1, by omega, by go_num, ?_, HC9.out, HT9.out⟩, by simp [intOf]; omega⟩
            rw [HS.out]
            simp only [Bool.false_eq_true, if_false, List.append_nil]
            rw [HGL.out]
            exact HO9.out
          · go_wp2_with (first
              | (at_builtin
                 refine wpList_append_any _ rfl (.tmp 26) (.tmp 30) _ rfl w2.heap.size 41 i1 _ 2 16 Tryd.underlying23 hi1 hy0 hy1 hy2 rfl (by omega) _ gl (flatE G) rfl
                   (own_ch HO9.out ((Ch.refl (fun _ => False) _).alloc _) (fun _ _ h => h)) (w9.heap.size + 1) (some ⟨w9.heap.size, 0, none⟩) 1 1 [.int .i64 x, .int .i64 y] rfl (reads_new w9 41 #[.int .i64 x, .int .i64 y] 1 2 rfl) (by simp [Value.oneCell']) (by simp only [maxLen]; omega) (by omega) (by simp; omega) ?_
                 intro v8 w8 hown8 hg8 hat8
                 have HOA := Lib.hid hown8
                 have HG8 := Lib.hid hg8
                 clear hown8 hg8 hat8))
            refine ⟨⟨m + 1, by omega, by go_num, ?_, ((HC9.out : Ch (fun _ => False) w2 w9).alloc _).grown HG8.out (fun g hg => .inr (own_lt HO9.out hg).1),
              own_ch (own_ch HT9.out ((Ch.refl (fun _ => False) w9).alloc _) (fun _ _ h => h)) (Ch.of_grown HG8.out) (own_own_ne HT9.out HO9.out (by decide))⟩, by simp [intOf]; omega⟩
            rw [HS.out, if_pos rfl, flatE_snoc, List.length_append, HGL.out]
            exact HOA.out
        · obtain rfl : n = m := by omega
          have HFT := Lib.hid (show edR (L.take (k + 1)) L E = F ++ edRow (L.take n) E x from by rw [HF.out, ← HLN.out, List.take_length])
          clear hO hC hT hlm hm
          go_wp2_with fail
          refine ⟨⟨k + 1, by omega, by go_num, ?_, HC8.out⟩, by simp [intOf]; omega⟩
          rw [HFT.out]
          exact HO8.out
    · obtain rfl : n = k := by omega
      have HFT := Lib.hid (show L.take n = L from by rw [← HLN.out, List.take_length])
      clear hO hC hlt hk
      go_wp2_with fail
      go_ret
      refine ⟨A7, q7, by rw [HFT.out]; rfl, ?_, HN2.out.trans' HC.out⟩
      have := own_mono HO7.out HN2.out.size
      rwa [HFT.out] at this
end
theorem same_any {w : World} {B1 B2 n c1 c2 : Nat} {A1 A2 : Option Addr} {L : List Int} (h1 : w.ownsRow B1 3 1 (.slice A1 n c1) n (ints L)) (h2 : w.ownsRow B2 3 1 (.slice A2 n c2) n (ints L)) (hn : n ≤ 1000) :
    Calls Tryd.prog 28 #[.slice A1 n c1, .slice A2 n c2] w fun e w' => e = .returned (.bool true) ∧ NewW w w' := by
  have H1 := Lib.hid h1
  have H2 := Lib.hid h2
  have HLN := Lib.hid (show L.length = n from by have := h1.1; simpa [ints] using this)
  clear h1 h2
  have hmax : (n : Int) ≤ 1000 := by omega
  have dn : ((n : Int) != (n : Int)) = false := by simp
  go_enter Tryd.func28, Tryd.ntmps28
  go_wp2_with fail
  go_loopw [13] (fun i w' => ∃ k : Nat, k ≤ n ∧ i = .int .i64 k ∧ NewW w w') (fun i _ => n - (intOf i).toNat)
  case atStart => exact ⟨0, by omega, rfl, Ch.refl _ _⟩
  case round =>
    obtain ⟨k, hk, rfl, hC⟩ := hrel
    have HC := Lib.hid hC
    by_cases hlt : k < n
    · obtain ⟨x, hx⟩ := some_of_lt (L := L) (i := k) (by rw [HLN.out]; exact hlt)
      obtain ⟨g1, rfl, x1⟩ := row_kp H1.out (KpT.new_ hC) hx
      obtain ⟨g2, rfl, x2⟩ := row_kp H2.out (KpT.new_ hC) hx
      have hkI : (k : Int) < (n : Int) := by omega
      have dx : (x != x) = false := by simp
      clear hC hx
      go_wp2_with fail
      go_quiet (fail)
      go_wp2_with fail
      exact ⟨⟨k + 1, by omega, by go_num, by first | exact HC.out.drewN _ | exact HC.out.drew | exact HC.out⟩, by simp [intOf]; omega⟩
    · obtain rfl : n = k := by omega
      clear hC hlt hk
      go_wp2_with fail
      go_ret
      exact ⟨rfl, HC.out⟩
def stampOf (l : List Nd) (id : Int) : Int × Bool := if idxOf l id < 0 then (0, false) else ((ndAt l (idxOf l id).toNat).st, true)
theorem stamp_any {w : World} {B b : Nat} {l : List Nd} {v : Value} (h : GM w B b l v) (id : Int) :
    Calls Tryd.prog 24 #[.pointer (some ⟨b, 0, none⟩), .int .i64 id] w fun e w' => e = .returned (.tuple #[.int .i64 (stampOf l id).1, .bool (stampOf l id).2]) ∧ NewW w w' := by
  have HFI := Lib.hid (find_any h id)
  have HH := Lib.hid h
  have h64 := h.ok.len
  obtain ⟨R, hR⟩ : ∃ R, stampOf l id = R := ⟨_, rfl⟩
  rw [hR]
  unfold stampOf at hR
  rcases idx_cases l id with ⟨hx, -⟩ | ⟨i, p, hx, hxi, -⟩
  · rw [hx] at HFI hR
    rw [if_pos (by omega)] at hR
    subst hR
    clear h hx
    go_enter Tryd.func24, Tryd.ntmps24
    go_wp2_with fail
    refine HFI.out.mono ?_
    rintro e w2 ⟨rfl, hN⟩
    have HN := Lib.hid hN
    clear hN HFI
    dsimp only
    go_wp2_with fail
    go_ret2
    exact ⟨rfl, HN.out⟩
  · rw [hx] at HFI hR
    rw [if_neg (by omega), Int.toNat_natCast, ndAt_of hxi] at hR
    subst hR
    have HX := Lib.hid hxi
    have hiI : (i : Int) < (l.length : Int) := by have := lt_of_some hxi; omega
    have dg : decide ((i : Int) < 0) = false := by simp
    clear h hx hxi
    go_enter Tryd.func24, Tryd.ntmps24
    go_wp2_with fail
    refine HFI.out.mono ?_
    rintro e w2 ⟨rfl, hN⟩
    have hm := HH.out.new_ hN
    have c0 := hm.c0
    obtain ⟨g, q, rfl, x0, x1, x2⟩ := hm.at_ HX.out
    have HN := Lib.hid hN
    clear hN HFI hm
    dsimp only
    go_wp2_with fail
    go_ret2
    exact ⟨rfl, HN.out⟩
end Go.Proofs.YtfcdplfnhjbdnabDoor
