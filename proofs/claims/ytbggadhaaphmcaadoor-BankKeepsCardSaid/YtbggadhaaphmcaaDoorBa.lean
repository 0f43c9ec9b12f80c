/- bank: Balances, Total, Poor. -/
import Derived.Test.YtbggadhaaphmcaaDoorBn
import Derived.Test.YtbggadhaaphmcaaDoorSa
import Derived.Test.YtbggadhaaphmcaaDoorRu
namespace Go.Proofs.YtbggadhaaphmcaaDoor
open Go.Lib Go.RowKit
set_option linter.unusedVariables false

theorem int_info : (Tryd.prog.info? 3).map (fun i => (i.zero, i.size, i.bytes)) = some (some (.int .i64 0), 1, 8) := by kernel_rfl
noncomputable def balI (p : Pr) : Int := if p.2 then numR p.1 else 0
noncomputable def bals (l : List Pr) : List Int := l.map balI
def rowI (l : List Int) : List Value := l.map (Value.int .i64)
theorem bals_snoc {l : List Pr} {k : Nat} {p : Pr} (h : l[k]? = some p) : bals (l.take (k + 1)) = bals (l.take k) ++ [balI p] := by
  have hk := lt_of_some h
  unfold bals
  rw [List.take_succ_eq_append_getElem hk, List.map_append]
  rw [List.getElem?_eq_getElem hk] at h
  injection h with h
  simp [h]
theorem bals_len (l : List Pr) : (bals l).length = l.length := by simp [bals]
theorem rowI_len (l : List Int) : (rowI l).length = l.length := by simp [rowI]
theorem reads_two (w : World) (o : Obj) (u : Value) : Reads ((w.alloc o).alloc (.cells #[u] 3)) (w.heap.size + 2) 1 (some ⟨w.heap.size + 1, 0, none⟩) 1 [u] := by
  have := reads_one (w.alloc o) 3 u
  rw [World.size_alloc] at this
  exact this
theorem rowI_snoc (l : List Int) (x : Int) : rowI (l ++ [x]) = rowI l ++ [.int .i64 x] := by simp [rowI]
set_option maxRecDepth 100000 in
set_option maxHeartbeats 4000000 in
theorem Balances_any {w : World} {A : Option Addr} {n c : Nat} {l : List Pr} (h : Prs w A n l) (hn : n ≤ 1000) (hs : ∀ p ∈ l, p.1.size ≤ 281474976710656) (hE : Env w) :
    Calls Tryd.prog 38 #[.slice A n c] w fun e w' => ∃ (A' : Option Addr) (c' : Nat), e = .returned (.slice A' n c') ∧ w'.ownsRow w.heap.size 3 1 (.slice A' n c') n (rowI (bals l)) ∧ NewW w w' := by
  have H := Lib.hid h
  have HL := Lib.hid h.1
  have HS := Lib.hid hs
  have HE := Lib.hid hE
  have hnI : (n : Int) ≤ 1000 := by omega
  obtain ⟨i1, hi1, hy0, hy1, hy2⟩ := info_parts int_info
  clear h hs hE
  go_enter Tryd.func38, Tryd.ntmps38
  go_wp2_with fail
  go_loopw [3, 9] (fun ov i wr => ∃ k : Nat, k ≤ n ∧ i = .int .i64 k ∧ wr.ownsRow w.heap.size 3 1 ov k (rowI (bals (l.take k))) ∧ NewW w wr) (fun _ i _ => n - (intOf i).toNat)
  case atStart => exact ⟨0, by omega, rfl, own_nil, Ch.refl _ _⟩
  case round =>
    obtain ⟨k, hk, rfl, hO, hC⟩ := hrel
    obtain ⟨A7, q7, rfl⟩ := own_form hO
    have HO7 := Lib.hid hO
    have HC := Lib.hid hC
    clear hO hC
    by_cases hlt : k < n
    · obtain ⟨p, hp⟩ := some_of_lt (show k < l.length by rw [HL.out]; exact hlt)
      obtain ⟨b, off, rfl, x0, x1⟩ := (H.out.new_ HC.out).at_ hp
      have HSN := Lib.hid (bals_snoc hp)
      have hps := HS.out p (mem_of_some hp)
      obtain ⟨V, B⟩ := p
      dsimp only at x0 x1 hps
      have HC2 := Lib.hid (HC.out.alloc (.cells #[.string V, .bool B] 45))
      have HON := Lib.hid (own_ch HO7.out ((Ch.refl (fun _ => False) wr).alloc (.cells #[.string V, .bool B] 45)) (fun _ _ h => h))
      have HNU := Lib.hid (Number_any_w V hps (HE.out.new_ HC2.out))
      have hk1000 : k < 1000 := by omega
      have hB7 := HC.out.size
      clear hp hps
      cases B
      · have HSN := Lib.hid (show bals (l.take (k + 1)) = bals (l.take k) ++ [0] from HSN.out)
        generalize hr1 : bals (l.take k) = r1 at *
        clear hr1
        go_wp2_with (first
          | (at_builtin
             refine wpList_append_any _ rfl (.tmp 18) (.tmp 20) _ rfl w.heap.size 3 i1 _ 1 8 Tryd.underlying58 hi1 hy0 hy1 hy2 rfl (by omega) _ k (rowI r1) rfl
               (own_ch HON.out ((Ch.refl (fun _ => False) _).alloc _) (fun _ _ h => h)) (wr.heap.size + 2) (some ⟨wr.heap.size + 1, 0, none⟩) 1 1 [.int .i64 0] rfl (reads_two wr _ (.int .i64 0)) (by simp [Value.oneCell']) (by simp only [maxLen]; omega) (by omega) (by simp; omega) ?_
             intro v8 w8 hown8 hg8 hat8
             have HOA := Lib.hid hown8
             have HG8 := Lib.hid hg8
             clear hown8 hg8 hat8))
        have HC9 := Lib.hid (show Ch (fun _ => False) w _ from HC2.out)
        first
          | refine ⟨⟨_, _, _, ⟨k + 1, by omega, by go_num, ?_, (HC9.out.alloc _).grown HG8.out (fun g hg => .inr (own_lt HO7.out hg).1)⟩, rfl, rfl, rfl⟩, by simp [intOf]; omega⟩
          | refine ⟨⟨_, _, ⟨k + 1, by omega, by go_num, ?_, (HC9.out.alloc _).grown HG8.out (fun g hg => .inr (own_lt HO7.out hg).1)⟩, rfl, rfl⟩, by simp [intOf]; omega⟩
          | refine ⟨⟨k + 1, by omega, by go_num, ?_, (HC9.out.alloc _).grown HG8.out (fun g hg => .inr (own_lt HO7.out hg).1)⟩, by simp [intOf]; omega⟩
        rw [HSN.out, rowI_snoc]
        exact HOA.out
      · have HSN := Lib.hid (show bals (l.take (k + 1)) = bals (l.take k) ++ [numR V] from HSN.out)
        generalize hr1 : bals (l.take k) = r1 at *
        obtain ⟨N, hN⟩ : ∃ N, numR V = N := ⟨_, rfl⟩
        rw [hN] at HSN HNU
        clear hr1 hN
        go_wp2_with fail
        refine HNU.out.mono ?_
        rintro e w9 ⟨rfl, hN⟩
        dsimp only
        have HC9 := Lib.hid (show Ch (fun _ => False) w w9 from HC2.out.trans' hN)
        have HOM := Lib.hid (own_ch HON.out hN (fun _ _ h => h))
        have hB9 := HC9.out.size
        clear hN HNU HON HC2 x0 x1
        go_wp2_with (first
          | (at_builtin
             refine wpList_append_any _ rfl (.tmp 18) (.tmp 20) _ rfl w.heap.size 3 i1 _ 1 8 Tryd.underlying58 hi1 hy0 hy1 hy2 rfl (by omega) _ k (rowI r1) rfl
               (own_ch HOM.out ((Ch.refl (fun _ => False) _).alloc _) (fun _ _ h => h)) (w9.heap.size + 1) (some ⟨w9.heap.size, 0, none⟩) 1 1 [.int .i64 N] rfl (reads_one w9 3 (.int .i64 N)) (by simp [Value.oneCell']) (by simp only [maxLen]; omega) (by omega) (by simp; omega) ?_
             intro v8 w8 hown8 hg8 hat8
             have HOA := Lib.hid hown8
             have HG8 := Lib.hid hg8
             clear hown8 hg8 hat8))
        first
          | refine ⟨⟨_, _, _, ⟨k + 1, by omega, by go_num, ?_, (HC9.out.alloc _).grown HG8.out (fun g hg => .inr (own_lt HO7.out hg).1)⟩, rfl, rfl, rfl⟩, by simp [intOf]; omega⟩
          | refine ⟨⟨_, _, ⟨k + 1, by omega, by go_num, ?_, (HC9.out.alloc _).grown HG8.out (fun g hg => .inr (own_lt HO7.out hg).1)⟩, rfl, rfl⟩, by simp [intOf]; omega⟩
          | refine ⟨⟨k + 1, by omega, by go_num, ?_, (HC9.out.alloc _).grown HG8.out (fun g hg => .inr (own_lt HO7.out hg).1)⟩, by simp [intOf]; omega⟩
        rw [HSN.out, rowI_snoc]
        exact HOA.out
    · obtain rfl : n = k := by omega
      have HFT := Lib.hid (show l.take n = l from by rw [← HL.out, List.take_length])
      rw [HFT.out] at HO7
      clear hlt hk
      go_wp2_with fail
      go_ret
      exact ⟨A7, q7, rfl, HO7.out, HC.out⟩
end Go.Proofs.YtbggadhaaphmcaaDoor
