/- bank: an account's key; the operation that adds. -/
import Derived.Test.YtbggadhaaphmcaaDoorBf
import Derived.Test.YtbggadhaaphmcaaDoorTe
namespace Go.Proofs.YtbggadhaaphmcaaDoor
open Go.RowKit Go.Sort
set_option linter.unusedVariables false

def keyT (i : Int) : ByteArray := ⟨#[97, 99, 99, 116, 48 + UInt8.ofNat (i / 10).toNat, 48 + UInt8.ofNat (i % 10).toNat]⟩
theorem conv_two (w : World) (q r : Int) (h0 : 0 ≤ q) (h1 : q < 10) (h2 : 0 ≤ r) (h3 : r < 10) :
    (Go.convert 112 9 (.slice (some ⟨w.heap.size, 0, none⟩) 2 2)).run Tryd.prog (w.alloc (.cells #[.int .u8 (48 + q), .int .u8 (48 + r)] 5)) = .ok (.string ⟨#[UInt8.ofNat (48 + q.toNat), UInt8.ofNat (48 + r.toNat)]⟩) (w.alloc (.cells #[.int .u8 (48 + q), .int .u8 (48 + r)] 5)) := by
  refine run_convert_bytes_back (P := Tryd.prog) (w.alloc (.cells #[.int .u8 (48 + q), .int .u8 (48 + r)] 5)) 112 9 5 ⟨w.heap.size, 0, none⟩ 2 [UInt8.ofNat (48 + q.toNat), UInt8.ofNat (48 + r.toNat)] Tryd.underlying112 Tryd.underlying5 Tryd.underlying9 fun j hj => ?_
  have hj2 : j < 2 := by simpa using hj
  rw [add_mk, Nat.zero_add, (Blk.new w 5 #[.int .u8 (48 + q), .int .u8 (48 + r)]).cell]
  rcases (show j = 0 ∨ j = 1 by omega) with rfl | rfl
  · simp only [List.getElem_cons_zero]
    rw [digit_toNat (by omega)]
    show some (Value.int .u8 (48 + q)) = _
    congr 2
    omega
  · simp only [List.getElem_cons_zero, List.getElem_cons_succ]
    rw [digit_toNat (by omega)]
    show some (Value.int .u8 (48 + r)) = _
    congr 2
    omega
theorem acct_add (a b : UInt8) : (({ data := #[97, 99, 99, 116] } : ByteArray) ++ ⟨#[a, b]⟩) = ⟨#[97, 99, 99, 116, a, b]⟩ := by
  apply key_inj
  rw [Joins.data_append]
  rfl
theorem Key_any (i : Int) (h0 : 0 ≤ i) (h1 : i < 16) (w : World) : Calls Tryd.prog 63 #[.int .i64 i] w fun e w' => e = .returned (.string (keyT i)) ∧ NewW w w' := by
  have hcv := conv_two w (i / 10) (i % 10) (by omega) (by omega) (by omega) (by omega)
  have HC := Lib.hid ((Ch.refl (fun _ => False) w).alloc (.cells #[.int .u8 (48 + i / 10), .int .u8 (48 + i % 10)] 5))
  have w1 : IntKind.u8.wrap (48 + i % 10) = 48 + i % 10 := IntWalk.u8_in _ ⟨by omega, by omega⟩
  have w2 : IntKind.u8.wrap (48 + i / 10) = 48 + i / 10 := IntWalk.u8_in _ ⟨by omega, by omega⟩
  have d1 : decide (i < 0) = false := by simpa using h0
  have d2 : decide (16 ≤ i) = false := by simpa using h1
  have hA := acct_add (48 + UInt8.ofNat (i / 10).toNat) (48 + UInt8.ofNat (i % 10).toNat)
  go_enter Tryd.func63, Tryd.ntmps63
  go_wp2_with fail
  go_ret
  exact ⟨ret_str hA, HC.out⟩
theorem keyT_small (i : Int) (h0 : 0 ≤ i) (h : i < 10) : (keyT i).data.toList = [97, 99, 99, 116, 48] ++ Lib.itoa i := by
  rw [itoa_pos (by omega), dec_last h0 h]
  unfold keyT
  rw [show i / 10 = 0 by omega]
  rfl
theorem keyT_big (i : Int) (h : 10 ≤ i) (h' : i < 100) : (keyT i).data.toList = [97, 99, 99, 116] ++ Lib.itoa i := by
  rw [itoa_pos (by omega), dec_ahead (by omega) (by omega), dec_last (by omega) (by omega)]
  unfold keyT
  rw [show i / 10 % 10 = i / 10 by omega]
  rfl
theorem Key_ref (i : Int) (h0 : 0 ≤ i) (h1 : i < 16) (w : World) : Calls Tryd.prog 35 #[.int .i64 i] w fun e w' => e = .returned (.string (keyT i)) ∧ NewW w w' := by
  have HT := Lib.hid (fun w' => Text_ref i (by omega) (by omega) w')
  have hlen := itoa_len20 (n := i) (by omega) (by omega)
  have hsz : (txt i).size ≤ 40 := by rw [← size_len, txt_data]; omega
  by_cases h : i < 10
  · have d : decide (i < 10) = true := by simpa using h
    have HK := Lib.hid (show (keyT i) = ({ data := #[97, 99, 99, 116, 48] } : ByteArray) ++ txt i from key_inj (by rw [keyT_small i h0 h, Joins.data_append, txt_data]))
    generalize txt i = T at *
    clear hlen
    go_enter Tryd.func35, Tryd.ntmps35
    go_wp2_with fail
    refine (HT.out _).mono ?_
    rintro e w2 ⟨rfl, hN⟩
    dsimp only
    have HN := Lib.hid hN
    clear hN
    go_wp2_with fail
    go_ret
    exact ⟨ret_str HK.out.symm, HN.out⟩
  · have d : decide (i < 10) = false := by simpa using h
    have HK := Lib.hid (show (keyT i) = ({ data := #[97, 99, 99, 116] } : ByteArray) ++ txt i from key_inj (by rw [keyT_big i (by omega) (by omega), Joins.data_append, txt_data]))
    generalize txt i = T at *
    clear hlen
    go_enter Tryd.func35, Tryd.ntmps35
    go_wp2_with fail
    refine (HT.out _).mono ?_
    rintro e w2 ⟨rfl, hN⟩
    dsimp only
    have HN := Lib.hid hN
    clear hN
    go_wp2_with fail
    go_ret
    exact ⟨ret_str HK.out.symm, HN.out⟩
def addO (i n : Int) : OpD := ⟨5, keyT i, emp, n⟩
theorem add_any (i n : Int) (h0 : 0 ≤ i) (h1 : i < 16) (w : World) : Calls Tryd.prog 67 #[.int .i64 i, .int .i64 n] w fun e w' => e = .returned (.agg #[.int .i64 5, .string (keyT i), .string emp, .int .i64 n]) ∧ NewW w w' := by
  have HK := Lib.hid (fun w' => Key_any i h0 h1 w')
  obtain ⟨z, hz⟩ : ∃ z : Array Value, z = #[.int .i64 0, .string ⟨#[]⟩, .string ⟨#[]⟩, .int .i64 0] := ⟨_, rfl⟩
  have hb := Blk.new w 41 #[.int .i64 0, .string ⟨#[]⟩, .string ⟨#[]⟩, .int .i64 0]
  have HB := Lib.hid hb
  have HN := Lib.hid ((Ch.refl (fun _ => False) w).alloc (.cells #[.int .i64 0, .string ⟨#[]⟩, .string ⟨#[]⟩, .int .i64 0] 41))
  generalize keyT i = KT at *
  clear hb hz
  go_enter Tryd.func67, Tryd.ntmps67
  go_wp2_with fail
  refine (HK.out _).mono ?_
  rintro e w2 ⟨rfl, hN⟩
  dsimp only
  have hb2 := HB.out.ch hN (fun h => h)
  have hbl := hb2.lt
  have hb0 := hb2.cell 0
  have hb1 := hb2.cell 1
  have hb2' := hb2.cell 2
  have hb3 := hb2.cell 3
  have f0 := hb2.frozen 0
  have f1 := hb2.frozen 1
  have f2 := hb2.frozen 2
  have f3 := hb2.frozen 3
  have HB3 := Lib.hid ((((hb2.set_ 0 (.int .i64 5)).set_ 1 (.string KT)).set_ 2 (.string emp)).set_ 3 (.int .i64 n))
  have HN2 := Lib.hid (((((HN.out.trans' hN).setCell (p := ⟨w.heap.size, 0, none⟩) (.inr (Nat.le_refl _)) (.int .i64 5)).setCell (p := ⟨w.heap.size, 1, none⟩) (.inr (Nat.le_refl _)) (.string KT)).setCell (p := ⟨w.heap.size, 2, none⟩) (.inr (Nat.le_refl _)) (.string emp)).setCell (p := ⟨w.heap.size, 3, none⟩) (.inr (Nat.le_refl _)) (.int .i64 n))
  clear hN hb2
  go_wp2_with fail
  have z0 := HB3.out.cell 0
  have z1 := HB3.out.cell 1
  have z2 := HB3.out.cell 2
  have z3 := HB3.out.cell 3
  unfold emp at z0 z1 z2 z3
  refine bodyPost_ret (v := .agg #[.int .i64 5, .string KT, .string emp, .int .i64 n]) (by simp [results, Tryd.results67, go_sem, z0, z1, z2, z3, emp]) rfl ⟨rfl, HN2.out⟩
end Go.Proofs.YtbggadhaaphmcaaDoor
