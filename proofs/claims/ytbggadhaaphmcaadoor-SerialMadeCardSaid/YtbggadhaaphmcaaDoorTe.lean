/- The document's Text of a number. -/
import Derived.Test.YtbggadhaaphmcaaDoorNu
import Derived.Laws.IdiomStrings
namespace Go.Proofs.YtbggadhaaphmcaaDoor
open Go.RowKit Go.Sort
set_option linter.unusedVariables false

theorem conv_one (w : World) (d : Int) (h0 : 0 ≤ d) (h1 : d < 10) :
    (Go.convert 112 9 (.slice (some ⟨w.heap.size, 0, none⟩) 1 1)).run Tryd.prog (w.alloc (.cells #[.int .u8 (48 + d)] 5)) = .ok (.string ⟨#[UInt8.ofNat (48 + d.toNat)]⟩) (w.alloc (.cells #[.int .u8 (48 + d)] 5)) := by
  refine run_convert_bytes_back (P := Tryd.prog) (w.alloc (.cells #[.int .u8 (48 + d)] 5)) 112 9 5 ⟨w.heap.size, 0, none⟩ 1 [UInt8.ofNat (48 + d.toNat)] Tryd.underlying112 Tryd.underlying5 Tryd.underlying9 fun j hj => ?_
  have hj0 : j = 0 := by simp at hj; omega
  subst hj0
  show (w.alloc (.cells #[.int .u8 (48 + d)] 5)).cell? ⟨w.heap.size, 0, none⟩ = _
  rw [(Blk.new w 5 #[.int .u8 (48 + d)]).cell]
  simp only [List.getElem_cons_zero]
  rw [digit_toNat (by omega)]
  show some (Value.int .u8 (48 + d)) = _
  congr 2
  omega
/-- One digit ahead of a text. -/
theorem ahead_data (c : UInt8) (s : ByteArray) : (({ data := #[c] } : ByteArray) ++ s).data.toList = c :: s.data.toList := by
  rw [Joins.data_append]
  rfl
theorem ret_str {a b : ByteArray} (h : a = b) : Ending.returned (.string a) = .returned (.string b) := by rw [h]
theorem digit_add {d : Nat} (h : d < 10) : (48 : UInt8) + UInt8.ofNat d = UInt8.ofNat (48 + d) := by
  apply UInt8.toNat_inj.1
  rw [digit_toNat h, UInt8.toNat_add, UInt8.toNat_ofNat']
  have : (48 : UInt8).toNat = 48 := rfl
  rw [this]
  omega
theorem dec_ahead {a : Int} (ha : 0 ≤ a) (h : ¬ a < 10) : Lib.decDigits a.toNat = Lib.decDigits (a / 10).toNat ++ [(48 : UInt8) + UInt8.ofNat (a % 10).toNat] := by
  rw [dec_big (by omega), digit_add (by omega)]
  congr 2
  · omega
  · congr 2; omega
theorem dec_last {a : Int} (ha : 0 ≤ a) (h : a < 10) : Lib.decDigits a.toNat = [(48 : UInt8) + UInt8.ofNat (a % 10).toNat] := by
  rw [dec_small (by omega), digit_add (by omega)]
  congr 2; omega
set_option maxRecDepth 100000 in
set_option maxHeartbeats 1000000 in
theorem Text_pos (n : Int) (hn : 0 ≤ n) (hM : n ≤ 1125899906842624) (w : World) :
    Calls Tryd.prog 28 #[.int .i64 n] w fun e w' => e = .returned (.string (txt n)) ∧ NewW w w' := by
  have hn0 : decide (n < 0) = false := by simpa using hn
  have hlen := itoa_len20 (n := n) (by omega) (by omega)
  rw [itoa_pos (by omega)] at hlen
  have HLN := Lib.hid hlen
  have HTX := Lib.hid (show (txt n).data.toList = Lib.decDigits n.toNat by rw [txt_data, itoa_pos (by omega)])
  clear hlen
  go_enter Tryd.func28, Tryd.ntmps28
  go_wp2_with fail
  go_loopw [0, 3] (fun i v wr => ∃ (a : Int) (s : ByteArray), 0 ≤ a ∧ a ≤ 1125899906842624 ∧ i = .int .i64 a ∧ v = .string s ∧ Lib.decDigits n.toNat = Lib.decDigits a.toNat ++ s.data.toList ∧ NewW w wr) (fun i _ _ => (intOf i).toNat)
  case atStart => exact ⟨n, ⟨#[]⟩, hn, hM, rfl, rfl, by simp, Ch.refl _ _⟩
  case round =>
    obtain ⟨a, s, ha, haM, rfl, rfl, hd, hC⟩ := hrel
    have hs : s.size ≤ 40 := by
      have h1 := congrArg List.length hd
      rw [List.length_append, size_len] at h1
      have := HLN.out
      omega
    have HCB := Lib.hid (hC.alloc (.cells #[.int .u8 (48 + a % 10)] 5))
    have HD := Lib.hid hd
    have hcv := conv_one wr (a % 10) (by omega) (by omega)
    have hwr : IntKind.u8.wrap (48 + a % 10) = 48 + a % 10 := IntWalk.u8_in _ ⟨by omega, by omega⟩
    clear hC hd
    by_cases h10 : a < 10
    · have t : (a / 10 == 0) = true := by simp; omega
      have t' : decide (a / 10 = 0) = true := by simp; omega
      have HL := Lib.hid (dec_last ha h10)
      clear h10
      go_wp2_with fail
      go_ret
      refine ⟨ret_str (key_inj ?_), HCB.out⟩
      rw [HTX.out, HD.out, HL.out, ahead_data]
      rfl
    · have t : (a / 10 == 0) = false := by simp; omega
      have t' : decide (a / 10 = 0) = false := by simp; omega
      have h0 : 0 ≤ a / 10 := by omega
      have hlt : (a / 10).toNat < a.toNat := by omega
      have HL := Lib.hid (dec_ahead ha h10)
      clear h10
      go_wp2_with fail
      refine ⟨⟨a / 10, _, h0, by omega, rfl, rfl, ?_, HCB.out⟩, by simpa [intOf] using hlt⟩
      rw [HD.out, HL.out, ahead_data]
      simp
theorem Text_ref (n : Int) (h0 : -1125899906842624 ≤ n) (h1 : n ≤ 1125899906842624) (w : World) :
    Calls Tryd.prog 28 #[.int .i64 n] w fun e w' => e = .returned (.string (txt n)) ∧ NewW w w' := by
  by_cases hn : 0 ≤ n
  · exact Text_pos n hn h1 w
  · have HT := Lib.hid (fun w => Text_pos (-n) (by omega) (by omega) w)
    have hl : decide (n < 0) = true := by simp; omega
    have hlen := itoa_len20 (n := -n) (by omega) (by omega)
    have hsz : (txt (-n)).size ≤ 40 := by rw [← size_len, txt_data]; omega
    have HTX := Lib.hid (show (txt n).data.toList = 45 :: (txt (-n)).data.toList by
      rw [txt_data, txt_data, itoa_minus (by omega), itoa_pos (by omega)]
      congr 2
      omega)
    generalize txt (-n) = T at *
    clear hlen
    go_enter Tryd.func28, Tryd.ntmps28
    go_wp2_with fail
    refine (HT.out _).mono ?_
    rintro e w2 ⟨rfl, hN⟩
    dsimp only
    have HN := Lib.hid hN
    clear hN
    go_wp2_with fail
    go_ret
    refine ⟨ret_str (key_inj ?_), HN.out⟩
    rw [HTX.out, ahead_data]
end Go.Proofs.YtbggadhaaphmcaaDoor
