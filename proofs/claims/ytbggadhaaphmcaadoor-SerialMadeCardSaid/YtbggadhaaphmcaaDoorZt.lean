/- serial: text: what a map has, as one text. -/
import Derived.Test.YtbggadhaaphmcaaDoorZa
import Derived.Lib.AppendStr
import Derived.Laws.IdiomStrings
namespace Go.Proofs.YtbggadhaaphmcaaDoor
open Go.Lib Go.RowKit
set_option linter.unusedVariables false

section
variable {P : Program} (w : World)
theorem wp_append_str {o : Oper} {a : Act} {K : Act → World → Prop} {Q : Exit → Act → World → Prop} (s x : Operand) (t u : TypeId)
    (ho : o.op = .call { callee := .builtin .append, args := #[s, x], argTypes := #[t, u] })
    (base : Nat) (e : TypeId) (i : TypeInfo) (ht : P.underlying t = some (.slice e)) (hu : P.underlying u = some .string) (hi : P.info? e = some i) (hz : i.zero = some (.int .u8 0))
    (hsize : i.size = 1) (hby : i.bytes = 1)
    (v : Value) (n : Nat) (xs : List Value) (hs : a.eval s = v) (hown : w.ownsRow base e 1 v n xs) (str : ByteArray) (hx : a.eval x = .string str)
    (h63 : n + str.size ≤ maxLen) (hbytes : n + str.size ≤ 140737488355328) (hbase : base ≤ w.heap.size)
    (h : ∀ v' w', w'.ownsRow base e 1 v' (n + str.size) (xs ++ strCells str) → w.grownBy w' v.ownBlock → K (a.put o.dst v') w') : o.wp P a w K Q := by
  obtain ⟨v', w', hrun, h2, h3, _⟩ := run_append_own_string (P := P) w base t u o.type e i ht hu hi hz hsize hby v n xs hown str h63 hbytes hbase
  unfold Oper.wp execOp
  simp only [ho, resolve, invoke, builtin, Sem.run_bind, Sem.run_pure, Result.andThen_ok, List.map_toArray, List.map_cons, List.map_nil, hs, hx, hrun]
  exact h v' w' h2 h3
theorem step_append_str {ops : Array Oper} {o : Oper} {a : Act} {K : Act → World → Prop} {Q : Exit → Act → World → Prop} {E : Prop} (hgd : o.guard = none) (s x : Operand) (t u : TypeId)
    (ho : o.op = .call { callee := .builtin .append, args := #[s, x], argTypes := #[t, u] })
    (base : Nat) (e : TypeId) (i : TypeInfo) (ht : P.underlying t = some (.slice e)) (hu : P.underlying u = some .string) (hi : P.info? e = some i) (hz : i.zero = some (.int .u8 0))
    (hsize : i.size = 1) (hby : i.bytes = 1)
    (v : Value) (n : Nat) (xs : List Value) (hs : a.eval s = v) (hown : w.ownsRow base e 1 v n xs) (str : ByteArray) (hx : a.eval x = .string str)
    (h63 : n + str.size ≤ maxLen) (hbytes : n + str.size ≤ 140737488355328) (hbase : base ≤ w.heap.size)
    (h : ∀ v' w', w'.ownsRow base e 1 v' (n + str.size) (xs ++ strCells str) → w.grownBy w' v.ownBlock → K (a.put o.dst v') w') :
    if Region.wanted o (yielded ops a.tmps) = true then Oper.wp P o a w K Q else E := by
  have hw : Region.wanted o (yielded ops a.tmps) = true := by simp [Region.wanted, hgd]
  rw [if_pos hw]
  exact wp_append_str w s x t u ho base e i ht hu hi hz hsize hby v n xs hs hown str hx h63 hbytes hbase h
end
theorem byte_info : (Tryd.prog.info? 5).map (fun i => (i.zero, i.size, i.bytes)) = some (some (.int .u8 0), 1, 1) := by kernel_rfl
def rowB (l : List UInt8) : List Value := l.map fun b => Value.int .u8 b.toNat
theorem rowB_app (a b : List UInt8) : rowB (a ++ b) = rowB a ++ rowB b := by simp [rowB]
theorem rowB_str (s : ByteArray) : rowB s.data.toList = strCells s := rfl
theorem b8_nat {n : Nat} (h : n < 256) : (b8 n).toNat = n := by
  unfold b8
  rw [UInt8.toNat_ofNat']
  omega
def OwnB (w : World) (B : Nat) (ov : Value) (l : List UInt8) : Prop := w.ownsRow B 5 1 ov l.length (rowB l)
theorem textL_take {L : Wl} {k : Nat} {x : ByteArray × ByteArray} (h : L[k]? = some x) : textL (L.take (k + 1)) = textL (L.take k) ++ ([b8 x.1.size, b8 x.2.size] ++ (x.1.data.toList ++ x.2.data.toList)) := by
  have hk := lt_of_some h
  rw [List.take_succ_eq_append_getElem hk]
  rw [List.getElem?_eq_getElem hk] at h
  injection h with h
  rw [h, textL_snoc]
theorem low_take {L : Wl} (h : LowW L) (k : Nat) : LowW (L.take k) := fun w hw => h w (List.mem_of_mem_take hw)
theorem text_fin {wr : World} {B : Nat} {ov : Value} {L : Wl} {k LT : Nat} {TX : List UInt8} {key val : ByteArray} (h : textL (L.take (k + 1)) = TX ++ ([b8 key.size, b8 val.size] ++ (key.data.toList ++ val.data.toList))) (hl : TX.length = LT) (h1 : key.size < 256) (h2 : val.size < 256)
    (ho : wr.ownsRow B 5 1 ov (LT + 2 + key.size + val.size) (rowB TX ++ [.int .u8 key.size, .int .u8 val.size] ++ strCells key ++ strCells val)) : OwnB wr B ov (textL (L.take (k + 1))) := by
  unfold OwnB
  have e1 : (textL (L.take (k + 1))).length = LT + 2 + key.size + val.size := by
    rw [h, List.length_append, List.length_append, List.length_append, data_len, data_len, hl]
    simp
    omega
  have e2 : rowB (textL (L.take (k + 1))) = rowB TX ++ [.int .u8 key.size, .int .u8 val.size] ++ strCells key ++ strCells val := by
    rw [h, rowB_app, rowB_app, rowB_app, rowB_str, rowB_str]
    have : rowB [b8 key.size, b8 val.size] = [.int .u8 key.size, .int .u8 val.size] := by
      simp [rowB, b8_nat h1, b8_nat h2]
    rw [this]
    simp
  rw [e1, e2]
  exact ho
set_option maxRecDepth 100000 in
theorem text_conv {w : World} {B q : Nat} {A : Option Addr} {l : List UInt8} (ho : w.ownsRow B 5 1 (.slice A l.length q) l.length (rowB l)) (hz : l = [] → Value.slice A l.length q = .slice none 0 0) :
    (Go.convert 112 9 (.slice A l.length q)).run Tryd.prog w = .ok (.string ⟨l.toArray⟩) w := by
  rcases l with _ | ⟨x, r⟩
  · rw [hz rfl]
    kernel_rfl
  · obtain ⟨g, cap, hv, _, _⟩ := ho.form (by simp)
    injection hv with hv _ hq
    subst hv hq
    refine run_convert_bytes_back (P := Tryd.prog) w 112 9 5 ⟨g, 0, none⟩ _ (x :: r) Tryd.underlying112 Tryd.underlying5 Tryd.underlying9 fun j hj => ?_
    refine ho.cells (g := g) rfl j _ ?_
    unfold rowB
    rw [List.getElem?_map, List.getElem?_eq_getElem hj]
    rfl
set_option maxRecDepth 100000 in
set_option maxHeartbeats 4000000 in
theorem text_any {w : World} {A : Option Addr} {n c : Nat} {L : Wl} (hL : Wrs w A n L) (hF : FitW L) (hn : n ≤ 1000) :
    Calls Tryd.prog 81 #[.slice A n c] w fun e w' => e = .returned (.string ⟨(textL L).toArray⟩) ∧ NewW w w' := by
  have HW := Lib.hid hL
  have HL := Lib.hid hL.1
  have HF := Lib.hid hF
  have hnI : (n : Int) ≤ 1000 := by omega
  obtain ⟨i1, hi1, hy0, hy1, hy2⟩ := info_parts byte_info
  clear hL hF
  go_enter Tryd.func81, Tryd.ntmps81
  go_wp2_with fail
  go_loopw [3, 8] (fun ov i wr => ∃ k : Nat, k ≤ n ∧ i = .int .i64 k ∧ OwnB wr w.heap.size ov (textL (L.take k)) ∧ (k = 0 → ov = .slice none 0 0) ∧ NewW w wr) (fun _ i _ => n - (intOf i).toNat)
  case atStart => exact ⟨0, by omega, rfl, own_nil, fun _ => rfl, Ch.refl _ _⟩
  case round =>
    obtain ⟨k, hk, rfl, hO, hz0, hC⟩ := hrel
    obtain ⟨A7, q7, rfl⟩ := own_form hO
    have HC := Lib.hid hC
    have HZ := Lib.hid hz0
    have HO := Lib.hid (show wr.ownsRow w.heap.size 5 1 (.slice A7 (textL (L.take k)).length q7) (textL (L.take k)).length (rowB (textL (L.take k))) from hO)
    clear hO hC hz0
    by_cases hlt : k < n
    · obtain ⟨x, hx⟩ := some_of_lt (show k < L.length by rw [HL.out]; exact hlt)
      obtain ⟨b, off, rfl, x0, x1, x2⟩ := (HW.out.new_ HC.out).at_ hx
      have hfx := HF.out x (mem_of_some hx)
      have HT := Lib.hid (textL_take hx)
      have hln := textL_len (low_take HF.out.low k)
      rw [List.length_take, HL.out] at hln
      obtain ⟨key, val⟩ := x
      dsimp only at x0 x1 x2 hfx HT
      obtain ⟨hf0, hf1, hf2⟩ := hfx
      generalize hTX : textL (L.take k) = TX at *
      generalize hLT : TX.length = LT at *
      have HLT := Lib.hid hLT
      have hbt : LT ≤ 514000 := by omega
      have e1 : IntKind.u8.wrap (key.size : Int) = key.size := IntWalk.u8_in _ ⟨by omega, by omega⟩
      have e2 : IntKind.u8.wrap (val.size : Int) = val.size := IntWalk.u8_in _ ⟨by omega, by omega⟩
      have hLB := Blk.new wr 101 #[.string key, .string val, .bool true]
      have HA1 := Lib.hid ((Ch.refl (fun _ => False) wr).alloc (.cells #[.string key, .string val, .bool true] 101))
      have HLB := Lib.hid hLB
      clear hx hTX hLT hln hLB
      have HRD := Lib.hid (show Reads ((wr.alloc (.cells #[.string key, .string val, .bool true] 101)).alloc (.cells #[.int .u8 key.size, .int .u8 val.size] 5)) (wr.heap.size + 2) 1 (some ⟨wr.heap.size + 1, 0, none⟩) 2 [.int .u8 key.size, .int .u8 val.size] from by
        have h := reads_new (wr.alloc (.cells #[.string key, .string val, .bool true] 101)) 5 #[.int .u8 key.size, .int .u8 val.size] 2 1 rfl
        rw [World.size_alloc] at h
        exact h)
      have HOW := Lib.hid (show ((wr.alloc (.cells #[.string key, .string val, .bool true] 101)).alloc (.cells #[.int .u8 key.size, .int .u8 val.size] 5)).ownsRow w.heap.size 5 1 (.slice A7 LT q7) LT (rowB TX) from own_ch HO.out (HA1.out.alloc _) (fun _ _ h => h))
      have HLA := Lib.hid (show Blk ((wr.alloc (.cells #[.string key, .string val, .bool true] 101)).alloc (.cells #[.int .u8 key.size, .int .u8 val.size] 5)) wr.heap.size 101 #[.string key, .string val, .bool true] from HLB.out.alloc _)
      have HNE := Lib.hid (own_blk_ne HOW.out HLA.out (by decide))
      have HCA := Lib.hid (show Ch (fun _ => False) w ((wr.alloc (.cells #[.string key, .string val, .bool true] 101)).alloc (.cells #[.int .u8 key.size, .int .u8 val.size] 5)) from HC.out.trans' (HA1.out.alloc _))
      have HOL := Lib.hid (fun g (hg : (Value.slice A7 LT q7).ownBlock = some g) => (own_lt HO.out hg).1)
      have HBS := Lib.hid (show w.heap.size ≤ ((wr.alloc (.cells #[.string key, .string val, .bool true] 101)).alloc (.cells #[.int .u8 key.size, .int .u8 val.size] 5)).heap.size from by have := HC.out.size; simp; omega)
      have HM1 := Lib.hid (show LT + 2 ≤ maxLen from by unfold maxLen; omega)
      have HM2 := Lib.hid (show (LT + 2) * 1 ≤ 140737488355328 from by omega)
      have HON := Lib.hid (show ∀ u ∈ [Value.int .u8 key.size, .int .u8 val.size], u.oneCell' = true from by simp [Value.oneCell'])
      go_wp2_with (first
        | (at_builtin
           refine wpList_append_any _ rfl (.tmp 12) (.tmp 21) _ rfl w.heap.size 5 i1 _ 1 1 Tryd.underlying112 hi1 hy0 hy1 hy2 rfl (by omega) _ LT (rowB TX) rfl
             HOW.out (wr.heap.size + 2) (some ⟨wr.heap.size + 1, 0, none⟩) 2 2 [.int .u8 key.size, .int .u8 val.size] rfl HRD.out HON.out HM1.out HM2.out HBS.out ?_
           intro v8 w8 hown8 hg8 hat8
           have HO8 := Lib.hid hown8
           have HLB8 := Lib.hid (HLA.out.grown hg8 (fun e => HNE.out e.symm))
           have HC8 := Lib.hid (HCA.out.grown hg8 (fun g hg => .inr (HOL.out g hg)))
           clear hown8 hg8 hat8))
      have HOD := Lib.hid (show w8.drew.ownsRow w.heap.size 5 1 v8 (LT + 2) (rowB TX ++ [.int .u8 key.size, .int .u8 val.size]) from HO8.out.drew)
      have HLD := Lib.hid (show Blk w8.drew wr.heap.size 101 #[.string key, .string val, .bool true] from HLB8.out.drew)
      have HND := Lib.hid (own_blk_ne HOD.out HLD.out (by decide))
      have HOL8 := Lib.hid (fun g (hg : v8.ownBlock = some g) => (own_lt HO8.out hg).1)
      have HCD := Lib.hid (show Ch (fun _ => False) w w8.drew from HC8.out.drew)
      have z0 := HLB8.out.cell 0
      have z1 := HLB8.out.cell 1
      have HB8 := Lib.hid (show w.heap.size ≤ w8.drew.heap.size from HCD.out.size)
      have HN1 := Lib.hid (show LT + 2 + key.size ≤ maxLen from by unfold maxLen; omega)
      have HN2 := Lib.hid (show LT + 2 + key.size ≤ 140737488355328 from by omega)
      have HN3 := Lib.hid (show LT + 2 + key.size + val.size ≤ maxLen from by unfold maxLen; omega)
      have HN4 := Lib.hid (show LT + 2 + key.size + val.size ≤ 140737488355328 from by omega)
      clear HOW HLA HNE HCA HOL HBS HM1 HM2 HON HRD HC8 HO8 HLB8 HLB HA1 x0 x1 x2
      go_region_law (first
        | (refine step_append_str _ rfl (.tmp 23) (.tmp 25) 112 9 rfl w.heap.size 5 i1 Tryd.underlying112 Tryd.underlying9 hi1 hy0 hy1 hy2 v8 (LT + 2) (rowB TX ++ [.int .u8 key.size, .int .u8 val.size]) rfl HOD.out key rfl HN1.out HN2.out HB8.out ?_
           intro v9 w9 hown9 hg9
           have HO9 := Lib.hid hown9
           have HL9 := Lib.hid (HLD.out.grown hg9 (fun e => HND.out e.symm))
           have HC9 := Lib.hid (HCD.out.grown hg9 (fun g hg => .inr (HOL8.out g hg)))
           have y1 := HL9.out.cell 1
           have HB9 := Lib.hid (show w.heap.size ≤ w9.heap.size from HC9.out.size)
           clear hown9 hg9)
        | (refine step_append_str _ rfl (.tmp 26) (.tmp 28) 112 9 rfl w.heap.size 5 i1 Tryd.underlying112 Tryd.underlying9 hi1 hy0 hy1 hy2 v9 (LT + 2 + key.size) (rowB TX ++ [.int .u8 key.size, .int .u8 val.size] ++ strCells key) rfl HO9.out val rfl HN3.out HN4.out HB9.out ?_
           intro va wa howna hga
           have HOa := Lib.hid howna
           have HCa := Lib.hid (HC9.out.grown hga (fun g hg => .inr (own_lt HO9.out hg).1))
           clear howna hga))
      all_goals
        go_wp2_with fail
        refine ⟨⟨k + 1, by omega, by go_num, ?_, fun h => absurd h (by omega), HCa.out⟩, by simp [intOf]; omega⟩
        exact text_fin HT.out HLT.out (by omega) (by omega) HOa.out
    · obtain rfl : n = k := by omega
      have ht : L.take n = L := by rw [← HL.out, List.take_length]
      rw [ht] at HO
      have hcv : (Go.convert 112 9 (.slice A7 (textL (L.take n)).length q7)).run Tryd.prog wr = .ok (.string ⟨(textL L).toArray⟩) wr := by
        rw [ht]
        exact text_conv HO.out (fun e => by
          have := HZ.out (by
            rcases L with _ | ⟨x, r⟩
            · exact HL.out.symm
            · simp [textL] at e)
          rw [ht] at this
          exact this)
      clear hlt hk ht
      go_wp2_with fail
      go_ret
      exact ⟨rfl, HC.out⟩
end Go.Proofs.YtbggadhaaphmcaaDoor
