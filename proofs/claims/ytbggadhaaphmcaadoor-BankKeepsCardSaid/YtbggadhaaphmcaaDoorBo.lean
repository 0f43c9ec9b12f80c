/- bank: Audit, Open. -/
import Derived.Test.YtbggadhaaphmcaaDoorBm
import Derived.Test.YtbggadhaaphmcaaDoorRu
namespace Go.Proofs.YtbggadhaaphmcaaDoor
open Go.Lib Go.RowKit
set_option linter.unusedVariables false

theorem op_info : (Tryd.prog.info? 41).map (fun i => (i.zero, i.size, i.bytes)) = some (some (.agg #[.int .i64 0, .string ⟨#[]⟩, .string ⟨#[]⟩, .int .i64 0]), 4, 48) := by kernel_rfl
def auditL (k : Nat) : List OpD := (List.range k).map fun (i : Nat) => ⟨1, keyT (i : Int), emp, 0⟩
def openL (k : Nat) (v : ByteArray) : List OpD := (List.range k).map fun (i : Nat) => ⟨2, keyT (i : Int), v, 0⟩
theorem auditL_len (k : Nat) : (auditL k).length = k := by simp [auditL]
theorem openL_len (k : Nat) (v : ByteArray) : (openL k v).length = k := by simp [openL]
theorem auditL_snoc (k : Nat) : auditL (k + 1) = auditL k ++ [⟨1, keyT k, emp, 0⟩] := by simp [auditL, List.range_succ]
theorem openL_snoc (k : Nat) (v : ByteArray) : openL (k + 1) v = openL k v ++ [⟨2, keyT k, v, 0⟩] := by simp [openL, List.range_succ]
set_option maxRecDepth 100000 in
set_option maxHeartbeats 4000000 in
theorem Audit_bad (n : Int) (h : isB n = false) (w : World) : Calls Tryd.prog 33 #[.int .i64 n] w fun e w' => e = .returned (.tuple #[.slice none 0 0, .int .i64 1]) ∧ NewW w w' := by
  have HI := Lib.hid (fun w' => is_any n w')
  rw [h] at HI
  clear h
  go_enter Tryd.func33, Tryd.ntmps33
  go_wp2_with fail
  refine (HI.out _).mono ?_
  rintro e w2 ⟨rfl, rfl⟩
  dsimp only
  go_wp2_with fail
  go_ret2
  exact ⟨rfl, Ch.refl _ _⟩
set_option maxRecDepth 100000 in
set_option maxHeartbeats 4000000 in
theorem Audit_any (n : Nat) (h1 : 1 ≤ n) (h2 : n ≤ 16) (w : World) : Calls Tryd.prog 33 #[.int .i64 n] w fun e w' => ∃ (A : Option Addr) (c : Nat), e = .returned (.tuple #[.slice A n c, .int .i64 0]) ∧ Ops w' A n (auditL n) ∧ NewW w w' := by
  have HI := Lib.hid (fun w' => is_any n w')
  rw [show isB n = true by unfold isB; simp; omega] at HI
  obtain ⟨i1, hi1, hy0, hy1, hy2⟩ := info_parts op_info
  have hnI : (n : Int) ≤ 16 := by omega
  go_enter Tryd.func33, Tryd.ntmps33
  go_wp2_with fail
  refine (HI.out _).mono ?_
  rintro e w2 ⟨rfl, rfl⟩
  dsimp only
  go_wp2_with fail
  go_loopw [4, 10] (fun ov i wr => ∃ k : Nat, k ≤ n ∧ i = .int .i64 k ∧ wr.ownsRow w.heap.size 41 4 ov k (flatO (auditL k)) ∧ NewW w wr) (fun _ i _ => n - (intOf i).toNat)
  case atStart => exact ⟨0, by omega, rfl, own_nil, Ch.refl _ _⟩
  case round =>
    obtain ⟨k, hk, rfl, hO, hC⟩ := hrel
    obtain ⟨A7, q7, rfl⟩ := own_form hO
    have HO7 := Lib.hid hO
    have HC := Lib.hid hC
    clear hO hC
    by_cases hlt : k < n
    · have hk16 : k < 16 := by omega
      have HK := Lib.hid (fun w' => Key_any k (by omega) (by omega) w')
      have HSN := Lib.hid (auditL_snoc k)
      generalize keyT (k : Int) = KT at *
      generalize hr1 : auditL k = r1 at *
      clear hr1
      go_wp2_with fail
      refine (HK.out _).mono ?_
      rintro e w9 ⟨rfl, hN⟩
      dsimp only
      have HC9 := Lib.hid (show Ch (fun _ => False) w w9 from HC.out.trans' hN)
      have HOM := Lib.hid (own_ch HO7.out hN (fun _ _ h => h))
      have hB9 := HC9.out.size
      clear hN HK
      go_wp2_with (first
        | (at_builtin
           refine wpList_append_any _ rfl (.tmp 13) (.tmp 17) _ rfl w.heap.size 41 i1 _ 4 48 Tryd.underlying31 hi1 hy0 hy1 hy2 rfl (by omega) _ k (flatO r1) rfl
             (own_ch HOM.out ((Ch.refl (fun _ => False) _).alloc _) (fun _ _ h => h)) (w9.heap.size + 1) (some ⟨w9.heap.size, 0, none⟩) 1 1 [.int .i64 1, .string KT, .string ⟨#[]⟩, .int .i64 0] rfl (reads_new w9 41 #[.int .i64 1, .string KT, .string ⟨#[]⟩, .int .i64 0] 1 4 rfl) (by simp [Value.oneCell']) (by simp only [maxLen]; omega) (by omega) (by simp; omega) ?_
           intro v8 w8 hown8 hg8 hat8
           have HOA := Lib.hid hown8
           have HG8 := Lib.hid hg8
           clear hown8 hg8 hat8))
      first
        | refine ⟨⟨_, _, _, ⟨k + 1, by omega, by go_num, ?_, (HC9.out.alloc _).grown HG8.out (fun g hg => .inr (own_lt HO7.out hg).1)⟩, rfl, rfl, rfl⟩, by simp [intOf]; omega⟩
        | refine ⟨⟨_, _, ⟨k + 1, by omega, by go_num, ?_, (HC9.out.alloc _).grown HG8.out (fun g hg => .inr (own_lt HO7.out hg).1)⟩, rfl, rfl⟩, by simp [intOf]; omega⟩
        | refine ⟨⟨k + 1, by omega, by go_num, ?_, (HC9.out.alloc _).grown HG8.out (fun g hg => .inr (own_lt HO7.out hg).1)⟩, by simp [intOf]; omega⟩
      rw [HSN.out, flatO_snoc]
      exact HOA.out
    · obtain rfl : n = k := by omega
      clear hlt hk
      go_wp2_with fail
      go_ret2
      exact ⟨A7, q7, rfl, ⟨auditL_len n, Rd.own HO7.out⟩, HC.out⟩
set_option maxRecDepth 100000 in
set_option maxHeartbeats 4000000 in
theorem Open_bad (n s : Int) (h : (isB n && amB s) = false) (w : World) : Calls Tryd.prog 30 #[.int .i64 n, .int .i64 s] w fun e w' => e = .returned (.tuple #[.slice none 0 0, .int .i64 1]) ∧ NewW w w' := by
  have HI := Lib.hid (fun w' => is_any n w')
  have HA := Lib.hid (fun w' => amount_any s w')
  rcases Bool.eq_false_or_eq_true (isB n) with h1 | h1
  · rw [h1] at h HI
    rw [Bool.true_and] at h
    rw [h] at HA
    clear h h1
    go_enter Tryd.func30, Tryd.ntmps30
    go_wp2_with fail
    refine (HI.out _).mono ?_
    rintro e w2 ⟨rfl, rfl⟩
    dsimp only
    go_wp2_with fail
    refine (HA.out _).mono ?_
    rintro e w2 ⟨rfl, rfl⟩
    dsimp only
    go_wp2_with fail
    go_ret2
    exact ⟨rfl, Ch.refl _ _⟩
  · rw [h1] at HI
    clear h h1
    go_enter Tryd.func30, Tryd.ntmps30
    go_wp2_with fail
    refine (HI.out _).mono ?_
    rintro e w2 ⟨rfl, rfl⟩
    dsimp only
    go_wp2_with fail
    go_ret2
    exact ⟨rfl, Ch.refl _ _⟩
set_option maxRecDepth 100000 in
set_option maxHeartbeats 4000000 in
theorem Open_any (n : Nat) (s : Int) (h1 : 1 ≤ n) (h2 : n ≤ 16) (hs : amB s = true) {w : World} (hE : Env w) : Calls Tryd.prog 30 #[.int .i64 n, .int .i64 s] w fun e w' => ∃ (A : Option Addr) (c : Nat), e = .returned (.tuple #[.slice A n c, .int .i64 0]) ∧ Ops w' A n (openL n (txt s)) ∧ NewW w w' := by
  have HI := Lib.hid (fun w' => is_any n w')
  have HA := Lib.hid (fun w' => amount_any s w')
  rw [show isB n = true by unfold isB; simp; omega] at HI
  rw [hs] at HA
  have hsb : -1048576 ≤ s ∧ s ≤ 1048576 := by unfold amB at hs; simpa using hs
  have HT := Lib.hid (fun w' (hc : NewW w w') => Text_any s (by omega) (by omega) (hE.new_ hc))
  obtain ⟨i1, hi1, hy0, hy1, hy2⟩ := info_parts op_info
  have hnI : (n : Int) ≤ 16 := by omega
  generalize txt s = T at *
  clear hs hsb hE
  go_enter Tryd.func30, Tryd.ntmps30
  go_wp2_with fail
  refine (HI.out _).mono ?_
  rintro e w2 ⟨rfl, rfl⟩
  dsimp only
  go_wp2_with fail
  refine (HA.out _).mono ?_
  rintro e w2 ⟨rfl, rfl⟩
  dsimp only
  go_wp2_with fail
  go_loopw [6, 17] (fun ov i wr => ∃ k : Nat, k ≤ n ∧ i = .int .i64 k ∧ wr.ownsRow w.heap.size 41 4 ov k (flatO (openL k T)) ∧ NewW w wr) (fun _ i _ => n - (intOf i).toNat)
  case atStart => exact ⟨0, by omega, rfl, own_nil, Ch.refl _ _⟩
  case round =>
    obtain ⟨k, hk, rfl, hO, hC⟩ := hrel
    obtain ⟨A7, q7, rfl⟩ := own_form hO
    have HO7 := Lib.hid hO
    have HC := Lib.hid hC
    clear hO hC
    by_cases hlt : k < n
    · have hk16 : k < 16 := by omega
      have HK := Lib.hid (fun w' => Key_any k (by omega) (by omega) w')
      have HSN := Lib.hid (openL_snoc k T)
      generalize keyT (k : Int) = KT at *
      generalize hr1 : openL k T = r1 at *
      clear hr1
      go_wp2_with fail
      refine (HK.out _).mono ?_
      rintro e w5 ⟨rfl, hN⟩
      dsimp only
      have HC5 := Lib.hid (show Ch (fun _ => False) w w5 from HC.out.trans' hN)
      have HO5 := Lib.hid (own_ch HO7.out hN (fun _ _ h => h))
      clear hN HK
      go_wp2_with fail
      refine (HT.out _ HC5.out).mono ?_
      rintro e w9 ⟨rfl, hN⟩
      dsimp only
      have HC9 := Lib.hid (show Ch (fun _ => False) w w9 from HC5.out.trans' hN)
      have HOM := Lib.hid (own_ch HO5.out hN (fun _ _ h => h))
      have hB9 := HC9.out.size
      clear hN HO5 HC5
      go_wp2_with (first
        | (at_builtin
           refine wpList_append_any _ rfl (.tmp 20) (.tmp 26) _ rfl w.heap.size 41 i1 _ 4 48 Tryd.underlying31 hi1 hy0 hy1 hy2 rfl (by omega) _ k (flatO r1) rfl
             (own_ch HOM.out ((Ch.refl (fun _ => False) _).alloc _) (fun _ _ h => h)) (w9.heap.size + 1) (some ⟨w9.heap.size, 0, none⟩) 1 1 [.int .i64 2, .string KT, .string T, .int .i64 0] rfl (reads_new w9 41 #[.int .i64 2, .string KT, .string T, .int .i64 0] 1 4 rfl) (by simp [Value.oneCell']) (by simp only [maxLen]; omega) (by omega) (by simp; omega) ?_
           intro v8 w8 hown8 hg8 hat8
           have HOA := Lib.hid hown8
           have HG8 := Lib.hid hg8
           clear hown8 hg8 hat8))
      first
        | refine ⟨⟨_, _, _, ⟨k + 1, by omega, by go_num, ?_, (HC9.out.alloc _).grown HG8.out (fun g hg => .inr (own_lt HO7.out hg).1)⟩, rfl, rfl, rfl⟩, by simp [intOf]; omega⟩
        | refine ⟨⟨_, _, ⟨k + 1, by omega, by go_num, ?_, (HC9.out.alloc _).grown HG8.out (fun g hg => .inr (own_lt HO7.out hg).1)⟩, rfl, rfl⟩, by simp [intOf]; omega⟩
        | refine ⟨⟨k + 1, by omega, by go_num, ?_, (HC9.out.alloc _).grown HG8.out (fun g hg => .inr (own_lt HO7.out hg).1)⟩, by simp [intOf]; omega⟩
      rw [HSN.out, flatO_snoc]
      exact HOA.out
    · obtain rfl : n = k := by omega
      clear hlt hk
      go_wp2_with fail
      go_ret2
      exact ⟨A7, q7, rfl, ⟨openL_len n T, Rd.own HO7.out⟩, HC.out⟩
end Go.Proofs.YtbggadhaaphmcaaDoor
