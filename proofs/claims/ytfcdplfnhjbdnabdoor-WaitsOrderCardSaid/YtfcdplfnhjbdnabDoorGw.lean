/- From, all, elders: the walks. -/
import Derived.Test.YtfcdplfnhjbdnabDoorGp
import Derived.Test.YtfcdplfnhjbdnabDoorShelf
import Derived.Deep.QuietTactic
import Derived.BigQuiet
import Derived.Deep.DeepCutAuto
import Derived.StillTailTactics
namespace Go.Proofs.YtfcdplfnhjbdnabDoor
open Go.RowKit
set_option linter.unusedVariables false

abbrev Tab (w : World) : Prop := TabAt 0 Lib.deBruijn64tab w
theorem Tab.new_ {w w' : World} (h : Tab w) (hc : NewW w w') : Tab w' := fun j hj => new_cell hc (h j hj)
theorem w_pow {i : Nat} (hi : i < 64) : IntKind.u64.wrap ((2 : Int) ^ i) = ((2 ^ i : Nat) : Int) := by
  have h := pow64 hi
  have e : (2 : Int) ^ i = ((2 ^ i : Nat) : Int) := by simp
  rw [e]
  generalize (2 : Nat) ^ i = q at *
  rw [IntKind.wrap_u64]
  omega
theorem b_or {S i : Nat} (hS : S < 18446744073709551616) (hi : i < 64) : bits BinOp.or IntKind.u64 (S : Int) (IntKind.u64.wrap ((2 : Int) ^ i)) = ((S ||| 2 ^ i : Nat) : Int) := by rw [w_pow hi, u64_or_nat _ _ hS (pow64 hi)]
theorem b_not {T i : Nat} (hT : T < 18446744073709551616) (hi : i < 64) : bits BinOp.andNot IntKind.u64 (T : Int) (IntKind.u64.wrap ((2 : Int) ^ i)) = ((minus T (2 ^ i) : Nat) : Int) := by
  rw [w_pow hi, u64_andNot_nat _ _ hT (pow64 hi)]; rfl
theorem from_any {w : World} {B b : Nat} {l : List Nd} {v : Value} (h : GM w B b l v) (hT : Tab w) {a by_ : Nat} (ha : a < l.length) (hby : by_ < 18446744073709551616) :
    Calls Tryd.prog 36 #[.pointer (some ⟨b, 0, none⟩), .int .i64 a, .int .u64 by_] w fun e w' => e = .returned (.int .u64 (fromG l by_ a)) ∧ NewW w w' := by
  obtain ⟨A, q, rfl⟩ := own_form h.own
  obtain ⟨x, hx⟩ := some_of_lt ha
  obtain ⟨g, cap, hv, r0, r1, r2⟩ := h.at_ hx
  injection hv with hA hn hq
  subst hA hq
  have hto := toAt_of hx
  rw [← hto] at r2
  have hmid := Mid.begin h.ok by_ a
  have c0 := h.c0
  obtain ⟨R, hR⟩ : ∃ R, fromG l by_ a = R := ⟨_, rfl⟩
  rw [hR]
  have hR : goG l by_ 18446744073709551616 0 (toAt l a) = R := hR
  obtain ⟨T0, hT0⟩ : ∃ T0, toAt l a = T0 := ⟨_, rfl⟩
  rw [hT0] at hR hmid r2
  have HR := Lib.hid hR
  have HM := Lib.hid hmid
  have HH := Lib.hid h
  have HT := Lib.hid hT
  have h64 := h.ok.len
  have haI : (a : Int) < (l.length : Int) := by omega
  clear hR hmid h hT hto hT0 hx hn r0 r1
  generalize hLN : l.length = LN at *
  have HLN := Lib.hid hLN
  clear hLN
  go_enter Tryd.func36, Tryd.ntmps36
  go_wp2_with fail
  go_quiet (fail)
  go_wp2_with fail
  go_loopw [7, 8] (fun s t w' => ∃ (n S T : Nat), s = .int .u64 S ∧ t = .int .u64 T ∧ Mid l by_ a n S T ∧ goG l by_ n S T = R ∧ NewW w w') (fun s _ _ => 18446744073709551616 - (intOf s).toNat)
  case atStart => exact ⟨_, 0, T0, rfl, rfl, HM.out, HR.out, by first | exact Ch.refl _ _ | exact (Ch.refl _ _).drew | exact (Ch.refl _ _).drewN _⟩
  case round =>
    obtain ⟨n, S, T, rfl, rfl, hM, hR, hC⟩ := hrel
    by_cases ht : T = 0
    · subst ht
      obtain ⟨m, rfl⟩ := hM.pos
      rw [goG_succ, if_pos rfl] at hR
      have HR2 := Lib.hid hR
      have HC := Lib.hid hC
      clear hM hR hC
      go_wp2_with fail
      go_ret
      exact ⟨by rw [← HR2.out]; rfl, HC.out⟩
    · obtain ⟨m, rfl⟩ := hM.pos
      rw [goG_succ, if_neg ht] at hR
      have hM' := hM.next HH.out.ok ht
      have t64 := len64 HH.out.ok hM.t64
      obtain ⟨hi, hb⟩ := ctz_bit ht t64
      have hil := bit_lt hM.t64 hb
      have HTZ := Lib.hid (Tryd.tz64 T t64 wr (fun _ => HT.out.new_ hC))
      have dT : ((T : Int) != 0) = true := by simp; omega
      have dT' : (T != 0) = true := by simp; omega
      unfold goStep at hR hM'
      simp only at hR hM'
      have hM64 := Lib.hid hM.s64
      have hMs := Lib.hid (show S < (S ||| 2 ^ Lib.ctz 64 T) ∧ (S ||| 2 ^ Lib.ctz 64 T) < 18446744073709551616 from ⟨Mid.grow HH.out.ok hM ht, hM'.s64⟩)
      have HHA := Lib.hid (fun w' => has_any by_ (Lib.ctz 64 T) hby hi w')
      generalize hgi : Lib.ctz 64 T = i at *
      have hiI : (i : Int) < 64 := by omega
      obtain ⟨y, hy⟩ := some_of_lt (show i < l.length from hil)
      obtain ⟨g', cap', hv', s0, s1, s2⟩ := (HH.out.new_ hC).at_ hy
      injection hv' with hA' hn' hq'
      injection hA' with hA'
      injection hA' with hA'
      subst hA'
      rw [← toAt_of hy] at s2
      have c0' := (HH.out.new_ hC).c0
      have hilI : (i : Int) < (LN : Int) := by have := HLN.out; omega
      have HR' := Lib.hid hR
      have HM' := Lib.hid hM'
      have HC' := Lib.hid hC
      clear hR hM' hC hM s0 s1 hy hn' hq' hb hil
      have hs64 := hM64.out
      have E1 := Lib.hid (b_or hs64 hi)
      have E2 := Lib.hid (b_not t64 hi)
      have o64 := or_lt64 hs64 (pow64 hi)
      have u64 := len64 HH.out.ok (to_lt HH.out.ok i)
      have m64 := minus_lt (b := 2 ^ i) t64
      have E3 := Lib.hid (show bits BinOp.andNot IntKind.u64 (toAt l i : Int) ((S ||| 2 ^ i : Nat) : Int) = ((minus (toAt l i) (S ||| 2 ^ i) : Nat) : Int) from by rw [u64_andNot_nat _ _ u64 o64]; rfl)
      have E4 := Lib.hid (u64_or_nat (minus T (2 ^ i)) (minus (toAt l i) (S ||| 2 ^ i)) m64 (minus_lt u64))
      have hgr := hMs.out
      clear o64 u64 m64 hs64 t64 hM64 hMs
      rcases hbt : by_.testBit i with _ | _
      all_goals
        rw [hbt] at HHA HR' HM'
        have HB := Lib.hid hbt
        clear hbt
        go_wp2_with (first
          | (go_at_call 45; refine HTZ.out.mono ?_; rintro e w2 ⟨rfl, rfl⟩)
          | (go_at_call 38; refine (HHA.out _).mono ?_; rintro e w2 ⟨rfl, rfl⟩))
      · rw [E1.out, E2.out]
        exact ⟨⟨m, _, _, rfl, rfl, HM'.out, HR'.out, HC'.out⟩, by simp only [intOf, Int.toNat_natCast]; omega⟩
      · rw [E1.out, E2.out, E3.out, E4.out]
        exact ⟨⟨m, _, _, rfl, rfl, HM'.out, HR'.out, HC'.out⟩, by simp only [intOf, Int.toNat_natCast]; omega⟩
/-! ### All places, and the elder ones' -/
theorem allN_lt {n : Nat} (h : n ≤ 64) : 2 ^ n - 1 < 18446744073709551616 := by
  have : (2 : Nat) ^ n ≤ 2 ^ 64 := Nat.pow_le_pow_right (by decide) h
  omega
theorem allN_step {k : Nat} : (2 ^ k - 1) ||| 2 ^ k = 2 ^ (k + 1) - 1 := bits_eq fun j => by
  rw [Nat.testBit_or, bit_pow, Nat.testBit_two_pow_sub_one, Nat.testBit_two_pow_sub_one]
  by_cases h1 : j < k
  · rw [decide_eq_true h1, decide_eq_true (show j < k + 1 by omega)]; rfl
  · by_cases h2 : k = j
    · subst h2; simp
    · rw [decide_eq_false h1, decide_eq_false h2, decide_eq_false (show ¬ j < k + 1 by omega)]; rfl
theorem all_any {w : World} {B b : Nat} {l : List Nd} {v : Value} (h : GM w B b l v) :
    Calls Tryd.prog 40 #[.pointer (some ⟨b, 0, none⟩)] w fun e w' => e = .returned (.int .u64 ((2 ^ l.length - 1 : Nat) : Int)) ∧ NewW w w' := by
  obtain ⟨A, q, rfl⟩ := own_form h.own
  have c0 := h.c0
  have h64 := h.ok.len
  clear h
  generalize l.length = n at *
  have hmax : (n : Int) ≤ 64 := by omega
  go_enter Tryd.func40, Tryd.ntmps40
  go_wp2_with fail
  go_loopw [3, 10] (fun s i w' => ∃ k S : Nat, k ≤ n ∧ i = .int .i64 k ∧ s = .int .u64 S ∧ S = 2 ^ k - 1 ∧ NewW w w') (fun _ i _ => n - (intOf i).toNat)
  case atStart => exact ⟨0, 0, by omega, rfl, rfl, rfl, Ch.refl _ _⟩
  case round =>
    obtain ⟨k, S, hk, rfl, rfl, hS, hC⟩ := hrel
    have HC := Lib.hid hC
    have HS := Lib.hid hS
    clear hC hS
    by_cases hlt : k < n
    · have E := Lib.hid (b_or (S := S) (i := k) (by rw [HS.out]; exact allN_lt (by omega)) (by omega))
      go_wp2_with fail
      rw [E.out]
      exact ⟨⟨k + 1, _, by omega, by go_num, rfl, by rw [HS.out, allN_step], HC.out⟩, by simp [intOf]; omega⟩
    · obtain rfl : k = n := by omega
      clear hlt hk
      go_wp2_with fail
      go_ret
      exact ⟨by rw [← HS.out]; rfl, HC.out⟩
def eldK (l : List Nd) (y : Nd) : Nat → Nat
  | 0 => 0
  | k + 1 => match l[k]? with
    | some x => if bef x y then eldK l y k ||| 2 ^ k else eldK l y k
    | none => eldK l y k
theorem eldK_step {l : List Nd} {y x : Nd} {k : Nat} (h : l[k]? = some x) : eldK l y (k + 1) = if bef x y then eldK l y k ||| 2 ^ k else eldK l y k := by
  rw [eldK, h]
theorem eldK_bit (l : List Nd) (y : Nd) (j : Nat) : ∀ k, (eldK l y k).testBit j = true ↔ j < k ∧ ∃ x : Nd, l[j]? = some x ∧ bef x y = true
  | 0 => by simp [eldK]
  | k + 1 => by
    have ih := eldK_bit l y j k
    rcases hx : l[k]? with _ | x
    · rw [eldK, hx]
      simp only
      rw [ih]
      refine ⟨fun ⟨h, h'⟩ => ⟨by omega, h'⟩, fun ⟨h, h'⟩ => ⟨?_, h'⟩⟩
      rcases Nat.lt_or_ge j k with h1 | h1
      · exact h1
      · obtain rfl : j = k := by omega
        obtain ⟨x, hx', _⟩ := h'
        rw [hx] at hx'; cases hx'
    · rw [eldK_step hx]
      by_cases hb : bef x y = true
      · rw [if_pos hb, Nat.testBit_or, bit_pow, Bool.or_eq_true, ih, decide_eq_true_eq]
        constructor
        · rintro (⟨h, h'⟩ | rfl)
          · exact ⟨by omega, h'⟩
          · exact ⟨by omega, x, hx, hb⟩
        · rintro ⟨h, h'⟩
          rcases Nat.lt_or_ge j k with h1 | h1
          · exact .inl ⟨h1, h'⟩
          · exact .inr (by omega)
      · rw [if_neg hb, ih]
        refine ⟨fun ⟨h, h'⟩ => ⟨by omega, h'⟩, fun ⟨h, h'⟩ => ⟨?_, h'⟩⟩
        rcases Nat.lt_or_ge j k with h1 | h1
        · exact h1
        · obtain rfl : j = k := by omega
          obtain ⟨x', hx', hb'⟩ := h'
          rw [hx] at hx'
          injection hx' with hx'
          subst hx'
          exact absurd hb' hb
theorem eldK_lt (l : List Nd) (y : Nd) {k : Nat} (hk : k ≤ 64) : eldK l y k < 18446744073709551616 := by
  have h1 : eldK l y k < 2 ^ k := lt_of_bits fun j hj => ((eldK_bit l y j k).1 hj).1
  have h2 : (2 : Nat) ^ k ≤ 2 ^ 64 := Nat.pow_le_pow_right (by decide) hk
  omega
set_option maxHeartbeats 1000000 in
theorem elders_any {w : World} {B b : Nat} {l : List Nd} {v : Value} (h : GM w B b l v) {a : Nat} {y : Nd} (ha : l[a]? = some y) :
    Calls Tryd.prog 37 #[.pointer (some ⟨b, 0, none⟩), .int .i64 a] w fun e w' => e = .returned (.int .u64 (eldK l y l.length)) ∧ NewW w w' := by
  obtain ⟨A, q, rfl⟩ := own_form h.own
  have c0 := h.c0
  have h64 := h.ok.len
  have haI : (a : Int) < (l.length : Int) := by have := lt_of_some ha; omega
  have HH := Lib.hid h
  have HA := Lib.hid ha
  clear h ha
  generalize hn : l.length = n at *
  have HN := Lib.hid hn
  clear hn
  have hmax : (n : Int) ≤ 64 := by omega
  go_enter Tryd.func37, Tryd.ntmps37
  go_wp2_with fail
  go_loopw [5, 13] (fun s i w' => ∃ k S : Nat, k ≤ n ∧ i = .int .i64 k ∧ s = .int .u64 S ∧ S = eldK l y k ∧ NewW w w') (fun _ i _ => n - (intOf i).toNat)
  case atStart => exact ⟨0, 0, by omega, rfl, rfl, rfl, Ch.refl _ _⟩
  case round =>
    obtain ⟨k, S, hk, rfl, rfl, hS, hC⟩ := hrel
    by_cases hlt : k < n
    · obtain ⟨x, hx⟩ := some_of_lt (L := l) (i := k) (by rw [HN.out]; exact hlt)
      obtain ⟨g, cap, hv, r0, r1, r2⟩ := (HH.out.new_ hC).at_ hx
      obtain ⟨g', cap', hv', s0, s1, s2⟩ := (HH.out.new_ hC).at_ HA.out
      have hvv := hv.symm.trans hv'
      injection hv with hA hn hq
      subst hA
      injection hvv with hvv _ _
      injection hvv with hvv
      injection hvv with hvv
      subst hvv
      have E := Lib.hid (b_or (S := S) (i := k) (by rw [hS]; exact eldK_lt l y (by omega)) (by omega))
      have c0' := (HH.out.new_ hC).c0
      have hCn : NewW wr (wr.alloc (.cells #[.int .i64 x.id, .int .i64 x.st, .int .u64 x.to] 57)) := (Ch.refl _ wr).alloc _
      have BX := Lib.hid (Blk.new wr 57 #[.int .i64 x.id, .int .i64 x.st, .int .u64 x.to])
      have y0 := new_cell hCn c0'
      have y1 := new_cell hCn s0
      have y2 := new_cell hCn s1
      have y3 := new_cell hCn s2
      have HCB := Lib.hid (hC.trans' hCn)
      have HST := Lib.hid (eldK_step (y := y) hx)
      have HS := Lib.hid hS
      clear hC hCn hS hx hv' hq hn
      go_upto_region 5 with (fail)
      generalize wr.alloc (.cells #[.int .i64 x.id, .int .i64 x.st, .int .u64 x.to] 57) = wb at *
      generalize wr.heap.size = bx at *
      clear r0 r1 r2 s0 s1 s2 c0'
      have x0 : wb.cell? ⟨bx, 0, none⟩ = some (.int .i64 x.id) := by rw [BX.out.cell]; rfl
      have x1 : wb.cell? ⟨bx, 1, none⟩ = some (.int .i64 x.st) := by rw [BX.out.cell]; rfl
      have x2 : wb.cell? ⟨bx, 2, none⟩ = some (.int .u64 x.to) := by rw [BX.out.cell]; rfl
      have HBE := Lib.hid (before_any x y wb.drew)
      obtain ⟨be, hbe⟩ : ∃ be, bef x y = be := ⟨_, rfl⟩
      rw [hbe] at HBE HST
      clear hbe
      go_wp2_with fail
      go_still_tail 8, (by kernel_rfl)
      change wpList _ _ _ _ _ wb.drew
      go_wp2_with fail
      refine HBE.out.mono ?_
      rintro e w3 ⟨rfl, hN3⟩
      dsimp only
      have HC3 := Lib.hid (HCB.out.trans' (((Ch.refl (fun _ => False) wb).drew).trans' hN3))
      clear hN3 x0 x1 x2 y0 y1 y2 y3 HBE
      cases be
      · go_wp2_with fail
        exact ⟨⟨k + 1, _, by omega, by go_num, rfl, by rw [HST.out, HS.out]; rfl, HC3.out⟩, by simp [intOf]; omega⟩
      · go_wp2_with fail
        rw [E.out]
        exact ⟨⟨k + 1, _, by omega, by go_num, rfl, by rw [HST.out, HS.out]; rfl, HC3.out⟩, by simp [intOf]; omega⟩
    · obtain rfl : k = n := by omega
      have HS := Lib.hid hS
      have HC := Lib.hid hC
      clear hlt hk hS hC
      go_wp2_with fail
      go_ret
      exact ⟨by rw [← HS.out]; rfl, HC.out⟩
end Go.Proofs.YtfcdplfnhjbdnabDoor
