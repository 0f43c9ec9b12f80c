/- TallyFlags: the law's walk. -/
import Derived.Test.YtdbbnkibdibpkaaDoorFix
import Derived.Test.YtdbbnkibdibpkaaDoorLibArgs
import Derived.Laws.Shifts
import Derived.OpenShut
namespace Go.Proofs.YtdbbnkibdibpkaaDoor
open Go.RowKit Go.ChangeShapes Go.WideShapes
set_option linter.unusedVariables false

/-- A word of 64 flags, as a number. -/
def u (X : BitVec 64) : Int := X.toNat
theorem u_nonneg (X : BitVec 64) : 0 ≤ u X := by unfold u; omega
theorem ofInt_u (X : BitVec 64) : BitVec.ofInt 64 (u X) = X := by
  unfold u
  apply BitVec.eq_of_toNat_eq
  simp
theorem u_of (x : Int) (h : (Lit.int .u64 x).wf = true) : ∃ X, x = u X := by
  have hb := bounds_u64 h
  refine ⟨BitVec.ofInt 64 x, ?_⟩
  unfold u
  simp [BitVec.toNat_ofInt]
  omega
theorem wrap_u (X : BitVec 64) : IntKind.u64.wrap (X.toNat : Int) = u X := by
  have := X.isLt
  unfold u
  simp [IntKind.wrap, IntKind.bits, IntKind.signed]
  omega
theorem or_u (X Y : BitVec 64) : bits .or .u64 (u X) (u Y) = u (X ||| Y) := by
  show IntKind.u64.wrap ((BitVec.ofInt 64 (u X) ||| BitVec.ofInt 64 (u Y)).toNat : Int) = _
  rw [ofInt_u, ofInt_u, wrap_u]
theorem and_u (X Y : BitVec 64) : bits .and .u64 (u X) (u Y) = u (X &&& Y) := by
  show IntKind.u64.wrap ((BitVec.ofInt 64 (u X) &&& BitVec.ofInt 64 (u Y)).toNat : Int) = _
  rw [ofInt_u, ofInt_u, wrap_u]
theorem not_u (X : BitVec 64) : bits .xor .u64 IntKind.u64.max (u X) = u (~~~X) := by
  show IntKind.u64.wrap ((BitVec.ofInt 64 IntKind.u64.max ^^^ BitVec.ofInt 64 (u X)).toNat : Int) = _
  have : BitVec.ofInt 64 IntKind.u64.max = BitVec.allOnes 64 := by decide
  rw [ofInt_u, wrap_u, this, BitVec.allOnes_xor]
/-- A flag of a word. -/
def flagOf (X : BitVec 64) (B : Int) : Int := bits .and .u64 (u X / 2 ^ min B.toNat 64) 1
theorem flag_is (X : BitVec 64) (B : Int) (h0 : 0 ≤ B) (h1 : B < 64) : flagOf X B = if X.getLsbD B.toNat then 1 else 0 := by
  have hm : min B.toNat 64 = B.toNat := by omega
  have e1 : u X / 2 ^ B.toNat = u (X >>> B.toNat) := by
    unfold u
    rw [BitVec.toNat_ushiftRight, Nat.shiftRight_eq_div_pow]
    simp
  have e2 : (1 : Int) = u 1#64 := by decide
  unfold flagOf
  rw [hm, e1, e2, and_u]
  unfold u
  rw [BitVec.toNat_and, BitVec.toNat_ofNat, show 1 % 2 ^ 64 = 1 by decide, Nat.and_one_is_mod, BitVec.toNat_ushiftRight]
  rw [BitVec.getLsbD, Nat.testBit_eq_decide_div_mod_eq, Nat.shiftRight_eq_div_pow]
  rcases Nat.mod_two_eq_zero_or_one (X.toNat / 2 ^ B.toNat) with h | h <;> simp [h]
theorem flag_eq (X : BitVec 64) (B : Int) (h0 : 0 ≤ B) (h1 : B < 64) {x : Bool} (hx : X.getLsbD B.toNat = x) : bits .and .u64 (u X / 2 ^ B.toNat) 1 = if x then 1 else 0 := by
  rw [← hx, ← flag_is X B h0 h1]
  unfold flagOf
  rw [show min B.toNat 64 = B.toNat by omega]
section
variable {w0 w : World} {b : Nat} {s : St}
theorem raise_k (X F : BitVec 64) (hX : s.flags = u X) (h : Kept w0 b s w) :
    Calls Tryd.prog 13 #[.pointer (some ⟨b, 0, none⟩), .int .u64 (u F)] w fun e w' => e = .returned (.int .u64 (u X)) ∧ Kept w0 b { s with flags := u (X ||| F) } w' :=
  (raise_any b s (u F) w h.1).mono fun _ _ ⟨h1, h2⟩ => ⟨by rw [h1, hX], h.step (by rw [hX, or_u] at h2; exact h2)⟩
theorem lower_k (X F : BitVec 64) (hX : s.flags = u X) (h : Kept w0 b s w) :
    Calls Tryd.prog 14 #[.pointer (some ⟨b, 0, none⟩), .int .u64 (u F)] w fun e w' => e = .returned (.int .u64 (u X)) ∧ Kept w0 b { s with flags := u (X &&& ~~~F) } w' :=
  (lower_any b s (u F) w h.1).mono fun _ _ ⟨h1, h2⟩ => ⟨by rw [h1, hX], h.step (by rw [hX, not_u, and_u] at h2; exact h2)⟩
theorem flags_k (X : BitVec 64) (hX : s.flags = u X) (h : Kept w0 b s w) :
    Calls Tryd.prog 17 #[.pointer (some ⟨b, 0, none⟩)] w fun e w' => e = .returned (.int .u64 (u X)) ∧ w = w' :=
  (flags_any b s w h.1).mono fun _ _ ⟨h1, h2⟩ => ⟨by rw [h1, hX], h2⟩
end
set_option maxRecDepth 100000 in
set_option maxHeartbeats 1000000 in
theorem walk (A : Option Addr) (n c : Nat) (bit : Int) (zs : List Int) (w : World) (hb0 : 0 ≤ bit) (hb1 : bit ≤ 255) (hI : Ints .u64 w A n zs) :
    Calls Tryd.prog 5 #[.slice A n c, .int .u8 bit] w fun e w' => e = .returned (.bool true) ∧ Below w.heap.size w w' := by
  have hfx := Lib.hid (fixed_any w)
  obtain ⟨hlen, hmax, hwf, hcell⟩ := hI
  unfold maxLen at hmax
  have hcell := Lib.hid hcell
  have hlen := Lib.hid hlen
  by_cases hn : 100 < n
  · go_enter Tryd.func5, Tryd.ntmps5
    go_wp2_with (go_at_call 6; (with_reducible refine (hfx.out).mono ?_); rintro e w1 ⟨rfl, hb⟩; have hB := Lib.hid hb; clear hb)
    go_ret
    exact ⟨rfl, hB.out⟩
  · have hn' : n ≤ 100 := by omega
    clear hn
    go_enter Tryd.func5, Tryd.ntmps5
    go_wp2_with (first | (go_at_call 6; (with_reducible refine (hfx.out).mono ?_); rintro e w1 ⟨rfl, hb⟩; have hB := Lib.hid hb; clear hb) |
      (go_at_call 7; (with_reducible refine (new_any _).mono ?_); rintro e w2 ⟨rfl, -, rfl⟩; have k0 := Lib.hid (Kept.new w w1 hB.out)))
    have hB0 : 0 ≤ bit % 64 := by omega
    have hB1 : bit % 64 < 64 := by omega
    generalize bit % 64 = B at *
    have kB := Lib.hid (Nat.le_refl w1.heap.size)
    generalize w1.alloc (.cells St.zero.cells 75) = wa at *
    generalize w1.heap.size = b at *
    go_loopw [7, 21] (fun up i w' => ∃ (k : Nat) (X : BitVec 64) (s : St), k ≤ n ∧ i = .int .i64 k ∧ up = .bool (X.getLsbD B.toNat) ∧ s.flags = u X ∧ Kept w b s w') (fun _ i _ => n - (intOf i).toNat)
    case atStart => exact ⟨0, 0#64, St.zero, by omega, rfl, by simp, rfl, k0.out⟩
    case round =>
      obtain ⟨k, X, s, hk, rfl, rfl, hX, hK⟩ := hrel
      by_cases hlt : k < n
      · have hz : zs[k]? = some (zs[k]'(by rw [hlen.out]; exact hlt)) := List.getElem?_eq_getElem (by rw [hlen.out]; exact hlt)
        obtain ⟨b0, off, rfl, hb0', hc⟩ := hcell.out (by omega)
        have hck := hc k _ hz
        obtain ⟨F, hF⟩ := u_of _ (hwf _ (List.getElem_mem (by rw [hlen.out]; exact hlt)))
        rw [hF] at hck
        have hck' : wr.cell? ⟨b0, off + k, none⟩ = some (.int .u64 (u F)) := (hK.2.1.cell hb0').trans hck
        have hX := Lib.hid hX
        have hK := Lib.hid hK
        have hC := Lib.hid hcell.out
        clear hz hc hck hF hcell
        rcases hp : ((k : Int) % 2 == 0) with _ | _
        · rcases hxb : X.getLsbD B.toNat with _ | _ <;> rcases hfb : F.getLsbD B.toNat with _ | _
          all_goals
            have hnb : (X &&& ~~~F).getLsbD B.toNat = (X.getLsbD B.toNat && !F.getLsbD B.toNat) := by
              rw [BitVec.getLsbD_and, BitVec.getLsbD_not, show decide (B.toNat < 64) = true by simp; omega, Bool.true_and]
            rw [hxb, hfb] at hnb
            have hf := flag_eq F B hB0 hB1 hfb
            have hn := flag_eq (X &&& ~~~F) B hB0 hB1 hnb
            simp at hf hn
            have hnb := Lib.hid hnb
            have hxb := Lib.hid hxb
            have hfb := Lib.hid hfb
            go_wp2_with (first | (go_at_call 14; (with_reducible refine (lower_k X F hX.out hK.out).mono ?_); rintro e w3 ⟨rfl, HK⟩; have HK' := Lib.hid HK; clear HK) |
              (go_at_call 17; (with_reducible refine (flags_k (X &&& ~~~F) rfl HK'.out).mono ?_); rintro e w4 ⟨rfl, rfl⟩))
            refine ⟨⟨k + 1, (X &&& ~~~F), _, by omega, by go_num, by rw [hnb.out]; rfl, rfl, HK'.out⟩, by simp [intOf]; omega⟩
        · rcases hxb : X.getLsbD B.toNat with _ | _ <;> rcases hfb : F.getLsbD B.toNat with _ | _
          all_goals
            have hnb : (X ||| F).getLsbD B.toNat = (X.getLsbD B.toNat || F.getLsbD B.toNat) := by rw [BitVec.getLsbD_or]
            rw [hxb, hfb] at hnb
            have hf := flag_eq F B hB0 hB1 hfb
            have hn := flag_eq (X ||| F) B hB0 hB1 hnb
            simp at hf hn
            have hnb := Lib.hid hnb
            have hxb := Lib.hid hxb
            have hfb := Lib.hid hfb
            go_wp2_with (first | (go_at_call 13; (with_reducible refine (raise_k X F hX.out hK.out).mono ?_); rintro e w3 ⟨rfl, HK⟩; have HK' := Lib.hid HK; clear HK) |
              (go_at_call 17; (with_reducible refine (flags_k (X ||| F) rfl HK'.out).mono ?_); rintro e w4 ⟨rfl, rfl⟩))
            refine ⟨⟨k + 1, (X ||| F), _, by omega, by go_num, by rw [hnb.out]; rfl, rfl, HK'.out⟩, by simp [intOf]; omega⟩
      · obtain rfl : k = n := by omega
        have HF := Lib.hid hK.2.1
        clear hK hX hlt hk hcell hlen hwf
        go_wp2
        go_ret
        exact ⟨rfl, HF.out⟩
end Go.Proofs.YtdbbnkibdibpkaaDoor
