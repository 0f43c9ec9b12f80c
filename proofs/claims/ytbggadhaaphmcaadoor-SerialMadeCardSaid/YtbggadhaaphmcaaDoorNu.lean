/- Numbers and their texts: the program's Text and Number (by strconv.Itoa and strconv.Atoi), the document's Text and Number. -/
import Derived.Test.YtbggadhaaphmcaaDoorTx
import Derived.Test.YtbggadhaaphmcaaDoorSh
import Derived.Lib.SmallJoins
import Derived.Stop.Joined
namespace Go.Proofs.YtbggadhaaphmcaaDoor
open Go.Lib Go.RowKit Go.Sort
set_option linter.unusedVariables false

/-- What of the library's variables a world must hold. -/
structure Env (w : World) : Prop where
  tab : Lib.TabIs Tryd.prog w "internal/strconv.uint64pow10" .u64 Lib.pow10Tab
  bad : ∃ tp p, w.var? Tryd.prog "strconv.ErrSyntax" = some #[.iface tp p]
  far : ∃ tp p, w.var? Tryd.prog "strconv.ErrRange" = some #[.iface tp p]
theorem Env.below {w w' : World} (h : Env w) (hb : Below w.heap.size w w') : Env w' :=
  ⟨Joins.tab_stays (g := 2) (by kernel_rfl) h.tab hb (Nat.le_refl _), by
    obtain ⟨tp, p, e⟩ := h.bad
    exact ⟨tp, p, Joins.var_stays (g := 0) (by kernel_rfl) e hb (Nat.le_refl _)⟩, by
    obtain ⟨tp, p, e⟩ := h.far
    exact ⟨tp, p, Joins.var_stays (g := 1) (by kernel_rfl) e hb (Nat.le_refl _)⟩⟩
theorem Env.new_ {w w' : World} (h : Env w) (hc : NewW w w') : Env w' := h.below (hc.to_below (fun _ h => h.elim) (Nat.le_refl _))
theorem new_of_below {w w' : World} (hb : Below w.heap.size w w') : NewW w w' := Ch.of_below hb fun k hk _ => hk
theorem below_grow {w : World} (k : Nat) (os : Array Obj) : Below w.heap.size w (grow (w.drewN k) os) :=
  ⟨rfl, rfl, rfl, by simp [grow], fun i hi => by
    show (w.heap ++ os)[i]? = _
    rw [Array.getElem?_append_left hi]⟩
theorem itoa_any (n : Int) (h0 : -9223372036854775808 ≤ n) (h1 : n ≤ 9223372036854775807) {w : World} (hE : Env w) :
    Calls Tryd.prog 62 #[.int .i64 n] w fun e w' => e = .returned (.string (txt n)) ∧ NewW w w' :=
  (Any.strconv_Itoa Tryd.laysM171 n h0 h1 w hE.tab).mono fun e w' ⟨he, k, os, hw⟩ => ⟨he, by subst hw; exact new_of_below (below_grow k os)⟩
theorem bytes_new {w : World} (t : TypeId) (s : _) : NewW w (Lib.bytesWorld w t s) := by
  exact new_of_below (Joins.below_bytesWorld _ _ _ _ (Nat.le_refl _))
theorem atoi_ok (s : ByteArray) (hs : s.size ≤ 1000) (v : Int) (h : Lib.atoiAll s.data.toList = .ok v) (w : World) :
    Calls Tryd.prog 60 #[.string s] w fun e w' => e = .returned (.tuple #[.int .i64 v, .nilIface]) ∧ NewW w w' :=
  (Any.strconv_Atoi_ok Tryd.laysC172 s (by omega) v h w).mono fun e w' ⟨he, hw⟩ => ⟨he, by
    rcases hw with rfl | ⟨t, rfl⟩
    · exact Ch.refl _ _
    · exact bytes_new _ _⟩
theorem atoi_bad (s : ByteArray) (hs : s.size ≤ 1000) (h : ∀ v, Lib.atoiAll s.data.toList ≠ .ok v) {w : World} (hE : Env w) :
    Calls Tryd.prog 60 #[.string s] w fun e w' => (∃ v N, e = .returned (.tuple #[.int .i64 v, .iface 141 (.pointer (some ⟨N, 0, none⟩))])) ∧ NewW w w' := by
  rcases hA : Lib.atoiAll s.data.toList with v | _ | _
  · exact absurd hA (h v)
  · obtain ⟨tp, p, e⟩ := hE.bad
    exact (Any.strconv_Atoi_syntax_var Tryd.laysC172 s (by omega) hA tp p w e).mono fun e w' ⟨N, he, _, _, hb⟩ => ⟨⟨_, N, he⟩, new_of_below hb⟩
  · obtain ⟨tp, p, e⟩ := hE.far
    exact (Any.strconv_Atoi_range_var Tryd.laysC172 s (by omega) hA tp p w e).mono fun e w' ⟨N, he, _, _, hb⟩ => ⟨⟨_, N, he⟩, new_of_below hb⟩
theorem Text_any (n : Int) (h0 : -9223372036854775808 ≤ n) (h1 : n ≤ 9223372036854775807) {w : World} (hE : Env w) :
    Calls Tryd.prog 27 #[.int .i64 n] w fun e w' => e = .returned (.string (txt n)) ∧ NewW w w' := by
  have HI := Lib.hid (itoa_any n h0 h1 hE)
  clear hE
  go_enter Tryd.func27, Tryd.ntmps27
  go_wp2_with fail
  refine HI.out.mono ?_
  rintro e w2 ⟨rfl, hN⟩
  dsimp only
  have HN := Lib.hid hN
  clear hN
  go_wp2_with fail
  go_ret
  exact ⟨rfl, HN.out⟩
theorem txt_eq (n : Int) (s : ByteArray) : ((txt n).toList = s.toList) ↔ itoa n = s.data.toList := by
  rw [str_eq]
  constructor
  · intro h
    rw [← txt_data, h]
  · intro h
    exact key_inj (by rw [txt_data, h])
theorem Number_any (s : ByteArray) (hs : s.size ≤ 1000) {w : World} (hE : Env w) :
    Calls Tryd.prog 25 #[.string s] w fun e w' => e = .returned (.int .i64 (numR s)) ∧ NewW w w' := by
  rcases Classical.em (∃ v, Lib.atoiAll s.data.toList = .ok v) with ⟨v, hv⟩ | hno
  · have HA := Lib.hid (atoi_ok s hs v hv w)
    have hb := Lib.atoiAll_bounds hv
    have HT := Lib.hid (fun w' (hc : NewW w w') => Text_any v hb.1 hb.2 (hE.new_ hc))
    have HC := Lib.hid (fun w' => clamp_any v w')
    obtain ⟨R, hR⟩ : ∃ R, numR s = R := ⟨_, rfl⟩
    rw [hR]
    have hn := numOf_eq (num_ok hv)
    have HR := Lib.hid (hR.symm.trans hn)
    obtain ⟨T, hT⟩ : ∃ T, txt v = T := ⟨_, rfl⟩
    have hte := txt_eq v s
    rw [hT] at HT hte
    obtain ⟨C, hC⟩ : ∃ C, clampI v = C := ⟨_, rfl⟩
    rw [hC] at HC
    have HCC := Lib.hid hC
    have HTE := Lib.hid hte
    clear hE hv hn hR hT hte hC hb
    by_cases h1 : T.toList = s.toList
    · have b1 : (T.toList != s.toList) = false := by simpa using h1
      have b0 : (T.toList == s.toList) = true := by simpa using h1
      have b1' : decide (T.toList = s.toList) = true := by simpa using h1
      by_cases h2 : C = v
      · have b2 : (C != v) = false := by simpa using h2
        have hr : R = v := by
          have hc : -1125899906842624 ≤ v ∧ v ≤ 1125899906842624 := by
            have := HCC.out
            unfold clampI at this
            omega
          rw [HR.out, if_pos ⟨HTE.out.1 h1, hc⟩]
        subst hr
        clear h1 h2
        go_enter Tryd.func25, Tryd.ntmps25
        go_wp2_with fail
        refine HA.out.mono ?_
        rintro e w2 ⟨rfl, hN⟩
        dsimp only
        have HN := Lib.hid hN
        clear hN
        go_wp2_with fail
        refine (HT.out _ HN.out).mono ?_
        rintro e w3 ⟨rfl, hN⟩
        dsimp only
        have HN2 := Lib.hid (HN.out.trans' hN)
        clear hN
        go_wp2_with fail
        refine (HC.out _).mono ?_
        rintro e w4 ⟨rfl, rfl⟩
        dsimp only
        go_wp2_with fail
        go_ret
        exact ⟨rfl, HN2.out⟩
      · have b2 : (C != v) = true := by simpa using h2
        have hr : R = 0 := by
          rw [HR.out, if_neg]
          rintro ⟨_, h3, h4⟩
          refine h2 ?_
          rw [← HCC.out]
          unfold clampI
          omega
        subst hr
        clear h1 h2
        go_enter Tryd.func25, Tryd.ntmps25
        go_wp2_with fail
        refine HA.out.mono ?_
        rintro e w2 ⟨rfl, hN⟩
        dsimp only
        have HN := Lib.hid hN
        clear hN
        go_wp2_with fail
        refine (HT.out _ HN.out).mono ?_
        rintro e w3 ⟨rfl, hN⟩
        dsimp only
        have HN2 := Lib.hid (HN.out.trans' hN)
        clear hN
        go_wp2_with fail
        refine (HC.out _).mono ?_
        rintro e w4 ⟨rfl, rfl⟩
        dsimp only
        go_wp2_with fail
        go_ret
        exact ⟨rfl, HN2.out⟩
    · have b1 : (T.toList != s.toList) = true := by simpa using h1
      have b0 : (T.toList == s.toList) = false := by simpa using h1
      have b1' : decide (T.toList = s.toList) = false := by simpa using h1
      have hr : R = 0 := by
        rw [HR.out, if_neg]
        rintro ⟨h3, _⟩
        exact h1 (HTE.out.2 h3)
      subst hr
      clear h1
      go_enter Tryd.func25, Tryd.ntmps25
      go_wp2_with fail
      refine HA.out.mono ?_
      rintro e w2 ⟨rfl, hN⟩
      dsimp only
      have HN := Lib.hid hN
      clear hN
      go_wp2_with fail
      refine (HT.out _ HN.out).mono ?_
      rintro e w3 ⟨rfl, hN⟩
      dsimp only
      have HN2 := Lib.hid (HN.out.trans' hN)
      clear hN
      go_wp2_with fail
      go_ret
      exact ⟨rfl, HN2.out⟩
  · have HA := Lib.hid (atoi_bad s hs (fun v hv => hno ⟨v, hv⟩) hE)
    have hr : numR s = 0 := numOf_eq (num_bad fun v hv => hno ⟨v, hv⟩)
    rw [hr]
    clear hr hno hE
    go_enter Tryd.func25, Tryd.ntmps25
    go_wp2_with fail
    refine HA.out.mono ?_
    rintro e w2 ⟨⟨v, N, rfl⟩, hN⟩
    dsimp only
    have HN := Lib.hid hN
    clear hN
    go_wp2_with fail
    go_ret
    exact ⟨rfl, HN.out⟩
end Go.Proofs.YtbggadhaaphmcaaDoor
