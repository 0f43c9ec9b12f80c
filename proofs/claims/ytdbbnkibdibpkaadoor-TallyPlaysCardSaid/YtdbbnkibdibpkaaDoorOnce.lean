/- The tally's names: a Once whose function fills them; a number's text; the gate; all numbers. -/
import Derived.Test.YtdbbnkibdibpkaaDoorTal
import Derived.Deep.QuietTactic
import Derived.BigQuiet
import Derived.StillTailTactics
import Derived.Deep.RegionWith
namespace Go.Proofs.YtdbbnkibdibpkaaDoor
open Go.RowKit
set_option linter.unusedVariables false

def dig (k : Nat) : ByteArray := ⟨if k < 10 then #[UInt8.ofNat (48 + k)] else #[49, UInt8.ofNat (38 + k)]⟩
set_option maxRecDepth 100000 in
theorem small_any (N : Int) (h0 : 0 ≤ N) (h1 : N < 16) (w : World) : Calls Tryd.prog 66 #[.int .i64 N] w fun e w' => e = .returned (.string (dig N.toNat)) ∧ w = w' := by
  have h : N = 0 ∨ N = 1 ∨ N = 2 ∨ N = 3 ∨ N = 4 ∨ N = 5 ∨ N = 6 ∨ N = 7 ∨ N = 8 ∨ N = 9 ∨ N = 10 ∨ N = 11 ∨ N = 12 ∨ N = 13 ∨ N = 14 ∨ N = 15 := by omega
  clear h0 h1
  rcases h with rfl | rfl | rfl | rfl | rfl | rfl | rfl | rfl | rfl | rfl | rfl | rfl | rfl | rfl | rfl | rfl
  all_goals
    go_enter Tryd.func66, Tryd.ntmps66
    go_wp2
    go_ret
    exact ⟨by rfl, rfl⟩
set_option maxRecDepth 100000 in
theorem itoa_any (N : Int) (h0 : 0 ≤ N) (h1 : N < 16) (w : World) : Calls Tryd.prog 49 #[.int .i64 N] w fun e w' => e = .returned (.string (dig N.toNat)) ∧ w = w' := by
  have hs := Lib.hid (small_any N h0 h1 w)
  have h2 : N < 100 := by omega
  generalize dig N.toNat = D at *
  go_enter Tryd.func49, Tryd.ntmps49
  go_wp2_with (first | (go_at_call 66; (with_reducible refine (hs.out).mono ?_); rintro e w' ⟨rfl, rfl⟩) | (go_at_call 53; go_in) | (go_at_call 57; go_in))
  go_ret
  exact ⟨rfl, rfl⟩

theorem dig_size (k : Nat) : (dig k).size ≤ 2 := by unfold dig; split <;> simp [ByteArray.size]
def kind (k : Nat) : ByteArray := (⟨#[107, 105, 110, 100]⟩ : ByteArray) ++ dig k
/-- The names up to one are made. -/
def upto (c : Nat → ByteArray) (k : Nat) : Nat → ByteArray := fun j => if j < k then kind j else c j
theorem upto_next (c : Nat → ByteArray) (k : Nat) : putn (upto c k) k (kind k) = upto c (k + 1) := by
  funext j
  unfold putn upto
  by_cases h : j = k
  · subst h; simp
  · by_cases h2 : j < k
    · simp [h, h2, show j < k + 1 by omega]
    · simp [h, h2, show ¬ j < k + 1 by omega]
theorem upto_zero (c : Nat → ByteArray) : upto c 0 = c := by funext j; simp [upto]
set_option maxRecDepth 100000 in
theorem fill_any (b : Nat) (s : St) (w : World) (h : Tal w b s) :
    Calls Tryd.prog 36 #[.pointer (some ⟨b, 0, none⟩)] w fun e w' => e = .returned (.tuple #[]) ∧ TP b { s with names := upto s.names 16 } w w' := by
  have H := Lib.hid h
  clear h
  go_enter Tryd.func36, Tryd.ntmps36
  go_wp2_with fail
  go_loopw [3] (fun i w' => ∃ k : Nat, k ≤ 16 ∧ i = .int .i64 k ∧ TP b { s with names := upto s.names k } w w') (fun i _ => 16 - (intOf i).toNat)
  case atStart => exact ⟨0, by omega, rfl, by rw [upto_zero]; exact TP.refl H.out⟩
  case round =>
    obtain ⟨k, hk, rfl, hT⟩ := hrel
    by_cases hlt : k < 16
    · have hi := Lib.hid (fun w => itoa_any (k : Int) (by omega) (by omega) w)
      have hkk : (↑k : Int).toNat = k := by omega
      rw [hkk] at hi
      clear hkk
      have HT := Lib.hid ((show TP b { s with names := upto s.names (k + 1) } w (wr.setCell ⟨b, 38 + k, none⟩ (.string (kind k))).drew by
        have := hT.1.set_name hlt (kind k)
        rw [upto_next] at this
        exact ⟨this.drew, (hT.2.setCell (p := ⟨b, 38 + k, none⟩) (.inl rfl) _).drew⟩))
      have hsz := dig_size k
      have hc := hT.1.name hlt
      have hz := hT.1.froz (38 + k)
      simp only at hc
      generalize upto s.names k k = O at hc
      clear hT H
      go_wp2_with fail
      go_region_with ((go_at_call 49; (with_reducible refine (hi.out _).mono ?_); rintro e w' ⟨rfl, rfl⟩))
      go_wp2
      go_roundw
      case rel => exact ⟨k + 1, by omega, by go_num, HT.out⟩
      case measure => simp [intOf]; omega
    · obtain rfl : k = 16 := by omega
      have HT := Lib.hid hT
      clear hT H hlt hk
      go_wp2
      go_end0
      exact ⟨rfl, HT.out⟩

set_option maxRecDepth 100000 in
set_option maxHeartbeats 1600000 in
theorem slow_any (b : Nat) (s : St) (w : World) (h : Tal w b s) (hd : s.done = 0) (hl : s.lock = 0) :
    Calls Tryd.prog 48 #[.pointer (some ⟨b, 35, none⟩), .func (.func 36) #[.pointer (some ⟨b, 0, none⟩)] #[]] w fun e w' => e = .returned (.tuple #[]) ∧ TP b { s with names := upto s.names 16, done := 1 } w w' := by
  have hnot : ∀ (x : Bool) (w : World), (Op.unary .not (.bool x)).run Tryd.prog w = .ok (.bool (!x)) w := fun _ _ => rfl
  have h1 : Tal (w.setCell ⟨b, 36, none⟩ (.int .i32 1)) b { s with lock := 1 } := h.set_lock 1
  have c1 : Only b w (w.setCell ⟨b, 36, none⟩ (.int .i32 1)) := (Ch.refl (fun k => k = b) w).setCell (p := ⟨b, 36, none⟩) (.inl rfl) _
  have hlk := Lib.hid (lock_free ⟨b, 36, none⟩ w (by rw [h.lock, hl]) (h.froz 36))
  have hld := Lib.hid (bool_load b 35 0 (w.setCell ⟨b, 36, none⟩ (.int .i32 1)) (by rw [h1.done]; show some (Value.int .u32 s.done) = _; rw [hd]))
  have hfl := Lib.hid (fill_any b _ _ h1)
  have c1 := Lib.hid c1
  have h1 := Lib.hid h1
  have hd := Lib.hid hd
  have hl := Lib.hid hl
  have h := Lib.hid h
  generalize w.setCell ⟨b, 36, none⟩ (.int .i32 1) = w1 at *
  go_enter_defers Tryd.func48, Tryd.ntmps48
  go_wp2_with (first | (go_at_call 50; (with_reducible refine (hlk.out).mono ?_); rintro e w' ⟨rfl, rfl⟩) | (go_at_call 32; (with_reducible refine (hld.out).mono ?_); rintro e w' ⟨rfl, rfl⟩) |
    (go_at_call 36; (with_reducible refine (hfl.out).mono ?_); rintro e w2 ⟨rfl, HE⟩; have HE' := Lib.hid HE; clear HE))
  have HT := HE'.out.1
  have H1 : Tal (w2.drew.setCell ⟨b, 35, none⟩ (.int .u32 1)) b _ := HT.drew.set_done 1
  have H2 := H1.set_lock 0
  have HO : Only b w ((w2.drew.setCell ⟨b, 35, none⟩ (.int .u32 1)).setCell ⟨b, 36, none⟩ (.int .i32 0)) :=
    ((c1.out.trans' HE'.out.2).drew.setCell (p := ⟨b, 35, none⟩) (.inl rfl) _).setCell (p := ⟨b, 36, none⟩) (.inl rfl) _
  refine leaves_cons (f := 52) (args := #[.pointer (some ⟨b, 35, none⟩), .bool true]) (by simp) (by simp [go_sem]) ?_
  refine (store_deferred ⟨b, 35, none⟩ _ .returning w2 HT.done (HT.froz 35)).mono ?_
  rintro e u' w'' ⟨rfl, rfl, rfl⟩
  refine leaves_cons (f := 51) (args := #[.pointer (some ⟨b, 36, none⟩)]) (by simp [settle]) (by simp [go_sem]) ?_
  refine (unlock_deferred ⟨b, 36, none⟩ _ _ H1.lock (H1.froz 36)).mono ?_
  rintro e u' w'' ⟨rfl, rfl, rfl⟩
  have hl0 := hl.out
  have hfin : TP b { s with names := upto s.names 16, done := 1 } w ((w2.drew.setCell ⟨b, 35, none⟩ (.int .u32 1)).setCell ⟨b, 36, none⟩ (.int .i32 0)) := by
    refine ⟨?_, HO⟩
    rw [hl0]
    exact H2
  simpa [Leaves, settle, results, Tryd.results48] using hfin
theorem do_any (b : Nat) (s : St) (w : World) (h : Tal w b s) (hd : s.done = 0) (hl : s.lock = 0) :
    Calls Tryd.prog 35 #[.pointer (some ⟨b, 35, none⟩), .func (.func 36) #[.pointer (some ⟨b, 0, none⟩)] #[]] w fun e w' => e = .returned (.tuple #[]) ∧ TP b { s with names := upto s.names 16, done := 1 } w w' := by
  have hnot : ∀ (x : Bool) (w : World), (Op.unary .not (.bool x)).run Tryd.prog w = .ok (.bool (!x)) w := fun _ _ => rfl
  have hld := Lib.hid (bool_load b 35 0 w (by rw [h.done, hd]))
  have hsl := Lib.hid (slow_any b s w h hd hl)
  clear h hd hl
  go_enter Tryd.func35, Tryd.ntmps35
  go_wp2_with (first | (go_at_call 32; (with_reducible refine (hld.out).mono ?_); rintro e w' ⟨rfl, rfl⟩) |
    (go_at_call 48; (with_reducible refine (hsl.out).mono ?_); rintro e w2 ⟨rfl, HE⟩; have HE' := Lib.hid HE; clear HE))
  go_end0
  exact ⟨rfl, HE'.out⟩
theorem do_done (b : Nat) (s : St) (f : Value) (w : World) (h : Tal w b s) (hd : s.done = 1) :
    Calls Tryd.prog 35 #[.pointer (some ⟨b, 35, none⟩), f] w fun e w' => e = .returned (.tuple #[]) ∧ TP b s w w' := by
  have hnot : ∀ (x : Bool) (w : World), (Op.unary .not (.bool x)).run Tryd.prog w = .ok (.bool (!x)) w := fun _ _ => rfl
  have hld := Lib.hid (bool_load b 35 1 w (by rw [h.done, hd]))
  have h := Lib.hid h
  clear hd
  go_enter Tryd.func35, Tryd.ntmps35
  go_wp2_with (go_at_call 32; (with_reducible refine (hld.out).mono ?_); rintro e w' ⟨rfl, rfl⟩)
  go_end0
  exact ⟨rfl, TP.refl h.out⟩

/-- The names are made, or will be. -/
def Named (s : St) : Prop := s.lock = 0 ∧ (s.done = 0 ∨ s.done = 1 ∧ ∀ i, i < 16 → s.names i = kind i)
def made (s : St) : St := { s with names := upto s.names 16, done := 1 }
theorem name_in (b k : Nat) (hk : k < 16) (s : St) (w : World) (h : Tal w b s) (hn : Named s) :
    Calls Tryd.prog 22 #[.pointer (some ⟨b, 0, none⟩), .int .i64 k] w fun e w' => e = .returned (.string (kind k)) ∧ TP b (made s) w w' := by
  have hmf : ∀ (fn : Fn) (first cap : Array Value) (w : World), (Instr.makeFunc fn first cap).run Tryd.prog w = .ok (.func fn first cap) w := fun _ _ _ _ => rfl
  have hdo : Calls Tryd.prog 35 #[.pointer (some ⟨b, 35, none⟩), .func (.func 36) #[.pointer (some ⟨b, 0, none⟩)] #[]] w fun e w' => e = .returned (.tuple #[]) ∧ TP b (made s) w w' ∧ w'.cell? ⟨b, 38 + k, none⟩ = some (.string (kind k)) := by
    rcases hn.2 with hd | ⟨hd, hnm⟩
    · refine (do_any b s w h hd hn.1).mono ?_
      rintro e w' ⟨he, hT⟩
      exact ⟨he, hT, by rw [hT.1.name hk]; simp [upto, hk]⟩
    · refine (do_done b s _ w h hd).mono ?_
      rintro e w' ⟨he, hT⟩
      have e1 : made s = s ∨ Tal w' b (made s) := .inr (by
        have : s.cells = (made s).cells := by
          unfold St.cells
          congr 1
          funext ⟨i, hi⟩
          by_cases h38 : i < 38
          · simp only [St.at_, made, hd]
            by_cases h32 : i < 32
            · simp [h32]
            · have : i = 32 ∨ i = 33 ∨ i = 34 ∨ i = 35 ∨ i = 36 ∨ i = 37 := by omega
              rcases this with rfl | rfl | rfl | rfl | rfl | rfl <;> simp
          · obtain ⟨m, rfl⟩ : ∃ m, i = 38 + m := ⟨i - 38, by omega⟩
            show s.at_ (38 + m) = (made s).at_ (38 + m)
            rw [St.at_name, St.at_name]
            simp [made, upto, show m < 16 by omega, hnm m (by omega)]
        have h1 := hT.1
        unfold Tal at h1 ⊢
        rwa [this] at h1)
      refine ⟨he, ⟨?_, hT.2⟩, by rw [hT.1.name hk, hnm k hk]⟩
      rcases e1 with e1 | e1
      · rw [e1]; exact hT.1
      · exact e1
  have hdo := Lib.hid hdo
  have hf := Lib.hid (find_in b k hk w)
  clear h hn
  go_enter Tryd.func22, Tryd.ntmps22
  go_wp2_with (first | (go_at_call 24; (with_reducible refine (hf.out).mono ?_); rintro e w' ⟨rfl, rfl⟩) |
    (go_at_call 35; (with_reducible refine (hdo.out).mono ?_); rintro e w2 ⟨rfl, HE, hc⟩; have HE' := Lib.hid HE; clear HE))
  go_ret
  exact ⟨rfl, HE'.out⟩
theorem name_out (b : Nat) (N : Int) (hN : N < 0 ∨ 16 ≤ N) (w : World) : Calls Tryd.prog 22 #[.pointer (some ⟨b, 0, none⟩), .int .i64 N] w fun e w' => e = .returned (.string ByteArray.empty) ∧ w = w' := by
  have hf := Lib.hid (find_out b N hN w)
  clear hN
  go_enter Tryd.func22, Tryd.ntmps22
  go_wp2_with (go_at_call 24; (with_reducible refine (hf.out).mono ?_); rintro e w' ⟨rfl, rfl⟩)
  go_ret
  exact ⟨rfl, rfl⟩
theorem name_nil (N : Int) (w : World) : Calls Tryd.prog 22 #[.pointer none, .int .i64 N] w fun e w' => e = .returned (.string ByteArray.empty) ∧ w = w' := by
  have hf := Lib.hid (find_nil N w)
  go_enter Tryd.func22, Tryd.ntmps22
  go_wp2_with (go_at_call 24; (with_reducible refine (hf.out).mono ?_); rintro e w' ⟨rfl, rfl⟩)
  go_ret
  exact ⟨rfl, rfl⟩

/-! ### The gate, all numbers -/
theorem open_yes (b : Nat) (s : St) (hg : s.gate = 0) (h0 : 0 ≤ s.tried) (h1 : s.tried ≤ 1000) (w : World) (h : Tal w b s) :
    Calls Tryd.prog 15 #[.pointer (some ⟨b, 0, none⟩)] w fun e w' => e = .returned (.bool true) ∧ TP b { s with tried := s.tried + 1, gate := 1 } w w' := by
  have hw : IntKind.i64.wrap (s.tried + 1) = s.tried + 1 := IntWalk.i64_in _ (by omega)
  have ha := i64_add b 34 s.tried 1 w h.tried (h.froz 34)
  rw [hw] at ha
  have H1 := h.set_tried (s.tried + 1)
  have hc := bool_cas_hit b 33 _ (by rw [H1.gate]; show some (Value.int .u32 s.gate) = _; rw [hg]) (H1.froz 33)
  have HT : TP b { s with tried := s.tried + 1, gate := 1 } w ((w.setCell ⟨b, 34, none⟩ (.int .i64 (s.tried + 1))).setCell ⟨b, 33, none⟩ (.int .u32 1)).drew :=
    ⟨(H1.set_gate 1).drew, ((((Ch.refl (fun k => k = b) w).setCell (p := ⟨b, 34, none⟩) (.inl rfl) _).setCell (p := ⟨b, 33, none⟩) (.inl rfl) _).drew)⟩
  have ha := Lib.hid ha
  have hc := Lib.hid hc
  have HT := Lib.hid HT
  have h := Lib.hid h
  generalize w.setCell ⟨b, 34, none⟩ (.int .i64 (s.tried + 1)) = w1 at *
  generalize s.tried + 1 = S at *
  clear hg hw H1 h0 h1
  go_enter Tryd.func15, Tryd.ntmps15
  go_wp2_with (first | (go_at_call 25; (with_reducible refine (ha.out).mono ?_); rintro e w' ⟨rfl, rfl⟩) | (go_at_call 31; (with_reducible refine (hc.out).mono ?_); rintro e w' ⟨rfl, rfl⟩))
  go_ret
  exact ⟨rfl, HT.out⟩
theorem open_no (b : Nat) (s : St) (hg : s.gate = 1) (h0 : 0 ≤ s.tried) (h1 : s.tried ≤ 1000) (w : World) (h : Tal w b s) :
    Calls Tryd.prog 15 #[.pointer (some ⟨b, 0, none⟩)] w fun e w' => e = .returned (.bool false) ∧ TP b { s with tried := s.tried + 1, gate := 1 } w w' := by
  have hw : IntKind.i64.wrap (s.tried + 1) = s.tried + 1 := IntWalk.i64_in _ (by omega)
  have ha := i64_add b 34 s.tried 1 w h.tried (h.froz 34)
  rw [hw] at ha
  have H1 := h.set_tried (s.tried + 1)
  have hc := bool_cas_miss b 33 _ (by rw [H1.gate]; show some (Value.int .u32 s.gate) = _; rw [hg]) (H1.froz 33)
  have HT : TP b { s with tried := s.tried + 1, gate := 1 } w (w.setCell ⟨b, 34, none⟩ (.int .i64 (s.tried + 1))).drew := by
    refine ⟨?_, ((Ch.refl (fun k => k = b) w).setCell (p := ⟨b, 34, none⟩) (.inl rfl) _).drew⟩
    have e1 : ({ s with tried := s.tried + 1, gate := 1 } : St) = { s with tried := s.tried + 1 } := by rw [← hg]
    rw [e1]; exact H1.drew
  have ha := Lib.hid ha
  have hc := Lib.hid hc
  have HT := Lib.hid HT
  have h := Lib.hid h
  generalize w.setCell ⟨b, 34, none⟩ (.int .i64 (s.tried + 1)) = w1 at *
  generalize s.tried + 1 = S at *
  clear hg hw H1 h0 h1
  go_enter Tryd.func15, Tryd.ntmps15
  go_wp2_with (first | (go_at_call 25; (with_reducible refine (ha.out).mono ?_); rintro e w' ⟨rfl, rfl⟩) | (go_at_call 31; (with_reducible refine (hc.out).mono ?_); rintro e w' ⟨rfl, rfl⟩))
  go_ret
  exact ⟨rfl, HT.out⟩
theorem open_nil (w : World) : Calls Tryd.prog 15 #[.pointer none] w fun e w' => e = .returned (.bool false) ∧ w = w' := by
  go_enter Tryd.func15, Tryd.ntmps15
  go_wp2
  go_ret
  exact ⟨rfl, rfl⟩
theorem opened_any (b : Nat) (s : St) (w : World) (h : Tal w b s) :
    Calls Tryd.prog 16 #[.pointer (some ⟨b, 0, none⟩)] w fun e w' => e = .returned (.tuple #[.bool (s.gate != 0), .int .i64 s.tried]) ∧ TP b s w w' := by
  have ha := Lib.hid (fun n => i64_load b 34 s.tried (w.drewN n) h.tried)
  have hb := Lib.hid (fun n => bool_load b 33 s.gate (w.drewN n) h.gate)
  have HT := Lib.hid (fun n => (show TP b s w (w.drewN n) from ⟨h.drewN n, (Ch.refl (fun k => k = b) w).drewN n⟩))
  have h := Lib.hid h
  generalize (s.gate != 0) = G at *
  generalize s.tried = S at *
  go_enter Tryd.func16, Tryd.ntmps16
  go_wp2_with fail
  go_quiet ((first | (go_at_call 32; exact quiet_left (hb.out _)) | (go_at_call 33; exact quiet_left (ha.out _))))
  go_wp2
  go_ret2
  exact ⟨rfl, HT.out _⟩
end Go.Proofs.YtdbbnkibdibpkaaDoor
