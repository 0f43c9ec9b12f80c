/- TallyPlays: the law's walk. -/
import Derived.Test.YtdbbnkibdibpkaaDoorDuo
import Derived.Test.YtdbbnkibdibpkaaDoorActs
import Derived.OpenShut
import Derived.Deep.RegionHeld3
import Derived.Deep.QuietTactic
import Derived.BigQuiet
import Derived.StillTailTactics
import Derived.Deep.RegionWith
import Derived.Deep.DeepCutAuto
namespace Go.Proofs.YtdbbnkibdibpkaaDoor
open Go.RowKit Go.ChangeShapes Go.WideShapes
set_option linter.unusedVariables false

/-- What the law keeps at a round's head. -/
structure Pl (w wr : World) (b rb nb : Nat) (m : Nat) (v : Value) (L : List (Nat × Int)) (s : St) : Prop where
  duo : Duo w wr b rb nb v L s s
  len : L.length ≤ m
  one : s.gate = 0 ∧ s.tried = 0 ∨ s.gate = 1 ∧ 0 < s.tried
  tried1 : s.tried ≤ m
  named : Named s
theorem Pl.nums {w wr w2 : World} {b rb nb m : Nat} {v v2 : Value} {L L2 : List (Nat × Int)} {s : St} (h : Pl w wr b rb nb m v L s) (c' : Nat → Int) (hd : Duo w w2 b rb nb v2 L2 { s with c := c' } { s with c := c' }) (hl : L2.length ≤ L.length + 1) : Pl w w2 b rb nb (m + 1) v2 L2 { s with c := c' } :=
  ⟨hd, by have := h.len; omega, h.one, by have := h.tried1; show s.tried ≤ _; omega, h.named⟩
theorem Pl.flags {w wr w2 : World} {b rb nb m : Nat} {v v2 : Value} {L L2 : List (Nat × Int)} {s : St} (h : Pl w wr b rb nb m v L s) (x : Int) (hd : Duo w w2 b rb nb v2 L2 { s with flags := x } { s with flags := x }) (hl : L2.length ≤ L.length + 1) : Pl w w2 b rb nb (m + 1) v2 L2 { s with flags := x } :=
  ⟨hd, by have := h.len; omega, h.one, by have := h.tried1; show s.tried ≤ _; omega, h.named⟩
theorem Pl.same {w wr w2 : World} {b rb nb m : Nat} {v v2 : Value} {L L2 : List (Nat × Int)} {s : St} (h : Pl w wr b rb nb m v L s) (hd : Duo w w2 b rb nb v2 L2 s s) (hl : L2.length ≤ L.length + 1) : Pl w w2 b rb nb (m + 1) v2 L2 s :=
  ⟨hd, by have := h.len; omega, h.one, by have := h.tried1; show s.tried ≤ _; omega, h.named⟩
theorem Pl.open_ {w wr w2 : World} {b rb nb m : Nat} {v v2 : Value} {L L2 : List (Nat × Int)} {s : St} (h : Pl w wr b rb nb m v L s) (hd : Duo w w2 b rb nb v2 L2 { s with tried := s.tried + 1, gate := 1 } { s with tried := s.tried + 1, gate := 1 }) (hl : L2.length ≤ L.length + 1) : Pl w w2 b rb nb (m + 1) v2 L2 { s with tried := s.tried + 1, gate := 1 } :=
  ⟨hd, by have := h.len; omega, .inr ⟨rfl, by have := h.one; show 0 < s.tried + 1; omega⟩, by have := h.tried1; show s.tried + 1 ≤ _; omega, h.named⟩
theorem Pl.gt {w wr : World} {b rb nb m : Nat} {v : Value} {L : List (Nat × Int)} {s : St} (h : Pl w wr b rb nb m v L s) : (s.gate != 0) = decide (0 < s.tried) := by
  rcases h.one with ⟨h1, h2⟩ | ⟨h1, h2⟩
  · rw [h1, h2]; rfl
  · rw [h1]; symm; simpa using h2
theorem Pl.move {w wr w2 : World} {b rb nb m : Nat} {v : Value} {L : List (Nat × Int)} {s : St} (h : Pl w wr b rb nb m v L s) (hd : Duo w w2 b rb nb v L s s) : Pl w w2 b rb nb m v L s := ⟨hd, h.len, h.one, h.tried1, h.named⟩
theorem opened_d {w w1 : World} {b rb nb : Nat} {v : Value} {L : List (Nat × Int)} {s : St} {G : Bool} {T : Int} (h : Duo w w1 b rb nb v L s s) (hG : (s.gate != 0) = G) (hT : s.tried = T) :
    Calls Tryd.prog 16 #[.pointer (some ⟨b, 0, none⟩)] w1 fun e w' => e = .returned (.tuple #[.bool G, .int .i64 T]) ∧ Duo w w' b rb nb v L s s ∧ Keep w1 w' := by
  have := lift_p h (opened_any b s w1 h.tal)
  rwa [hG, hT] at this
theorem flags_f {w1 : World} {b : Nat} {s : St} {F0 : Int} (hF : s.flags = F0) (h : Tal w1 b s) : Calls Tryd.prog 17 #[.pointer (some ⟨b, 0, none⟩)] w1 fun e w' => e = .returned (.int .u64 F0) ∧ w1 = w' := by
  rw [← hF]; exact flags_any b s w1 h
theorem change_d {w w1 : World} {b rb nb k : Nat} {v : Value} {L : List (Nat × Int)} {s : St} {C0 : Int} (hk : k < 16) (hC : s.c (k * 2) = C0) (h : Duo w w1 b rb nb v L s s) (Y : Int) :
    Calls Tryd.prog 11 #[.pointer (some ⟨b, 0, none⟩), .int .i64 k, .int .i64 C0, .int .i64 Y] w1 fun e w' => e = .returned (.tuple #[.bool true, .int .i64 0]) ∧ Duo w w' b rb nb v L { s with c := lay s.c k Y } s ∧ Keep w1 w' := by
  rw [← hC]; exact lift_p h (change_hit b k s hk Y w1 h.tal)
theorem take_d {w w1 : World} {b rb nb k : Nat} {v : Value} {L : List (Nat × Int)} {s : St} {C0 : Int} (hk : k < 16) (hC : s.c (k * 2) = C0) (h : Duo w w1 b rb nb v L s s) :
    Calls Tryd.prog 12 #[.pointer (some ⟨b, 0, none⟩), .int .i64 k] w1 fun e w' => e = .returned (.tuple #[.int .i64 C0, .int .i64 0]) ∧ Duo w w' b rb nb v L { s with c := put s.c (k * 2) 0 } s ∧ Keep w1 w' := by
  rw [← hC]; exact lift_p h (take_in b k s hk w1 h.tal)
theorem raise_d {w w1 : World} {b rb nb : Nat} {v : Value} {L : List (Nat × Int)} {s : St} {F0 : Int} (hF : s.flags = F0) (h : Duo w w1 b rb nb v L s s) (F : Int) :
    Calls Tryd.prog 13 #[.pointer (some ⟨b, 0, none⟩), .int .u64 F] w1 fun e w' => e = .returned (.int .u64 F0) ∧ Duo w w' b rb nb v L { s with flags := bits .or .u64 F0 F } s ∧ Keep w1 w' := by
  rw [← hF]; exact lift_p h (raise_any b s F w1 h.tal)
theorem lower_d {w w1 : World} {b rb nb : Nat} {v : Value} {L : List (Nat × Int)} {s : St} {F0 : Int} (hF : s.flags = F0) (h : Duo w w1 b rb nb v L s s) (F : Int) :
    Calls Tryd.prog 14 #[.pointer (some ⟨b, 0, none⟩), .int .u64 F] w1 fun e w' => e = .returned (.int .u64 F0) ∧ Duo w w' b rb nb v L { s with flags := bits .and .u64 F0 (bits .xor .u64 IntKind.u64.max F) } s ∧ Keep w1 w' := by
  rw [← hF]; exact lift_p h (lower_any b s F w1 h.tal)
theorem open_d_yes {w w1 : World} {b rb nb : Nat} {v : Value} {L : List (Nat × Int)} {s r : St} {T : Int} (hg : s.gate = 0) (hT : s.tried = T) (h0 : 0 ≤ T) (h1 : T ≤ 100) (h : Duo w w1 b rb nb v L s r) :
    Calls Tryd.prog 15 #[.pointer (some ⟨b, 0, none⟩)] w1 fun e w' => e = .returned (.bool true) ∧ Duo w w' b rb nb v L { s with tried := T + 1, gate := 1 } r ∧ Keep w1 w' := by
  subst hT; exact lift_p h (open_yes b s hg h0 (by omega) w1 h.tal)
theorem open_d_no {w w1 : World} {b rb nb : Nat} {v : Value} {L : List (Nat × Int)} {s r : St} {T : Int} (hg : s.gate = 1) (hT : s.tried = T) (h0 : 0 ≤ T) (h1 : T ≤ 100) (h : Duo w w1 b rb nb v L s r) :
    Calls Tryd.prog 15 #[.pointer (some ⟨b, 0, none⟩)] w1 fun e w' => e = .returned (.bool false) ∧ Duo w w' b rb nb v L { s with tried := T + 1, gate := 1 } r ∧ Keep w1 w' := by
  subst hT; exact lift_p h (open_no b s hg h0 (by omega) w1 h.tal)
theorem Pl.open_d {w wr w2 : World} {b rb nb m : Nat} {v v2 : Value} {L L2 : List (Nat × Int)} {s : St} {T : Int} (h : Pl w wr b rb nb m v L s) (hT : s.tried = T) (hd : Duo w w2 b rb nb v2 L2 { s with tried := T + 1, gate := 1 } { s with tried := T + 1, gate := 1 }) (hl : L2.length ≤ L.length + 1) : Pl w w2 b rb nb (m + 1) v2 L2 { s with tried := T + 1, gate := 1 } := by
  subst hT; exact h.open_ hd hl
theorem opened_f {w w1 : World} {b rb nb : Nat} {v : Value} {L : List (Nat × Int)} {s : St} {F0 T : Int} (h : Duo w w1 b rb nb v L s s) (hF : s.flags = F0) (hT : s.tried = T) :
    w1.cell? ⟨rb, 2, none⟩ = some (.int .u64 F0) ∧ w1.cell? ⟨rb, 3, none⟩ = some (.int .i64 T) ∧ ∀ n, Calls Tryd.prog 17 #[.pointer (some ⟨b, 0, none⟩)] (w1.drewN n) fun e w' => e = .returned (.int .u64 F0) ∧ w1.drewN n = w' :=
  ⟨by rw [← hF]; exact h.flg, by rw [← hT]; exact h.trd, fun n => flags_f hF (h.drewN n).tal⟩
theorem all_d {w w1 : World} {b rb nb : Nat} {v : Value} {L : List (Nat × Int)} {s : St} (h : Duo w w1 b rb nb v L s s) :
    Calls Tryd.prog 18 #[.pointer (some ⟨b, 0, none⟩)] w1 fun e w' => ∃ A c, e = .returned (.slice A 16 c) ∧ w'.ownsRow w1.heap.size 3 1 (.slice A 16 c) 16 (nowL s 16) ∧ Duo w w' b rb nb v L s s :=
  (all_any b s w1 h.tal).mono fun _ _ ⟨x, h1, h2, h3, h4⟩ => by
    obtain ⟨A, c, rfl⟩ := own_form h2
    exact ⟨A, c, h1, h2, (h.new_ h4).1⟩
theorem all_cell {w1 : World} {B ga q : Nat} {s : St} {k : Nat} (h : w1.ownsRow B 3 1 (.slice (some ⟨ga, 0, none⟩) 16 q) 16 (nowL s 16)) (hk : k < 16) : w1.cell? ⟨ga, k, none⟩ = some (.int .i64 (s.c (k * 2))) := by
  have := h.cells (g := ga) rfl k (.int .i64 (s.c (k * 2))) (by simp [nowL, hk])
  rwa [add_mk, Nat.zero_add] at this
theorem get_e {w1 : World} {b k : Nat} {s s' : St} {C0 : Int} (hk : k < 16) (hs : s'.c = s.c) (hC : s.c (k * 2) = C0) (h : Tal w1 b s') : Calls Tryd.prog 19 #[.pointer (some ⟨b, 0, none⟩), .int .i64 k] w1 fun e w' => e = .returned (.int .i64 C0) ∧ w1 = w' := by
  rw [← hC, ← hs]; exact get_in b k s' hk w1 h
theorem high_e {w1 : World} {b k : Nat} {s s' : St} {C0 : Int} (hk : k < 16) (hs : s'.c = s.c) (hC : s.c (k * 2 + 1) = C0) (h : Tal w1 b s') : Calls Tryd.prog 20 #[.pointer (some ⟨b, 0, none⟩), .int .i64 k] w1 fun e w' => e = .returned (.int .i64 C0) ∧ w1 = w' := by
  rw [← hC, ← hs]; exact high_in b k s' hk w1 h
theorem rhigh_e {w w1 : World} {b rb nb k : Nat} {v : Value} {L : List (Nat × Int)} {s s' : St} {C0 : Int} (hk : k < 16) (hC : s.c (k * 2 + 1) = C0) (h : Duo w w1 b rb nb v L s' s) :
    Calls Tryd.prog 21 #[.pointer (some ⟨rb, 0, none⟩), .int .i64 k] w1 fun e w' => e = .returned (.int .i64 C0) ∧ w1 = w' := by
  rw [← hC]; exact rhigh_any _ rb nb v L s w1 h.ref k hk
theorem name_e {w w1 : World} {b rb nb k B : Nat} {v va : Value} {L : List (Nat × Int)} {s s' : St} {n : Nat} {xs : List Value} (hk : k < 16) (h : Duo w w1 b rb nb v L s' s) (ho : w1.ownsRow B 3 1 va n xs) (hn : Named s') :
    Calls Tryd.prog 22 #[.pointer (some ⟨b, 0, none⟩), .int .i64 k] w1 fun e w' => e = .returned (.string (kind k)) ∧ Duo w w' b rb nb v L (made s') s ∧ w'.ownsRow B 3 1 va n xs ∧ Named (made s') :=
  (name_in b k hk s' w1 h.tal hn).mono fun _ _ ⟨h1, h2⟩ => ⟨h1, (h.prog h2).1, own_ch ho h2.2 (fun g hg e => by subst e; exact own_blk_ne ho h.tal (by decide) hg), hn.1, .inr ⟨rfl, fun i hi => by simp [made, upto, hi]⟩⟩
theorem rname_d {w w1 : World} {b rb nb k B : Nat} {v va : Value} {L : List (Nat × Int)} {s s' : St} {n : Nat} {xs : List Value} (hk : k < 16) (h : Duo w w1 b rb nb v L s' s) (ho : w1.ownsRow B 3 1 va n xs) :
    Calls Tryd.prog 23 #[.int .i64 k] w1 fun e w' => e = .returned (.string (kind k)) ∧ Duo w w' b rb nb v L s' s ∧ w'.ownsRow B 3 1 va n xs :=
  (rname_any k hk w1).mono fun _ _ ⟨h1, h2⟩ => ⟨h1, (h.new_ h2).1, own_ch ho h2 (fun _ _ h => h)⟩
theorem lay_zero (c : Nat → Int) (k : Nat) (h : 0 ≤ c (k * 2 + 1)) : lay c k 0 = put c (k * 2) 0 := by unfold lay; rw [if_pos h]
theorem lay_at (c : Nat → Int) (k : Nat) (v : Int) : lay c k v (k * 2) = v := by rw [lay_even, put_same]

set_option maxRecDepth 100000 in
set_option maxHeartbeats 100000000 in
theorem plays_walk (A : Option Addr) (n c : Nat) (w : World) (hA : Acts w A n) :
    Calls Tryd.prog 3 #[.slice A n c] w fun e w' => e = .returned (.bool true) ∧ Below w.heap.size w w' := by
  have hfx := Lib.hid (fixed_any w)
  have hmax : (n : Int) ≤ 9223372036854775807 := by have := hA.1; unfold maxLen at this; omega
  have hAA := Lib.hid hA
  clear hA
  by_cases hn : 100 < n
  · go_enter Tryd.func3, Tryd.ntmps3
    go_wp2_with (go_at_call 6; (with_reducible refine (hfx.out).mono ?_); rintro e w1 ⟨rfl, hb⟩; have hB := Lib.hid hb; clear hb)
    go_ret
    exact ⟨rfl, hB.out⟩
  · have hn' : n ≤ 100 := by omega
    clear hn
    go_enter Tryd.func3, Tryd.ntmps3
    go_wp2_with (first | (go_at_call 6; (with_reducible refine (hfx.out).mono ?_); rintro e w1 ⟨rfl, hb⟩; have hB := Lib.hid hb; clear hb) |
      (go_at_call 7; (with_reducible refine (new_any _).mono ?_); rintro e w2 ⟨rfl, -, rfl⟩) |
      (go_at_call 8; (with_reducible refine (rnew_any _).mono ?_); rintro e w3 ⟨rfl, rfl⟩))
    have e1 : (w1.alloc (.cells St.zero.cells 75)).heap.size = w1.heap.size + 1 := by simp
    have k0 := Lib.hid (new_duo w w1 hB.out)
    clear e1
    generalize ((w1.alloc (.cells St.zero.cells 75)).alloc (.cells (nowc (fun _ => 0)) 3)).alloc (.cells (rblk (w1.heap.size + 1) (.slice none 0 0) St.zero) 37) = wa at *
    try rw [show w1.heap.size + 1 + 1 = w1.heap.size + 2 from rfl]
    generalize w1.heap.size + 2 = rb at *
    generalize w1.heap.size + 1 = nb at *
    generalize w1.heap.size = b at *
    go_loopw [30] (fun i w' => ∃ (m : Nat) (v : Value) (L : List (Nat × Int)) (s : St), m ≤ n ∧ i = .int .i64 m ∧ Pl w w' b rb nb m v L s) (fun i _ => n - (intOf i).toNat)
    case atStart => exact ⟨0, _, _, _, by omega, rfl, k0.out, by simp, .inl ⟨rfl, rfl⟩, by decide, rfl, .inl rfl⟩
    case round =>
      clear k0 hB hfx
      obtain ⟨m, v, L, s, hm, rfl, hI⟩ := hrel
      have HI := Lib.hid hI
      clear hI
      by_cases hlt : m < n
      · obtain ⟨b0, off, rfl, hb0', hc⟩ := hAA.out.2 (by omega)
        obtain ⟨K, N, X, Y, F, C, hK0, hK1, wN, wX, wY, wF, hact⟩ := hc m hlt
        have hact := hact.below HI.out.duo.below hb0'
        obtain ⟨c0, c1, c2, c3, c4, c5⟩ := hact
        clear hc hAA
        have hbN := bounds_i64 wN
        clear wN wX wY wF
        have BX := Lib.hid (Blk.new wr 30 #[.int .u8 K, .int .i64 N, .int .i64 X, .int .i64 Y, .int .u64 F, .bool C])
        have DA := Lib.hid (HI.out.duo.alloc (.cells #[.int .u8 K, .int .i64 N, .int .i64 X, .int .i64 Y, .int .u64 F, .bool C] 30))
        go_upto_region 9 with (fail)
        clear c0 c1 c2 c3 c4 c5
        generalize wr.alloc (.cells #[.int .u8 K, .int .i64 N, .int .i64 X, .int .i64 Y, .int .u64 F, .bool C] 30) = wb at *
        generalize wr.heap.size = g at *
        have e0 : wb.cell? ⟨g, 0, none⟩ = some (.int .u8 K) := by rw [BX.out.cell]; rfl
        have e1 : wb.cell? ⟨g, 1, none⟩ = some (.int .i64 N) := by rw [BX.out.cell]; rfl
        have e2 : wb.cell? ⟨g, 2, none⟩ = some (.int .i64 X) := by rw [BX.out.cell]; rfl
        have e3 : wb.cell? ⟨g, 3, none⟩ = some (.int .i64 Y) := by rw [BX.out.cell]; rfl
        have e4 : wb.cell? ⟨g, 4, none⟩ = some (.int .u64 F) := by rw [BX.out.cell]; rfl
        have e5 : wb.cell? ⟨g, 5, none⟩ = some (.bool C) := by rw [BX.out.cell]; rfl
        obtain ⟨is, his⟩ : ∃ is : Bool, (decide (0 ≤ N) && decide (N < 16)) = is := ⟨_, rfl⟩
        have HIS := Lib.hid his
        clear his
        go_cut [7] from 34 to 41 (fun x wc => x = .bool is ∧ wc = wb)
        case first =>
          have hN : (0 ≤ N ∧ N < 16) ∨ N < 0 ∨ (0 ≤ N ∧ 16 ≤ N) := by omega
          rcases hN with ⟨h0, h1⟩ | h0 | ⟨h0, h1⟩
          · have hx : is = true := by rw [← HIS.out]; simp; omega
            subst hx
            have d0 : decide (0 ≤ N) = true := by simpa using h0
            have d1 : decide (N < 16) = true := by simpa using h1
            go_wp2_with fail
            go_meet
            exact ⟨rfl, rfl⟩
          · have hx : is = false := by rw [← HIS.out]; simp; omega
            subst hx
            have d0 : decide (0 ≤ N) = false := by simp; omega
            go_wp2_with fail
            go_meet
            exact ⟨rfl, rfl⟩
          · have hx : is = false := by rw [← HIS.out]; simp; omega
            subst hx
            have d0 : decide (0 ≤ N) = true := by simpa using h0
            have d1 : decide (N < 16) = false := by simp; omega
            go_wp2_with fail
            go_meet
            exact ⟨rfl, rfl⟩
        case rest =>
          obtain ⟨rfl, rfl⟩ := hcut
          rcases is with _ | _
          · have hN : N < 0 ∨ 16 ≤ N := by have := HIS.out; simp at this; omega
            go_upto_region 13 with (fail)
            have hq : K % 7 = 0 ∨ K % 7 = 1 ∨ K % 7 = 2 ∨ K % 7 = 3 ∨ K % 7 = 4 ∨ K % 7 = 5 ∨ K % 7 = 6 := by omega
            rcases hq with hq | hq | hq | hq | hq | hq | hq
            · as_aux_lemma =>
                have HCH := Lib.hid (add_out b N X hN wc)
                clear hN
                go_wp2_with fail
                refine HCH.out.mono ?_
                rintro e w2 ⟨rfl, rfl⟩
                dsimp only
                go_wp2_with fail
                go_quiet (fail)
                have DT := DA
                clear e0 e1 e2 e3 e4 e5 HCH
                have hP := HI.out.same DT.out (by simp)
                obtain ⟨Tt, Ff, hG, hT, hF⟩ : ∃ (Tt Ff : Int), ((s : St).gate != 0) = decide (0 < Tt) ∧ (s : St).tried = Tt ∧ (s : St).flags = Ff := ⟨_, _, hP.gt, rfl, rfl⟩
                have HP := Lib.hid hP
                have HOP := Lib.hid (fun n => opened_d (DT.out.drewN n) hG hT)
                have HFT := Lib.hid (And.intro hF hT)
                clear hP hG hT hF
                go_wp2_with fail
                refine (HOP.out _).mono ?_
                rintro e w5 ⟨rfl, hD5, hK5⟩
                dsimp only
                obtain ⟨n2, n3, hfl⟩ := opened_f hD5 HFT.out.1 HFT.out.2
                have HFL := Lib.hid hfl
                have HD5 := Lib.hid hD5
                clear hD5 hK5 HOP HFT hfl
                go_wp2_with fail
                go_quiet ((go_at_call 17; exact quiet_left (HFL.out _)))
                go_wp2_with fail
                exact ⟨⟨m + 1, _, _, _, by omega, by go_num, HP.out.move (HD5.out.drewN _)⟩, by simp [intOf]; omega⟩
            · as_aux_lemma =>
                have HCH := Lib.hid (add_out b N X hN wc)
                clear hN
                go_wp2_with fail
                refine HCH.out.mono ?_
                rintro e w2 ⟨rfl, rfl⟩
                dsimp only
                go_wp2_with fail
                go_quiet (fail)
                have DT := DA
                clear e0 e1 e2 e3 e4 e5 HCH
                have hP := HI.out.same DT.out (by simp)
                obtain ⟨Tt, Ff, hG, hT, hF⟩ : ∃ (Tt Ff : Int), ((s : St).gate != 0) = decide (0 < Tt) ∧ (s : St).tried = Tt ∧ (s : St).flags = Ff := ⟨_, _, hP.gt, rfl, rfl⟩
                have HP := Lib.hid hP
                have HOP := Lib.hid (fun n => opened_d (DT.out.drewN n) hG hT)
                have HFT := Lib.hid (And.intro hF hT)
                clear hP hG hT hF
                go_wp2_with fail
                refine (HOP.out _).mono ?_
                rintro e w5 ⟨rfl, hD5, hK5⟩
                dsimp only
                obtain ⟨n2, n3, hfl⟩ := opened_f hD5 HFT.out.1 HFT.out.2
                have HFL := Lib.hid hfl
                have HD5 := Lib.hid hD5
                clear hD5 hK5 HOP HFT hfl
                go_wp2_with fail
                go_quiet ((go_at_call 17; exact quiet_left (HFL.out _)))
                go_wp2_with fail
                exact ⟨⟨m + 1, _, _, _, by omega, by go_num, HP.out.move (HD5.out.drewN _)⟩, by simp [intOf]; omega⟩
            · as_aux_lemma =>
                have HCH := Lib.hid (change_out b N X Y hN wc)
                clear hN
                go_wp2_with fail
                refine HCH.out.mono ?_
                rintro e w2 ⟨rfl, rfl⟩
                dsimp only
                go_wp2_with fail
                go_quiet (fail)
                have DT := DA
                clear e0 e1 e2 e3 e4 e5 HCH
                have hP := HI.out.same DT.out (by simp)
                obtain ⟨Tt, Ff, hG, hT, hF⟩ : ∃ (Tt Ff : Int), ((s : St).gate != 0) = decide (0 < Tt) ∧ (s : St).tried = Tt ∧ (s : St).flags = Ff := ⟨_, _, hP.gt, rfl, rfl⟩
                have HP := Lib.hid hP
                have HOP := Lib.hid (fun n => opened_d (DT.out.drewN n) hG hT)
                have HFT := Lib.hid (And.intro hF hT)
                clear hP hG hT hF
                go_wp2_with fail
                refine (HOP.out _).mono ?_
                rintro e w5 ⟨rfl, hD5, hK5⟩
                dsimp only
                obtain ⟨n2, n3, hfl⟩ := opened_f hD5 HFT.out.1 HFT.out.2
                have HFL := Lib.hid hfl
                have HD5 := Lib.hid hD5
                clear hD5 hK5 HOP HFT hfl
                go_wp2_with fail
                go_quiet ((go_at_call 17; exact quiet_left (HFL.out _)))
                go_wp2_with fail
                exact ⟨⟨m + 1, _, _, _, by omega, by go_num, HP.out.move (HD5.out.drewN _)⟩, by simp [intOf]; omega⟩
            · as_aux_lemma =>
                have HCH := Lib.hid (take_out b N hN wc)
                clear hN
                go_wp2_with fail
                refine HCH.out.mono ?_
                rintro e w2 ⟨rfl, rfl⟩
                dsimp only
                go_wp2_with fail
                go_quiet (fail)
                have DT := DA
                clear e0 e1 e2 e3 e4 e5 HCH
                have hP := HI.out.same DT.out (by simp)
                obtain ⟨Tt, Ff, hG, hT, hF⟩ : ∃ (Tt Ff : Int), ((s : St).gate != 0) = decide (0 < Tt) ∧ (s : St).tried = Tt ∧ (s : St).flags = Ff := ⟨_, _, hP.gt, rfl, rfl⟩
                have HP := Lib.hid hP
                have HOP := Lib.hid (fun n => opened_d (DT.out.drewN n) hG hT)
                have HFT := Lib.hid (And.intro hF hT)
                clear hP hG hT hF
                go_wp2_with fail
                refine (HOP.out _).mono ?_
                rintro e w5 ⟨rfl, hD5, hK5⟩
                dsimp only
                obtain ⟨n2, n3, hfl⟩ := opened_f hD5 HFT.out.1 HFT.out.2
                have HFL := Lib.hid hfl
                have HD5 := Lib.hid hD5
                clear hD5 hK5 HOP HFT hfl
                go_wp2_with fail
                go_quiet ((go_at_call 17; exact quiet_left (HFL.out _)))
                go_wp2_with fail
                exact ⟨⟨m + 1, _, _, _, by omega, by go_num, HP.out.move (HD5.out.drewN _)⟩, by simp [intOf]; omega⟩
            · as_aux_lemma =>
                obtain ⟨F0, hF0⟩ : ∃ F0, s.flags = F0 := ⟨_, rfl⟩
                have HF0 := Lib.hid hF0
                clear hF0
                have n2 := DA.out.flg
                rw [HF0.out] at n2
                have HR := Lib.hid (raise_d HF0.out DA.out.drew F)
                have HBD := Lib.hid BX.out.drew
                go_wp2_with fail
                go_region_held3 (fun w' => w'.cell? ⟨g, 4, none⟩ = some (.int .u64 F) ∧ w'.cell? ⟨rb, 2, none⟩ = some (.int .u64 F0)) (first | exact ⟨e4, n2⟩ | exact ⟨m4, m2⟩)
                  (first
                    | (go_at_call 13; refine HR.out.mono ?_; rintro e w6 ⟨rfl, hD6, hK6⟩; have hB6 := hK6 _ _ HBD.out; have m4 : w6.cell? ⟨g, 4, none⟩ = some (.int .u64 F) := (by rw [hB6.cell]; rfl); have m2 := hD6.flg; rw [HF0.out] at m2))
                have z2 := hD6.ref.blk.frozen 2
                have HB6 := Lib.hid hB6
                have DT := Lib.hid ((hD6.rflags (bits .or .u64 F0 F)).1.drew)
                clear HR HBD hK6 hB6 hD6 e0 e1 e2 e3 e4 e5 n2
                go_wp2_with fail
                go_region
                try dsimp only
                clear m4 m2 z2
                have hP := HI.out.flags _ DT.out (by simp)
                obtain ⟨Tt, Ff, hG, hT, hF⟩ : ∃ (Tt Ff : Int), (({ s with flags := bits .or .u64 F0 F } : St).gate != 0) = decide (0 < Tt) ∧ ({ s with flags := bits .or .u64 F0 F } : St).tried = Tt ∧ ({ s with flags := bits .or .u64 F0 F } : St).flags = Ff := ⟨_, _, hP.gt, rfl, rfl⟩
                have HP := Lib.hid hP
                have HOP := Lib.hid (fun n => opened_d (DT.out.drewN n) hG hT)
                have HFT := Lib.hid (And.intro hF hT)
                clear hP hG hT hF
                go_wp2_with fail
                refine (HOP.out 0).mono ?_
                rintro e w5 ⟨rfl, hD5, hK5⟩
                dsimp only
                obtain ⟨n2, n3, hfl⟩ := opened_f hD5 HFT.out.1 HFT.out.2
                have HFL := Lib.hid hfl
                have HD5 := Lib.hid hD5
                clear hD5 hK5 HOP HFT hfl
                go_wp2_with fail
                go_quiet ((go_at_call 17; exact quiet_left (HFL.out _)))
                go_wp2_with fail
                exact ⟨⟨m + 1, _, _, _, by omega, by go_num, HP.out.move (HD5.out.drewN _)⟩, by simp [intOf]; omega⟩
            · as_aux_lemma =>
                obtain ⟨F0, hF0⟩ : ∃ F0, s.flags = F0 := ⟨_, rfl⟩
                have HF0 := Lib.hid hF0
                clear hF0
                have n2 := DA.out.flg
                rw [HF0.out] at n2
                have HR := Lib.hid (lower_d HF0.out DA.out.drew F)
                have HBD := Lib.hid BX.out.drew
                go_wp2_with fail
                go_region_held3 (fun w' => w'.cell? ⟨g, 4, none⟩ = some (.int .u64 F) ∧ w'.cell? ⟨rb, 2, none⟩ = some (.int .u64 F0)) (first | exact ⟨e4, n2⟩ | exact ⟨m4, m2⟩)
                  (first
                    | (go_at_call 14; refine HR.out.mono ?_; rintro e w6 ⟨rfl, hD6, hK6⟩; have hB6 := hK6 _ _ HBD.out; have m4 : w6.cell? ⟨g, 4, none⟩ = some (.int .u64 F) := (by rw [hB6.cell]; rfl); have m2 := hD6.flg; rw [HF0.out] at m2))
                have z2 := hD6.ref.blk.frozen 2
                have HB6 := Lib.hid hB6
                have DT := Lib.hid (((hD6.rflags (bits .andNot .u64 F0 F)).1.drew.same (r' := { s with flags := bits .and .u64 F0 (bits .xor .u64 IntKind.u64.max F) }) rfl (andNot_eq F0 F) rfl))
                clear HR HBD hK6 hB6 hD6 e0 e1 e2 e3 e4 e5 n2
                go_wp2_with fail
                go_region
                try dsimp only
                clear m4 m2 z2
                have hP := HI.out.flags _ DT.out (by simp)
                obtain ⟨Tt, Ff, hG, hT, hF⟩ : ∃ (Tt Ff : Int), (({ s with flags := bits .and .u64 F0 (bits .xor .u64 IntKind.u64.max F) } : St).gate != 0) = decide (0 < Tt) ∧ ({ s with flags := bits .and .u64 F0 (bits .xor .u64 IntKind.u64.max F) } : St).tried = Tt ∧ ({ s with flags := bits .and .u64 F0 (bits .xor .u64 IntKind.u64.max F) } : St).flags = Ff := ⟨_, _, hP.gt, rfl, rfl⟩
                have HP := Lib.hid hP
                have HOP := Lib.hid (fun n => opened_d (DT.out.drewN n) hG hT)
                have HFT := Lib.hid (And.intro hF hT)
                clear hP hG hT hF
                go_wp2_with fail
                refine (HOP.out 0).mono ?_
                rintro e w5 ⟨rfl, hD5, hK5⟩
                dsimp only
                obtain ⟨n2, n3, hfl⟩ := opened_f hD5 HFT.out.1 HFT.out.2
                have HFL := Lib.hid hfl
                have HD5 := Lib.hid hD5
                clear hD5 hK5 HOP HFT hfl
                go_wp2_with fail
                go_quiet ((go_at_call 17; exact quiet_left (HFL.out _)))
                go_wp2_with fail
                exact ⟨⟨m + 1, _, _, _, by omega, by go_num, HP.out.move (HD5.out.drewN _)⟩, by simp [intOf]; omega⟩
            · as_aux_lemma =>
                obtain ⟨T0, hT0⟩ : ∃ T0, s.tried = T0 := ⟨_, rfl⟩
                have b1 : 0 ≤ T0 ∧ T0 ≤ 100 := by have h1 := HI.out.one; have h2 := HI.out.tried1; rw [hT0] at h1 h2; omega
                obtain ⟨b1, b2⟩ := b1
                have n3 := DA.out.trd
                rw [hT0] at n3
                have z3 := DA.out.ref.blk.frozen 3
                have hR := DA.out.rtried (s.tried + 1)
                have hone := HI.out.one
                rw [hT0] at hR hone
                have HR := Lib.hid hR
                have HT0 := Lib.hid hT0
                have m3 : (wc.setCell ⟨rb, 3, none⟩ (.int .i64 (T0 + 1))).cell? ⟨rb, 3, none⟩ = some (.int .i64 (T0 + 1)) := hR.1.trd
                clear hR hT0
                rcases hone with ⟨hg0, ht⟩ | ⟨hg0, ht⟩
                · subst ht
                  have HO := Lib.hid (open_d_yes hg0 HT0.out b1 b2 HR.out.1.drew)
                  clear hg0
                  go_wp2_with fail
                  go_region_held3 (fun w' => w'.cell? ⟨rb, 3, none⟩ = some (.int .i64 (0 + 1))) (first | exact m3 | exact m4)
                    (first
                      | (go_at_call 15; refine HO.out.mono ?_; rintro e w6 ⟨rfl, hD6, hK6⟩; have m4 := hD6.trd))
                  have DT := Lib.hid (hD6.same (r' := { s with tried := 0 + 1, gate := 1 }) rfl rfl rfl)
                  clear HO HR hD6 hK6 m3 m4 n3 z3 e0 e1 e2 e3 e4 e5
                  have hP := HI.out.open_d HT0.out DT.out (by simp)
                  obtain ⟨Tt, Ff, hG, hT, hF⟩ : ∃ (Tt Ff : Int), (({ s with tried := 0 + 1, gate := 1 } : St).gate != 0) = decide (0 < Tt) ∧ ({ s with tried := 0 + 1, gate := 1 } : St).tried = Tt ∧ ({ s with tried := 0 + 1, gate := 1 } : St).flags = Ff := ⟨_, _, hP.gt, rfl, rfl⟩
                  have HP := Lib.hid hP
                  have HOP := Lib.hid (fun n => opened_d (DT.out.drewN n) hG hT)
                  have HFT := Lib.hid (And.intro hF hT)
                  clear hP hG hT hF
                  go_wp2_with fail
                  refine (HOP.out 0).mono ?_
                  rintro e w5 ⟨rfl, hD5, hK5⟩
                  dsimp only
                  obtain ⟨n2, n3, hfl⟩ := opened_f hD5 HFT.out.1 HFT.out.2
                  have HFL := Lib.hid hfl
                  have HD5 := Lib.hid hD5
                  clear hD5 hK5 HOP HFT hfl
                  go_wp2_with fail
                  go_quiet ((go_at_call 17; exact quiet_left (HFL.out _)))
                  go_wp2_with fail
                  exact ⟨⟨m + 1, _, _, _, by omega, by go_num, HP.out.move (HD5.out.drewN _)⟩, by simp [intOf]; omega⟩
                · have HO := Lib.hid (open_d_no hg0 HT0.out b1 b2 HR.out.1.drew)
                  clear hg0
                  go_wp2_with fail
                  go_region_held3 (fun w' => w'.cell? ⟨rb, 3, none⟩ = some (.int .i64 (T0 + 1))) (first | exact m3 | exact m4)
                    (first
                      | (go_at_call 15; refine HO.out.mono ?_; rintro e w6 ⟨rfl, hD6, hK6⟩; have m4 := hD6.trd))
                  have DT := Lib.hid (hD6.same (r' := { s with tried := T0 + 1, gate := 1 }) rfl rfl rfl)
                  clear HO HR hD6 hK6 m3 m4 n3 z3 e0 e1 e2 e3 e4 e5
                  have hP := HI.out.open_d HT0.out DT.out (by simp)
                  obtain ⟨Tt, Ff, hG, hT, hF⟩ : ∃ (Tt Ff : Int), (({ s with tried := T0 + 1, gate := 1 } : St).gate != 0) = decide (0 < Tt) ∧ ({ s with tried := T0 + 1, gate := 1 } : St).tried = Tt ∧ ({ s with tried := T0 + 1, gate := 1 } : St).flags = Ff := ⟨_, _, hP.gt, rfl, rfl⟩
                  have HP := Lib.hid hP
                  have HOP := Lib.hid (fun n => opened_d (DT.out.drewN n) hG hT)
                  have HFT := Lib.hid (And.intro hF hT)
                  clear hP hG hT hF
                  go_wp2_with fail
                  refine (HOP.out 0).mono ?_
                  rintro e w5 ⟨rfl, hD5, hK5⟩
                  dsimp only
                  obtain ⟨n2, n3, hfl⟩ := opened_f hD5 HFT.out.1 HFT.out.2
                  have HFL := Lib.hid hfl
                  have HD5 := Lib.hid hD5
                  clear hD5 hK5 HOP HFT hfl
                  go_wp2_with fail
                  go_quiet ((go_at_call 17; exact quiet_left (HFL.out _)))
                  go_wp2_with fail
                  exact ⟨⟨m + 1, _, _, _, by omega, by go_num, HP.out.move (HD5.out.drewN _)⟩, by simp [intOf]; omega⟩
          · have hN : 0 ≤ N ∧ N < 16 := by have := HIS.out; simp at this; omega
            obtain ⟨k, rfl⟩ : ∃ k : Nat, N = k := ⟨N.toNat, by omega⟩
            have hk : k < 16 := by omega
            have hki : (k : Int) < 16 := by omega
            clear hN HIS
            go_upto_region 13 with (fail)
            have hq : K % 7 = 0 ∨ K % 7 = 1 ∨ K % 7 = 2 ∨ K % 7 = 3 ∨ K % 7 = 4 ∨ K % 7 = 5 ∨ K % 7 = 6 := by omega
            rcases hq with hq | hq | hq | hq | hq | hq | hq
            · as_aux_lemma =>
                obtain ⟨V, hV⟩ : ∃ V, IntKind.i64.wrap (s.c (k * 2) + X) = V := ⟨_, rfl⟩
                have hadd := lift_p DA.out (add_in b k s hk X wc DA.out.tal)
                rw [hV] at hadd
                have HADD := Lib.hid hadd
                have HV := Lib.hid hV
                clear hadd hV
                go_wp2_with fail
                refine HADD.out.mono ?_
                rintro e w2 ⟨rfl, hD, hKp⟩
                dsimp only
                have BX2 := Lib.hid (hKp _ _ BX.out)
                have f1 : w2.cell? ⟨g, 1, none⟩ = some (.int .i64 k) := by rw [BX2.out.cell]; rfl
                have f2 : w2.cell? ⟨g, 2, none⟩ = some (.int .i64 X) := by rw [BX2.out.cell]; rfl
                have n0 := hD.nows
                have n1 := hD.now_cell hk
                obtain ⟨C0, hC0⟩ : ∃ C0, s.c (k * 2) = C0 := ⟨_, rfl⟩
                have hV := HV.out
                rw [hC0] at n1 hV
                have hL := HI.out.len
                have hset := rset_any w.heap.size rb nb v L s w2.drew hD.drew.ref hD.drew.below.size (by omega) k hk V
                have HSET := Lib.hid (lift_r hD.drew hset)
                have HC0 := Lib.hid hC0
                have HD := Lib.hid hD
                clear hD hKp e0 e1 e2 e3 e4 e5 HADD hC0 hset
                go_wp2_with fail
                go_still_tail 14, (by kernel_rfl)
                change wpList _ _ _ _ _ w2.drew
                go_wp2_with fail
                refine HSET.out.mono ?_
                rintro e w3 ⟨rfl, v3, hD3, hK3⟩
                dsimp only
                clear n0 n1 hV f1 f2 HSET HC0
                have BX3 := Lib.hid (hK3 _ _ BX2.out.drew)
                have f1 : w3.cell? ⟨g, 1, none⟩ = some (.int .i64 k) := by rw [BX3.out.cell]; rfl
                have n0 := hD3.nows
                have n1 := hD3.now_cell hk
                simp only [lay_at] at n1
                have DT := Lib.hid hD3
                clear hD3 hK3
                go_wp2_with fail
                go_quiet (fail)
                clear n0 n1 f1
                have hP := HI.out.nums _ DT.out (by simp)
                obtain ⟨Tt, Ff, hG, hT, hF⟩ : ∃ (Tt Ff : Int), (({ s with c := lay s.c k V } : St).gate != 0) = decide (0 < Tt) ∧ ({ s with c := lay s.c k V } : St).tried = Tt ∧ ({ s with c := lay s.c k V } : St).flags = Ff := ⟨_, _, hP.gt, rfl, rfl⟩
                have HP := Lib.hid hP
                have HOP := Lib.hid (fun n => opened_d (DT.out.drewN n) hG hT)
                have HFT := Lib.hid (And.intro hF hT)
                clear hP hG hT hF
                go_wp2_with fail
                refine (HOP.out _).mono ?_
                rintro e w5 ⟨rfl, hD5, hK5⟩
                dsimp only
                obtain ⟨n2, n3, hfl⟩ := opened_f hD5 HFT.out.1 HFT.out.2
                have HFL := Lib.hid hfl
                have HD5 := Lib.hid hD5
                clear hD5 hK5 HOP HFT hfl
                go_wp2_with fail
                go_quiet ((go_at_call 17; exact quiet_left (HFL.out _)))
                go_wp2_with fail
                exact ⟨⟨m + 1, _, _, _, by omega, by go_num, HP.out.move (HD5.out.drewN _)⟩, by simp [intOf]; omega⟩
            · as_aux_lemma =>
                obtain ⟨V, hV⟩ : ∃ V, IntKind.i64.wrap (s.c (k * 2) + X) = V := ⟨_, rfl⟩
                have hadd := lift_p DA.out (add_in b k s hk X wc DA.out.tal)
                rw [hV] at hadd
                have HADD := Lib.hid hadd
                have HV := Lib.hid hV
                clear hadd hV
                go_wp2_with fail
                refine HADD.out.mono ?_
                rintro e w2 ⟨rfl, hD, hKp⟩
                dsimp only
                have BX2 := Lib.hid (hKp _ _ BX.out)
                have f1 : w2.cell? ⟨g, 1, none⟩ = some (.int .i64 k) := by rw [BX2.out.cell]; rfl
                have f2 : w2.cell? ⟨g, 2, none⟩ = some (.int .i64 X) := by rw [BX2.out.cell]; rfl
                have n0 := hD.nows
                have n1 := hD.now_cell hk
                obtain ⟨C0, hC0⟩ : ∃ C0, s.c (k * 2) = C0 := ⟨_, rfl⟩
                have hV := HV.out
                rw [hC0] at n1 hV
                have hL := HI.out.len
                have hset := rset_any w.heap.size rb nb v L s w2.drew hD.drew.ref hD.drew.below.size (by omega) k hk V
                have HSET := Lib.hid (lift_r hD.drew hset)
                have HC0 := Lib.hid hC0
                have HD := Lib.hid hD
                clear hD hKp e0 e1 e2 e3 e4 e5 HADD hC0 hset
                go_wp2_with fail
                go_still_tail 14, (by kernel_rfl)
                change wpList _ _ _ _ _ w2.drew
                go_wp2_with fail
                refine HSET.out.mono ?_
                rintro e w3 ⟨rfl, v3, hD3, hK3⟩
                dsimp only
                clear n0 n1 hV f1 f2 HSET HC0
                have BX3 := Lib.hid (hK3 _ _ BX2.out.drew)
                have f1 : w3.cell? ⟨g, 1, none⟩ = some (.int .i64 k) := by rw [BX3.out.cell]; rfl
                have n0 := hD3.nows
                have n1 := hD3.now_cell hk
                simp only [lay_at] at n1
                have DT := Lib.hid hD3
                clear hD3 hK3
                go_wp2_with fail
                go_quiet (fail)
                clear n0 n1 f1
                have hP := HI.out.nums _ DT.out (by simp)
                obtain ⟨Tt, Ff, hG, hT, hF⟩ : ∃ (Tt Ff : Int), (({ s with c := lay s.c k V } : St).gate != 0) = decide (0 < Tt) ∧ ({ s with c := lay s.c k V } : St).tried = Tt ∧ ({ s with c := lay s.c k V } : St).flags = Ff := ⟨_, _, hP.gt, rfl, rfl⟩
                have HP := Lib.hid hP
                have HOP := Lib.hid (fun n => opened_d (DT.out.drewN n) hG hT)
                have HFT := Lib.hid (And.intro hF hT)
                clear hP hG hT hF
                go_wp2_with fail
                refine (HOP.out _).mono ?_
                rintro e w5 ⟨rfl, hD5, hK5⟩
                dsimp only
                obtain ⟨n2, n3, hfl⟩ := opened_f hD5 HFT.out.1 HFT.out.2
                have HFL := Lib.hid hfl
                have HD5 := Lib.hid hD5
                clear hD5 hK5 HOP HFT hfl
                go_wp2_with fail
                go_quiet ((go_at_call 17; exact quiet_left (HFL.out _)))
                go_wp2_with fail
                exact ⟨⟨m + 1, _, _, _, by omega, by go_num, HP.out.move (HD5.out.drewN _)⟩, by simp [intOf]; omega⟩
            · as_aux_lemma =>
                cases C
                · by_cases hX : s.c (k * 2) = X
                  · obtain ⟨C0, hC0⟩ : ∃ C0, s.c (k * 2) = C0 := ⟨_, rfl⟩
                    have HC0 := Lib.hid hC0
                    clear hC0
                    obtain rfl : C0 = X := HC0.out.symm.trans hX
                    clear hX
                    have hL := HI.out.len
                    have HCH := Lib.hid (fun n => change_d hk HC0.out (DA.out.drewN n) Y)
                    go_wp2_with fail
                    refine (HCH.out 0).mono ?_
                    rintro e w2 ⟨rfl, hD, hKp⟩
                    dsimp only
                    have BX2 := Lib.hid (hKp _ _ (BX.out.drewN 0))
                    have f1 : w2.cell? ⟨g, 1, none⟩ = some (.int .i64 k) := by rw [BX2.out.cell]; rfl
                    have f3 : w2.cell? ⟨g, 3, none⟩ = some (.int .i64 Y) := by rw [BX2.out.cell]; rfl
                    have n0 := hD.nows
                    have n1 := hD.now_cell hk
                    rw [HC0.out] at n1
                    have HSET := Lib.hid (fun n => lift_r (hD.drewN n) (rset_any w.heap.size rb nb v L s (w2.drewN n) (hD.drewN n).ref (hD.drewN n).below.size (by omega) k hk Y))
                    clear hD hKp e0 e1 e2 e3 e4 e5 HCH
                    go_wp2_with fail
                    go_quiet (fail)
                    go_wp2_with fail
                    refine (HSET.out _).mono ?_
                    rintro e w3 ⟨rfl, v3, hD3, hK3⟩
                    dsimp only
                    have DT := Lib.hid (hD3)
                    clear hD3 hK3 HSET
                    have hP := HI.out.nums _ DT.out (by simp)
                    obtain ⟨Tt, Ff, hG, hT, hF⟩ : ∃ (Tt Ff : Int), (({ s with c := lay s.c k Y } : St).gate != 0) = decide (0 < Tt) ∧ ({ s with c := lay s.c k Y } : St).tried = Tt ∧ ({ s with c := lay s.c k Y } : St).flags = Ff := ⟨_, _, hP.gt, rfl, rfl⟩
                    have HP := Lib.hid hP
                    have HOP := Lib.hid (fun n => opened_d (DT.out.drewN n) hG hT)
                    have HFT := Lib.hid (And.intro hF hT)
                    clear hP hG hT hF
                    go_wp2_with fail
                    refine (HOP.out 0).mono ?_
                    rintro e w5 ⟨rfl, hD5, hK5⟩
                    dsimp only
                    obtain ⟨n2, n3, hfl⟩ := opened_f hD5 HFT.out.1 HFT.out.2
                    have HFL := Lib.hid hfl
                    have HD5 := Lib.hid hD5
                    clear hD5 hK5 HOP HFT hfl
                    go_wp2_with fail
                    go_quiet ((go_at_call 17; exact quiet_left (HFL.out _)))
                    go_wp2_with fail
                    exact ⟨⟨m + 1, _, _, _, by omega, by go_num, HP.out.move (HD5.out.drewN _)⟩, by simp [intOf]; omega⟩
                  · obtain ⟨C0, hC0⟩ : ∃ C0, s.c (k * 2) = C0 := ⟨_, rfl⟩
                    have HC0 := Lib.hid hC0
                    clear hC0
                    have hne : (X == C0) = false := by
                      rw [← HC0.out]
                      simpa using fun h => hX h.symm
                    have HCH := Lib.hid (change_miss b k s hk X Y hX wc DA.out.tal)
                    clear hX
                    have n0 := DA.out.nows
                    have n1 := DA.out.now_cell hk
                    rw [HC0.out] at n1
                    go_wp2_with fail
                    refine HCH.out.mono ?_
                    rintro e w2 ⟨rfl, rfl⟩
                    dsimp only
                    go_wp2_with fail
                    go_quiet (fail)
                    have DT := DA
                    clear n0 n1 hne e0 e1 e2 e3 e4 e5
                    have hP := HI.out.same DT.out (by simp)
                    obtain ⟨Tt, Ff, hG, hT, hF⟩ : ∃ (Tt Ff : Int), ((s : St).gate != 0) = decide (0 < Tt) ∧ (s : St).tried = Tt ∧ (s : St).flags = Ff := ⟨_, _, hP.gt, rfl, rfl⟩
                    have HP := Lib.hid hP
                    have HOP := Lib.hid (fun n => opened_d (DT.out.drewN n) hG hT)
                    have HFT := Lib.hid (And.intro hF hT)
                    clear hP hG hT hF
                    go_wp2_with fail
                    refine (HOP.out _).mono ?_
                    rintro e w5 ⟨rfl, hD5, hK5⟩
                    dsimp only
                    obtain ⟨n2, n3, hfl⟩ := opened_f hD5 HFT.out.1 HFT.out.2
                    have HFL := Lib.hid hfl
                    have HD5 := Lib.hid hD5
                    clear hD5 hK5 HOP HFT hfl
                    go_wp2_with fail
                    go_quiet ((go_at_call 17; exact quiet_left (HFL.out _)))
                    go_wp2_with fail
                    exact ⟨⟨m + 1, _, _, _, by omega, by go_num, HP.out.move (HD5.out.drewN _)⟩, by simp [intOf]; omega⟩
                · obtain ⟨C0, hC0⟩ : ∃ C0, s.c (k * 2) = C0 := ⟨_, rfl⟩
                  have HC0 := Lib.hid hC0
                  clear hC0
                  have n0 := DA.out.nows
                  have n1 := DA.out.now_cell hk
                  rw [HC0.out] at n1
                  go_wp2_with fail
                  go_quiet (fail)
                  clear n0 n1
                  have hL := HI.out.len
                  have HCH := Lib.hid (fun n => change_d hk HC0.out (DA.out.drewN n) Y)
                  go_wp2_with fail
                  refine (HCH.out _).mono ?_
                  rintro e w2 ⟨rfl, hD, hKp⟩
                  dsimp only
                  have BX2 := Lib.hid (hKp _ _ (BX.out.drewN _))
                  have f1 : w2.cell? ⟨g, 1, none⟩ = some (.int .i64 k) := by rw [BX2.out.cell]; rfl
                  have f3 : w2.cell? ⟨g, 3, none⟩ = some (.int .i64 Y) := by rw [BX2.out.cell]; rfl
                  have n0 := hD.nows
                  have n1 := hD.now_cell hk
                  rw [HC0.out] at n1
                  have HSET := Lib.hid (fun n => lift_r (hD.drewN n) (rset_any w.heap.size rb nb v L s (w2.drewN n) (hD.drewN n).ref (hD.drewN n).below.size (by omega) k hk Y))
                  clear hD hKp e0 e1 e2 e3 e4 e5 HCH
                  go_wp2_with fail
                  go_quiet (fail)
                  go_wp2_with fail
                  refine (HSET.out _).mono ?_
                  rintro e w3 ⟨rfl, v3, hD3, hK3⟩
                  dsimp only
                  have DT := Lib.hid (hD3)
                  clear hD3 hK3 HSET
                  have hP := HI.out.nums _ DT.out (by simp)
                  obtain ⟨Tt, Ff, hG, hT, hF⟩ : ∃ (Tt Ff : Int), (({ s with c := lay s.c k Y } : St).gate != 0) = decide (0 < Tt) ∧ ({ s with c := lay s.c k Y } : St).tried = Tt ∧ ({ s with c := lay s.c k Y } : St).flags = Ff := ⟨_, _, hP.gt, rfl, rfl⟩
                  have HP := Lib.hid hP
                  have HOP := Lib.hid (fun n => opened_d (DT.out.drewN n) hG hT)
                  have HFT := Lib.hid (And.intro hF hT)
                  clear hP hG hT hF
                  go_wp2_with fail
                  refine (HOP.out 0).mono ?_
                  rintro e w5 ⟨rfl, hD5, hK5⟩
                  dsimp only
                  obtain ⟨n2, n3, hfl⟩ := opened_f hD5 HFT.out.1 HFT.out.2
                  have HFL := Lib.hid hfl
                  have HD5 := Lib.hid hD5
                  clear hD5 hK5 HOP HFT hfl
                  go_wp2_with fail
                  go_quiet ((go_at_call 17; exact quiet_left (HFL.out _)))
                  go_wp2_with fail
                  exact ⟨⟨m + 1, _, _, _, by omega, by go_num, HP.out.move (HD5.out.drewN _)⟩, by simp [intOf]; omega⟩
            · as_aux_lemma =>
                obtain ⟨C0, hC0⟩ : ∃ C0, s.c (k * 2) = C0 := ⟨_, rfl⟩
                have HC0 := Lib.hid hC0
                clear hC0
                have hL := HI.out.len
                have HCH := Lib.hid (take_d hk HC0.out DA.out)
                go_wp2_with fail
                refine HCH.out.mono ?_
                rintro e w2 ⟨rfl, hD, hKp⟩
                dsimp only
                have BX2 := Lib.hid (hKp _ _ BX.out)
                have f1 : w2.cell? ⟨g, 1, none⟩ = some (.int .i64 k) := by rw [BX2.out.cell]; rfl
                have n0 := hD.nows
                have n1 := hD.now_cell hk
                rw [HC0.out] at n1
                have HSET := Lib.hid (fun n => lift_r (hD.drewN n) (rset_any w.heap.size rb nb v L s (w2.drewN n) (hD.drewN n).ref (hD.drewN n).below.size (by omega) k hk 0))
                have hps := hD.pos hk
                have HLZ := Lib.hid (lay_zero s.c k hps)
                clear hD hKp e0 e1 e2 e3 e4 e5 HCH hps
                go_wp2_with fail
                go_quiet (fail)
                go_wp2_with fail
                refine (HSET.out _).mono ?_
                rintro e w3 ⟨rfl, v3, hD3, hK3⟩
                dsimp only
                have DT := Lib.hid (hD3.same (r' := { s with c := put s.c (k * 2) 0 }) HLZ.out rfl rfl)
                clear hD3 hK3 HSET
                have hP := HI.out.nums _ DT.out (by simp)
                obtain ⟨Tt, Ff, hG, hT, hF⟩ : ∃ (Tt Ff : Int), (({ s with c := put s.c (k * 2) 0 } : St).gate != 0) = decide (0 < Tt) ∧ ({ s with c := put s.c (k * 2) 0 } : St).tried = Tt ∧ ({ s with c := put s.c (k * 2) 0 } : St).flags = Ff := ⟨_, _, hP.gt, rfl, rfl⟩
                have HP := Lib.hid hP
                have HOP := Lib.hid (fun n => opened_d (DT.out.drewN n) hG hT)
                have HFT := Lib.hid (And.intro hF hT)
                clear hP hG hT hF
                go_wp2_with fail
                refine (HOP.out 0).mono ?_
                rintro e w5 ⟨rfl, hD5, hK5⟩
                dsimp only
                obtain ⟨n2, n3, hfl⟩ := opened_f hD5 HFT.out.1 HFT.out.2
                have HFL := Lib.hid hfl
                have HD5 := Lib.hid hD5
                clear hD5 hK5 HOP HFT hfl
                go_wp2_with fail
                go_quiet ((go_at_call 17; exact quiet_left (HFL.out _)))
                go_wp2_with fail
                exact ⟨⟨m + 1, _, _, _, by omega, by go_num, HP.out.move (HD5.out.drewN _)⟩, by simp [intOf]; omega⟩
            · as_aux_lemma =>
                obtain ⟨F0, hF0⟩ : ∃ F0, s.flags = F0 := ⟨_, rfl⟩
                have HF0 := Lib.hid hF0
                clear hF0
                have n2 := DA.out.flg
                rw [HF0.out] at n2
                have HR := Lib.hid (raise_d HF0.out DA.out.drew F)
                have HBD := Lib.hid BX.out.drew
                go_wp2_with fail
                go_region_held3 (fun w' => w'.cell? ⟨g, 4, none⟩ = some (.int .u64 F) ∧ w'.cell? ⟨rb, 2, none⟩ = some (.int .u64 F0)) (first | exact ⟨e4, n2⟩ | exact ⟨m4, m2⟩)
                  (first
                    | (go_at_call 13; refine HR.out.mono ?_; rintro e w6 ⟨rfl, hD6, hK6⟩; have hB6 := hK6 _ _ HBD.out; have m4 : w6.cell? ⟨g, 4, none⟩ = some (.int .u64 F) := (by rw [hB6.cell]; rfl); have m2 := hD6.flg; rw [HF0.out] at m2))
                have z2 := hD6.ref.blk.frozen 2
                have HB6 := Lib.hid hB6
                have DT := Lib.hid ((hD6.rflags (bits .or .u64 F0 F)).1.drew)
                clear HR HBD hK6 hB6 hD6 e0 e1 e2 e3 e4 e5 n2
                go_wp2_with fail
                go_region
                try dsimp only
                clear m4 m2 z2
                have hP := HI.out.flags _ DT.out (by simp)
                obtain ⟨Tt, Ff, hG, hT, hF⟩ : ∃ (Tt Ff : Int), (({ s with flags := bits .or .u64 F0 F } : St).gate != 0) = decide (0 < Tt) ∧ ({ s with flags := bits .or .u64 F0 F } : St).tried = Tt ∧ ({ s with flags := bits .or .u64 F0 F } : St).flags = Ff := ⟨_, _, hP.gt, rfl, rfl⟩
                have HP := Lib.hid hP
                have HOP := Lib.hid (fun n => opened_d (DT.out.drewN n) hG hT)
                have HFT := Lib.hid (And.intro hF hT)
                clear hP hG hT hF
                go_wp2_with fail
                refine (HOP.out 0).mono ?_
                rintro e w5 ⟨rfl, hD5, hK5⟩
                dsimp only
                obtain ⟨n2, n3, hfl⟩ := opened_f hD5 HFT.out.1 HFT.out.2
                have HFL := Lib.hid hfl
                have HD5 := Lib.hid hD5
                clear hD5 hK5 HOP HFT hfl
                go_wp2_with fail
                go_quiet ((go_at_call 17; exact quiet_left (HFL.out _)))
                go_wp2_with fail
                exact ⟨⟨m + 1, _, _, _, by omega, by go_num, HP.out.move (HD5.out.drewN _)⟩, by simp [intOf]; omega⟩
            · as_aux_lemma =>
                obtain ⟨F0, hF0⟩ : ∃ F0, s.flags = F0 := ⟨_, rfl⟩
                have HF0 := Lib.hid hF0
                clear hF0
                have n2 := DA.out.flg
                rw [HF0.out] at n2
                have HR := Lib.hid (lower_d HF0.out DA.out.drew F)
                have HBD := Lib.hid BX.out.drew
                go_wp2_with fail
                go_region_held3 (fun w' => w'.cell? ⟨g, 4, none⟩ = some (.int .u64 F) ∧ w'.cell? ⟨rb, 2, none⟩ = some (.int .u64 F0)) (first | exact ⟨e4, n2⟩ | exact ⟨m4, m2⟩)
                  (first
                    | (go_at_call 14; refine HR.out.mono ?_; rintro e w6 ⟨rfl, hD6, hK6⟩; have hB6 := hK6 _ _ HBD.out; have m4 : w6.cell? ⟨g, 4, none⟩ = some (.int .u64 F) := (by rw [hB6.cell]; rfl); have m2 := hD6.flg; rw [HF0.out] at m2))
                have z2 := hD6.ref.blk.frozen 2
                have HB6 := Lib.hid hB6
                have DT := Lib.hid (((hD6.rflags (bits .andNot .u64 F0 F)).1.drew.same (r' := { s with flags := bits .and .u64 F0 (bits .xor .u64 IntKind.u64.max F) }) rfl (andNot_eq F0 F) rfl))
                clear HR HBD hK6 hB6 hD6 e0 e1 e2 e3 e4 e5 n2
                go_wp2_with fail
                go_region
                try dsimp only
                clear m4 m2 z2
                have hP := HI.out.flags _ DT.out (by simp)
                obtain ⟨Tt, Ff, hG, hT, hF⟩ : ∃ (Tt Ff : Int), (({ s with flags := bits .and .u64 F0 (bits .xor .u64 IntKind.u64.max F) } : St).gate != 0) = decide (0 < Tt) ∧ ({ s with flags := bits .and .u64 F0 (bits .xor .u64 IntKind.u64.max F) } : St).tried = Tt ∧ ({ s with flags := bits .and .u64 F0 (bits .xor .u64 IntKind.u64.max F) } : St).flags = Ff := ⟨_, _, hP.gt, rfl, rfl⟩
                have HP := Lib.hid hP
                have HOP := Lib.hid (fun n => opened_d (DT.out.drewN n) hG hT)
                have HFT := Lib.hid (And.intro hF hT)
                clear hP hG hT hF
                go_wp2_with fail
                refine (HOP.out 0).mono ?_
                rintro e w5 ⟨rfl, hD5, hK5⟩
                dsimp only
                obtain ⟨n2, n3, hfl⟩ := opened_f hD5 HFT.out.1 HFT.out.2
                have HFL := Lib.hid hfl
                have HD5 := Lib.hid hD5
                clear hD5 hK5 HOP HFT hfl
                go_wp2_with fail
                go_quiet ((go_at_call 17; exact quiet_left (HFL.out _)))
                go_wp2_with fail
                exact ⟨⟨m + 1, _, _, _, by omega, by go_num, HP.out.move (HD5.out.drewN _)⟩, by simp [intOf]; omega⟩
            · as_aux_lemma =>
                obtain ⟨T0, hT0⟩ : ∃ T0, s.tried = T0 := ⟨_, rfl⟩
                have b1 : 0 ≤ T0 ∧ T0 ≤ 100 := by have h1 := HI.out.one; have h2 := HI.out.tried1; rw [hT0] at h1 h2; omega
                obtain ⟨b1, b2⟩ := b1
                have n3 := DA.out.trd
                rw [hT0] at n3
                have z3 := DA.out.ref.blk.frozen 3
                have hR := DA.out.rtried (s.tried + 1)
                have hone := HI.out.one
                rw [hT0] at hR hone
                have HR := Lib.hid hR
                have HT0 := Lib.hid hT0
                have m3 : (wc.setCell ⟨rb, 3, none⟩ (.int .i64 (T0 + 1))).cell? ⟨rb, 3, none⟩ = some (.int .i64 (T0 + 1)) := hR.1.trd
                clear hR hT0
                rcases hone with ⟨hg0, ht⟩ | ⟨hg0, ht⟩
                · subst ht
                  have HO := Lib.hid (open_d_yes hg0 HT0.out b1 b2 HR.out.1.drew)
                  clear hg0
                  go_wp2_with fail
                  go_region_held3 (fun w' => w'.cell? ⟨rb, 3, none⟩ = some (.int .i64 (0 + 1))) (first | exact m3 | exact m4)
                    (first
                      | (go_at_call 15; refine HO.out.mono ?_; rintro e w6 ⟨rfl, hD6, hK6⟩; have m4 := hD6.trd))
                  have DT := Lib.hid (hD6.same (r' := { s with tried := 0 + 1, gate := 1 }) rfl rfl rfl)
                  clear HO HR hD6 hK6 m3 m4 n3 z3 e0 e1 e2 e3 e4 e5
                  have hP := HI.out.open_d HT0.out DT.out (by simp)
                  obtain ⟨Tt, Ff, hG, hT, hF⟩ : ∃ (Tt Ff : Int), (({ s with tried := 0 + 1, gate := 1 } : St).gate != 0) = decide (0 < Tt) ∧ ({ s with tried := 0 + 1, gate := 1 } : St).tried = Tt ∧ ({ s with tried := 0 + 1, gate := 1 } : St).flags = Ff := ⟨_, _, hP.gt, rfl, rfl⟩
                  have HP := Lib.hid hP
                  have HOP := Lib.hid (fun n => opened_d (DT.out.drewN n) hG hT)
                  have HFT := Lib.hid (And.intro hF hT)
                  clear hP hG hT hF
                  go_wp2_with fail
                  refine (HOP.out 0).mono ?_
                  rintro e w5 ⟨rfl, hD5, hK5⟩
                  dsimp only
                  obtain ⟨n2, n3, hfl⟩ := opened_f hD5 HFT.out.1 HFT.out.2
                  have HFL := Lib.hid hfl
                  have HD5 := Lib.hid hD5
                  clear hD5 hK5 HOP HFT hfl
                  go_wp2_with fail
                  go_quiet ((go_at_call 17; exact quiet_left (HFL.out _)))
                  go_wp2_with fail
                  exact ⟨⟨m + 1, _, _, _, by omega, by go_num, HP.out.move (HD5.out.drewN _)⟩, by simp [intOf]; omega⟩
                · have HO := Lib.hid (open_d_no hg0 HT0.out b1 b2 HR.out.1.drew)
                  clear hg0
                  go_wp2_with fail
                  go_region_held3 (fun w' => w'.cell? ⟨rb, 3, none⟩ = some (.int .i64 (T0 + 1))) (first | exact m3 | exact m4)
                    (first
                      | (go_at_call 15; refine HO.out.mono ?_; rintro e w6 ⟨rfl, hD6, hK6⟩; have m4 := hD6.trd))
                  have DT := Lib.hid (hD6.same (r' := { s with tried := T0 + 1, gate := 1 }) rfl rfl rfl)
                  clear HO HR hD6 hK6 m3 m4 n3 z3 e0 e1 e2 e3 e4 e5
                  have hP := HI.out.open_d HT0.out DT.out (by simp)
                  obtain ⟨Tt, Ff, hG, hT, hF⟩ : ∃ (Tt Ff : Int), (({ s with tried := T0 + 1, gate := 1 } : St).gate != 0) = decide (0 < Tt) ∧ ({ s with tried := T0 + 1, gate := 1 } : St).tried = Tt ∧ ({ s with tried := T0 + 1, gate := 1 } : St).flags = Ff := ⟨_, _, hP.gt, rfl, rfl⟩
                  have HP := Lib.hid hP
                  have HOP := Lib.hid (fun n => opened_d (DT.out.drewN n) hG hT)
                  have HFT := Lib.hid (And.intro hF hT)
                  clear hP hG hT hF
                  go_wp2_with fail
                  refine (HOP.out 0).mono ?_
                  rintro e w5 ⟨rfl, hD5, hK5⟩
                  dsimp only
                  obtain ⟨n2, n3, hfl⟩ := opened_f hD5 HFT.out.1 HFT.out.2
                  have HFL := Lib.hid hfl
                  have HD5 := Lib.hid hD5
                  clear hD5 hK5 HOP HFT hfl
                  go_wp2_with fail
                  go_quiet ((go_at_call 17; exact quiet_left (HFL.out _)))
                  go_wp2_with fail
                  exact ⟨⟨m + 1, _, _, _, by omega, by go_num, HP.out.move (HD5.out.drewN _)⟩, by simp [intOf]; omega⟩
      · as_aux_lemma =>
          obtain rfl : m = n := by omega
          clear hlt hm hAA
          have HALL := Lib.hid (all_d HI.out.duo)
          have HNM := Lib.hid HI.out.named
          have hBs := HI.out.duo.below.size
          have hBS := Lib.hid hBs
          clear hBs
          go_wp2_with fail
          refine HALL.out.mono ?_
          rintro e w2 ⟨A1, q1, rfl, hown, hD⟩
          dsimp only
          have HD := Lib.hid hD
          obtain ⟨ga, cap, hv, hga, hgl⟩ := hown.form (by omega)
          injection hv with hA1 hn1 hq1
          subst hA1
          obtain rfl : cap = q1 := hq1.symm
          have HO := Lib.hid hown
          clear HALL hown hD hn1
          go_wp2_with fail
          go_loopw [291] (fun i w' => ∃ (k : Nat) (s' : St), k ≤ 16 ∧ i = .int .i64 k ∧ s'.c = s.c ∧ Named s' ∧ Duo w w' b rb nb v L s' s ∧ w'.ownsRow wr.heap.size 3 1 (.slice (some ⟨ga, 0, none⟩) 16 cap) 16 (nowL s 16)) (fun i _ => 16 - (intOf i).toNat)
          case atStart => exact ⟨0, s, by omega, rfl, rfl, HNM.out, HD.out, HO.out⟩
          case round =>
            obtain ⟨k, s', hk, rfl, hsc, hnm, hD, hown⟩ := hrel
            have HD' := Lib.hid hD
            have HO' := Lib.hid hown
            have HSC := Lib.hid hsc
            have HN' := Lib.hid hnm
            clear hD hown hsc hnm HD HO
            by_cases hlt : k < 16
            · obtain ⟨C0, hC0⟩ : ∃ C0, s.c (k * 2) = C0 := ⟨_, rfl⟩
              obtain ⟨H0, hH0⟩ : ∃ H0, s.c (k * 2 + 1) = H0 := ⟨_, rfl⟩
              have a0 := all_cell HO'.out hlt
              have n0 := HD'.out.nows
              have n1 := HD'.out.now_cell hlt
              rw [hC0] at a0 n1
              have G1 := Lib.hid (get_e hlt HSC.out hC0 HD'.out.tal)
              have G2 := Lib.hid (high_e hlt HSC.out hH0 HD'.out.tal)
              have G3 := Lib.hid (rhigh_e hlt hH0 HD'.out)
              have G4 := Lib.hid (name_e hlt HD'.out HO'.out HN'.out)
              have hki : (k : Int) < 16 := by omega
              have HSC2 := Lib.hid (show (made s').c = s.c from HSC.out)
              clear hC0 hH0 HSC
              go_wp2_with (first
                | (go_at_call 19; (with_reducible refine (G1.out).mono ?_); rintro e w3 ⟨rfl, rfl⟩)
                | (go_at_call 20; (with_reducible refine (G2.out).mono ?_); rintro e w3 ⟨rfl, rfl⟩)
                | (go_at_call 21; (with_reducible refine (G3.out).mono ?_); rintro e w3 ⟨rfl, rfl⟩)
                | (go_at_call 22; (with_reducible refine (G4.out).mono ?_); rintro e w3 ⟨rfl, hD3, hO3, hN3⟩; have HD3 := Lib.hid hD3; have HO3 := Lib.hid hO3; have HN3 := Lib.hid hN3; clear hD3 hO3 hN3)
                | (go_at_call 23; (with_reducible refine (rname_d hlt HD3.out HO3.out).mono ?_); rintro e w4 ⟨rfl, hD4, hO4⟩; have HD4 := Lib.hid hD4; have HO4 := Lib.hid hO4; clear hD4 hO4))
              go_roundw
              case rel => first | exact ⟨k + 1, made s', by omega, by go_num, HSC2.out, HN3.out, HD4.out, HO4.out⟩ | ((repeat apply Exists.intro); (refine ⟨?_, rfl⟩); exact ⟨k + 1, made s', by omega, by go_num, HSC2.out, HN3.out, HD4.out, HO4.out⟩)
              case measure => simp [intOf]; omega
            · obtain rfl : k = 16 := by omega
              clear hlt hk
              go_wp2_with fail
              go_ret
              exact ⟨rfl, HD'.out.below⟩
end Go.Proofs.YtdbbnkibdibpkaaDoor
