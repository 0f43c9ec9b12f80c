/- do: an act, of the store and the plain row. -/
import Derived.Test.YtfcdplfnhjbdnaaRg
import Derived.Deep.RegionHeld3
namespace Go.Proofs.Ytfcdplfnhjbdnaa
open Go.RowKit Go.Maps
set_option linter.unusedVariables false

structure DS (w0 : World) (n cb rb : Nat) (s : CS) (L : List Was) (w : World) : Prop where
  ks : KS w0 n cb s w
  rm : ∃ v, RM w w0.heap.size rb L s.last s.floor v
  rel : Rel L s
  len : L.length ≤ n
def doS (s : CS) (K V : ByteArray) (H T : Bool) (M : Int) : CS := if T = true then (if trimE s M = 0 then trimS s M else s) else putS s K V H M
def doL (s : CS) (L : List Was) (K V : ByteArray) (H T : Bool) (M : Int) : List Was := if T = true then (if trimE s M = 0 then refKeep M L else L) else (if putE s K V M = 0 then refPut L K V H M else L)
theorem refPut_len (L : List Was) (K V : ByteArray) (H : Bool) (M : Int) : (refPut L K V H M).length ≤ L.length + 1 := by
  unfold refPut
  rw [List.length_append]
  have := List.length_filter_le (fun w : Was => !(decide (w.key = K) && decide (w.t = M))) L
  simp only [List.length_cons, List.length_nil]
  omega
theorem refKeep_len (m : Int) : ∀ L : List Was, (refKeep m L).length ≤ L.length
  | [] => Nat.le_refl _
  | w :: r => by
    have := refKeep_len m r
    unfold refKeep
    split
    · simp; omega
    · simp; omega
section
variable {w0 w w' : World} {n cb rb : Nat} {s : CS} {L : List Was}
theorem DS.new_ (h : DS w0 n cb rb s L w) (hc : NewW w w') : DS w0 n cb rb s L w' := by
  obtain ⟨v, hr⟩ := h.rm
  exact ⟨h.ks.new_ hc, ⟨v, hr.new_ hc⟩, h.rel, h.len⟩
theorem RM.keepT {B : Nat} {last floor : Int} {v : Value} (h : RM w B rb L last floor v) (hk : KpT w w') : RM w' B rb L last floor v := by
  refine ⟨hk _ _ _ (by decide) (by decide) h.blk, ⟨h.row.1, ?_⟩, h.rB⟩
  rcases h.row.2 with h2 | ⟨g, cap, cur, hv, hg, hh, r⟩
  · exact .inl h2
  · exact .inr ⟨g, cap, cur, hv, hg, hk g 69 cur (by decide) (by decide) hh, r⟩
theorem KS.keepR {last floor : Int} {v : Value} {L' : List Was} {last' floor' : Int} (h : KS w0 n cb s w) (hr : RM w w0.heap.size rb L last floor v) (hp : RP w0.heap.size rb L' last' floor' w w') : KS w0 n cb s w' ∧ ∃ v', RM w' w0.heap.size rb L' last' floor' v' := by
  obtain ⟨v', h1, h2, _⟩ := hp
  obtain ⟨mb, D, V, hm⟩ := h.cm
  refine ⟨⟨⟨mb, D, V, hm.ch h2 fun g hg e => hm.far hr.blk (by decide) (by decide) (e ▸ hg)⟩, Ch.below h.below h2 (fun g e => by subst e; exact hr.rB) h.below.size, h.good, h.len⟩, v', h1⟩
theorem KpR {B : Nat} {last floor : Int} {v : Value} {L' : List Was} {last' floor' : Int} (hr : RM w B rb L last floor v) (hp : RP B rb L' last' floor' w w') {g : Nat} {t : TypeId} {cs : Array Value} (ht : t ≠ 30) (hb : Blk w g t cs) : Blk w' g t cs := by
  obtain ⟨v', h1, h2, _⟩ := hp
  exact hb.ch h2 (fun e => Blk.ne_ hb hr.blk ht e)
/-- The row's Put, at whatever it answers. -/
theorem rput_any {B : Nat} {v : Value} (h : RM w B rb L s.last s.floor v) (hB : B ≤ w.heap.size) (hL : L.length ≤ 1000000) (K V : ByteArray) (H : Bool) (M : Int) :
    Calls Try.prog 25 #[.pointer (some ⟨rb, 0, none⟩), .string K, .string V, .bool H, .int .i64 M] w fun e w' => e = .returned (.int .i64 (putE s K V M)) ∧ (if putE s K V M = 0 then RP B rb (refPut L K V H M) M s.floor w w' else w = w') := by
  by_cases hE : putE s K V M = 0
  · rw [hE]
    simp only [if_true]
    exact rput_ok h hB hL K V H M hE
  · simp only [if_neg hE]
    exact rput_bad h K V H M hE
theorem ds_put (h : DS w0 n cb rb s L w) {w2 : World} (hn : n ≤ 900000) (K V : ByteArray) (H : Bool) (M : Int) (hk : KS w0 (n + 1) cb (putS s K V H M) w2) (hp : KpT w w2) :
    Calls Try.prog 25 #[.pointer (some ⟨rb, 0, none⟩), .string K, .string V, .bool H, .int .i64 M] w2 fun e w' => e = .returned (.int .i64 (putE s K V M)) ∧ DS w0 (n + 1) cb rb (putS s K V H M) (if putE s K V M = 0 then refPut L K V H M else L) w' ∧ ∀ g t cs, t ≠ 30 → Blk w2 g t cs → Blk w' g t cs := by
  obtain ⟨v, hr⟩ := h.rm
  have hr2 := hr.keepT hp
  refine (rput_any hr2 hk.size (by have := h.len; omega) K V H M).mono fun e w' ⟨h1, h2⟩ => ⟨h1, ?_⟩
  by_cases hE : putE s K V M = 0
  · rw [if_pos hE] at h2 ⊢
    obtain ⟨q1, v', q2⟩ := hk.keepR hr2 h2
    refine ⟨⟨q1, ⟨v', by rw [put_last hE, put_floor]; exact q2⟩, rel_put h.rel h.ks.good hE, by have := refPut_len L K V H M; have := h.len; omega⟩, fun g t cs ht hb => KpR hr2 h2 ht hb⟩
  · rw [if_neg hE] at h2 ⊢
    subst h2
    have e := put_no (H := H) hE
    exact ⟨⟨hk, ⟨v, by rw [e]; exact hr2⟩, by rw [e]; exact h.rel, by have := h.len; omega⟩, fun g t cs _ hb => hb⟩
theorem ds_trim (h : DS w0 n cb rb s L w) {w2 : World} (hn : n ≤ 900000) (M : Int) (hk : KS w0 n cb (trimS s M) w2) (hp : KpT w w2) {ks : List (List UInt8)} (hks : KeysIn s ks) :
    Calls Try.prog 26 #[.pointer (some ⟨rb, 0, none⟩), .int .i64 M] w2 fun e w' => e = .returned (.int .i64 (trimN s M ks : Nat)) ∧ DS w0 n cb rb (trimS s M) (refKeep M L) w' := by
  obtain ⟨v, hr⟩ := h.rm
  have hr2 := hr.keepT hp
  have hcnt := trim_count h.rel h.ks.good M hks
  refine (rtrim_any hr2 hk.size (by have := h.len; omega) M).mono fun e w' ⟨h1, h2⟩ => ⟨by rw [h1, show L.length - (refKeep M L).length = trimN s M ks by omega], ?_⟩
  obtain ⟨q1, v', q2⟩ := hk.keepR hr2 h2
  exact ⟨q1, ⟨v', q2⟩, rel_trim h.rel h.ks.good M, by have := refKeep_len M L; have := h.len; omega⟩
set_option maxRecDepth 100000 in
set_option maxHeartbeats 4000000 in
theorem do_any (h : DS w0 n cb rb s L w) (hn : n ≤ 900000) (K V : ByteArray) (H T : Bool) (M : Int) :
    Calls Try.prog 10 #[.pointer (some ⟨cb, 0, none⟩), .pointer (some ⟨rb, 0, none⟩), .agg #[.string K, .string V, .bool H, .bool T, .int .i64 M]] w fun e w' => e = .returned (.bool true) ∧ DS w0 (n + 1) cb rb (doS s K V H T M) (doL s L K V H T M) w' := by
  have BX := Lib.hid (Blk.new w 32 #[.string K, .string V, .bool H, .bool T, .int .i64 M])
  have HD := Lib.hid (h.new_ ((Ch.refl _ w).alloc (.cells #[.string K, .string V, .bool H, .bool T, .int .i64 M] 32)))
  have e0 : (w.alloc (.cells #[.string K, .string V, .bool H, .bool T, .int .i64 M] 32)).cell? ⟨w.heap.size, 0, none⟩ = some (.string K) := by rw [BX.out.cell]; rfl
  have e1 : (w.alloc (.cells #[.string K, .string V, .bool H, .bool T, .int .i64 M] 32)).cell? ⟨w.heap.size, 1, none⟩ = some (.string V) := by rw [BX.out.cell]; rfl
  have e2 : (w.alloc (.cells #[.string K, .string V, .bool H, .bool T, .int .i64 M] 32)).cell? ⟨w.heap.size, 2, none⟩ = some (.bool H) := by rw [BX.out.cell]; rfl
  have e3 : (w.alloc (.cells #[.string K, .string V, .bool H, .bool T, .int .i64 M] 32)).cell? ⟨w.heap.size, 3, none⟩ = some (.bool T) := by rw [BX.out.cell]; rfl
  have e4 : (w.alloc (.cells #[.string K, .string V, .bool H, .bool T, .int .i64 M] 32)).cell? ⟨w.heap.size, 4, none⟩ = some (.int .i64 M) := by rw [BX.out.cell]; rfl
  clear h
  cases T
  · have hs : doS s K V H false M = putS s K V H M := rfl
    have hl : doL s L K V H false M = if putE s K V M = 0 then refPut L K V H M else L := rfl
    rw [hs, hl]
    clear hs hl
    have HDD := Lib.hid (HD.out.new_ ((Ch.refl _ _).drew))
    have HP := Lib.hid (ks_put HDD.out.ks hn K V H M)
    have HR := Lib.hid (fun w2 hk hp => ds_put (w2 := w2) HDD.out hn K V H M hk hp)
    obtain ⟨EE, hEE⟩ : ∃ EE, putE s K V M = EE := ⟨_, rfl⟩
    obtain ⟨NL, hNL⟩ : ∃ NL, (if putE s K V M = 0 then refPut L K V H M else L) = NL := ⟨_, rfl⟩
    rw [hNL]
    rw [hNL] at HR
    rw [hEE] at HP HR
    have hee : (EE == EE) = true := by simp
    clear hEE hNL
    go_enter Try.func10, Try.ntmps10
    go_wp2_with fail
    generalize w.alloc (.cells #[.string K, .string V, .bool H, .bool false, .int .i64 M] 32) = wb at *
    generalize w.heap.size = g at *
    go_region_held3 (fun w' => w'.cell? ⟨g, 0, none⟩ = some (.string K) ∧ w'.cell? ⟨g, 1, none⟩ = some (.string V) ∧ w'.cell? ⟨g, 2, none⟩ = some (.bool H) ∧ w'.cell? ⟨g, 4, none⟩ = some (.int .i64 M)) (first | exact ⟨e0, e1, e2, e4⟩ | exact ⟨f0, f1, f2, f4⟩ | exact ⟨h0, h1, h2, h4⟩)
      (first
        | (go_at_call 21; refine HP.out.mono ?_; rintro e w2 ⟨rfl, hk2, hp2⟩; have hb2 := hp2 _ _ _ (by decide) (by decide) BX.out.drew; have f0 : w2.cell? ⟨g, 0, none⟩ = some (.string K) := (by rw [hb2.cell]; rfl); have f1 : w2.cell? ⟨g, 1, none⟩ = some (.string V) := (by rw [hb2.cell]; rfl); have f2 : w2.cell? ⟨g, 2, none⟩ = some (.bool H) := (by rw [hb2.cell]; rfl); have f4 : w2.cell? ⟨g, 4, none⟩ = some (.int .i64 M) := (by rw [hb2.cell]; rfl))
        | (go_at_call 25; refine (HR.out _ hk2 hp2).mono ?_; rintro e w3 ⟨rfl, hd3, hp3⟩; have hb3 := hp3 _ _ _ (by decide) hb2; have h0 : w3.cell? ⟨g, 0, none⟩ = some (.string K) := (by rw [hb3.cell]; rfl); have h1 : w3.cell? ⟨g, 1, none⟩ = some (.string V) := (by rw [hb3.cell]; rfl); have h2 : w3.cell? ⟨g, 2, none⟩ = some (.bool H) := (by rw [hb3.cell]; rfl); have h4 : w3.cell? ⟨g, 4, none⟩ = some (.int .i64 M) := (by rw [hb3.cell]; rfl)))
    have HD3 := Lib.hid hd3
    clear HP HR hk2 hp2 hb2 hd3 hp3 hb3 e0 e1 e2 e3 e4 f0 f1 f2 f4 h0 h1 h2 h4
    go_wp2_with fail
    go_ret
    exact ⟨rfl, HD3.out⟩
  · by_cases hE : trimE s M = 0
    · have hs : doS s K V H true M = trimS s M := by unfold doS; rw [if_pos rfl, if_pos hE]
      have hl : doL s L K V H true M = refKeep M L := by unfold doL; rw [if_pos rfl, if_pos hE]
      rw [hs, hl]
      have hmm : (0 ≤ M ∧ M ≤ 1099511627776) ∧ ¬ M < s.floor := by
        unfold trimE maxClock at hE
        split at hE
        · omega
        split at hE
        · omega
        · rename_i a b; exact ⟨by omega, b⟩
      have d0 : decide (M < 0) = false := by simp; omega
      have d1 : decide (1099511627776 < M) = false := by simp; omega
      have d2 : decide (M < s.floor) = false := by simpa using hmm.2
      have HT := Lib.hid (ks_trim HD.out.ks hn M hE)
      have HR := Lib.hid (fun w2 hk hp ks hks => ds_trim (w2 := w2) HD.out hn M hk hp (ks := ks) hks)
      obtain ⟨v, hr⟩ := HD.out.rm
      have HRM := Lib.hid hr
      clear hs hl hmm hE hr
      go_enter Try.func10, Try.ntmps10
      go_wp2_with fail
      generalize w.alloc (.cells #[.string K, .string V, .bool H, .bool true, .int .i64 M] 32) = wb at *
      generalize w.heap.size = g at *
      refine HT.out.mono ?_
      rintro e w2 ⟨ks, hks, rfl, hk2, hp2⟩
      dsimp only
      have hb2 := hp2 _ _ _ (by decide) (by decide) BX.out
      have f4 : w2.cell? ⟨g, 4, none⟩ = some (.int .i64 M) := by rw [hb2.cell]; rfl
      have hrm2 := HRM.out.keepT hp2
      have c2 := hrm2.c2
      have HC := Lib.hid (fun k => (HR.out (w2.drewN k) (hk2.new_ ((Ch.refl (fun _ => False) w2).drewN k)) (hp2.trans (KpT.new_ ((Ch.refl (fun _ => False) w2).drewN k))) ks hks))
      obtain ⟨NT, hNT⟩ : ∃ NT, trimN s M ks = NT := ⟨_, rfl⟩
      rw [hNT] at HC ⊢
      have hnt : ((NT : Int) == (NT : Int)) = true := by simp
      clear hNT HT HR hks hk2 hp2 hb2 hrm2 HRM e0 e1 e2 e3 e4
      generalize s.floor = FF at *
      go_wp2_with fail
      go_quiet (fail)
      go_wp2_with (go_at_call 26; refine (HC.out _).mono ?_; rintro e w5 ⟨rfl, hd5⟩; have HD5 := Lib.hid hd5; clear hd5)
      go_ret
      exact ⟨rfl, HD5.out.ks.mono (Nat.le_succ n), HD5.out.rm, HD5.out.rel, by have := HD5.out.len; omega⟩
    · have hs : doS s K V H true M = s := by unfold doS; rw [if_pos rfl, if_neg hE]
      have hl : doL s L K V H true M = L := by unfold doL; rw [if_pos rfl, if_neg hE]
      rw [hs, hl]
      have HT := Lib.hid (ks_trim_bad HD.out.ks M hE)
      obtain ⟨v, hr⟩ := HD.out.rm
      have c2 := hr.c2
      clear hs hl hr
      by_cases hb : M < 0 ∨ maxClock < M
      · have he : trimE s M = 1 := by unfold trimE; rw [if_pos hb]
        rw [he] at HT
        unfold maxClock at hb
        clear he hE
        by_cases h0 : M < 0
        · have d0 : decide (M < 0) = true := by simpa using h0
          go_enter Try.func10, Try.ntmps10
          go_wp2_with (go_at_call 22; refine HT.out.mono ?_; rintro e w2 ⟨rfl, rfl⟩)
          go_ret
          exact ⟨rfl, HD.out.ks.mono (Nat.le_succ n), HD.out.rm, HD.out.rel, by have := HD.out.len; omega⟩
        · have d0 : decide (M < 0) = false := by simpa using h0
          have d1 : decide (1099511627776 < M) = true := by simp; omega
          go_enter Try.func10, Try.ntmps10
          go_wp2_with (go_at_call 22; refine HT.out.mono ?_; rintro e w2 ⟨rfl, rfl⟩)
          go_ret
          exact ⟨rfl, HD.out.ks.mono (Nat.le_succ n), HD.out.rm, HD.out.rel, by have := HD.out.len; omega⟩
      · have hf : M < s.floor := by
          unfold trimE at hE
          rw [if_neg hb] at hE
          rcases Int.lt_or_le M s.floor with h | h
          · exact h
          · rw [if_neg (by omega)] at hE; exact absurd rfl hE
        have he : trimE s M = 5 := by unfold trimE; rw [if_neg hb, if_pos hf]
        rw [he] at HT
        unfold maxClock at hb
        have d0 : decide (M < 0) = false := by simp; omega
        have d1 : decide (1099511627776 < M) = false := by simp; omega
        have d2 : decide (M < s.floor) = true := by simpa using hf
        clear he hE hf hb
        have HDN := Lib.hid (fun k => HD.out.new_ ((Ch.refl (fun _ => False) _).drewN k))
        generalize s.floor = FF at *
        go_enter Try.func10, Try.ntmps10
        go_wp2_with (go_at_call 22; refine HT.out.mono ?_; rintro e w2 ⟨rfl, rfl⟩)
        go_quiet (fail)
        go_wp2_with fail
        go_ret
        exact ⟨rfl, (HDN.out _).ks.mono (Nat.le_succ n), (HDN.out _).rm, HD.out.rel, by have := HD.out.len; omega⟩
end
end Go.Proofs.Ytfcdplfnhjbdnaa
