/- A store of a law's own: what its calls keep. -/
import Derived.Test.YtfcdplfnhjbdnaaKy
namespace Go.Proofs.Ytfcdplfnhjbdnaa
open Go.RowKit Go.Maps
set_option linter.unusedVariables false

structure KS (w0 : World) (n cb : Nat) (s : CS) (w : World) : Prop where
  cm : ∃ mb D V, CM w w0.heap.size cb mb n D V s
  below : Below w0.heap.size w0 w
  good : Good s
  len : ∀ k, (s.f k).length ≤ n
def KpT (w w' : World) : Prop := ∀ g t cs, t ≠ 63 → t ≠ 66 → Blk w g t cs → Blk w' g t cs
theorem KpT.refl (w : World) : KpT w w := fun _ _ _ _ _ h => h
theorem KpT.trans {w w' w'' : World} (h : KpT w w') (h' : KpT w' w'') : KpT w w'' := fun g t cs h1 h2 hb => h' g t cs h1 h2 (h g t cs h1 h2 hb)
theorem KpT.new_ {w w' : World} (h : NewW w w') : KpT w w' := fun g t cs _ _ hb => hb.ch h (fun h => h)
theorem putS_len {s : CS} {n : Nat} (h : ∀ k, (s.f k).length ≤ n) (key val : ByteArray) (has : Bool) (m : Int) : ∀ k, ((putS s key val has m).f k).length ≤ n + 1 := by
  intro k
  unfold putS
  split
  · show (updF _ _ _ k).length ≤ _
    unfold updF
    split
    · have := cutAt_len (s.f key.data.toList) m
      have := h key.data.toList
      simp; omega
    · have := h k; omega
  · have := h k; omega
section
variable {w0 w w' : World} {n cb : Nat} {s : CS}
theorem KS.size (h : KS w0 n cb s w) : w0.heap.size ≤ w.heap.size := h.below.size
theorem KS.new_ (h : KS w0 n cb s w) (hc : NewW w w') : KS w0 n cb s w' := by
  obtain ⟨mb, D, V, hm⟩ := h.cm
  exact ⟨⟨mb, D, V, hm.new_ hc⟩, Ch.below h.below hc (fun _ h => h.elim) h.below.size, h.good, h.len⟩
theorem KS.mono (h : KS w0 n cb s w) {n' : Nat} (hn : n ≤ n') : KS w0 n' cb s w := by
  obtain ⟨mb, D, V, hm⟩ := h.cm
  exact ⟨⟨mb, D, V, hm.mono hn⟩, h.below, h.good, fun k => Nat.le_trans (h.len k) hn⟩
theorem KS.wrote {mb n' : Nat} {D : DataW Value} {V : List UInt8 → Value} {s' : CS} (h : KS w0 n cb s w) (hm : CM w w0.heap.size cb mb n D V s) (hp : CP w0.heap.size cb mb n' V s' w w') (hg : Good s') (hl : ∀ k, (s'.f k).length ≤ n') : KS w0 n' cb s' w' ∧ KpT w w' := by
  obtain ⟨D', V', h1, h2, _⟩ := hp
  exact ⟨⟨⟨mb, D', V', h1⟩, Ch.below h.below h2 (fun g hg => (hm.low hg).1) h.below.size, hg, hl⟩, fun g t cs h1 h3 hb => hb.ch h2 (hm.far hb h1 h3)⟩
theorem ks_new (w0 w : World) (hb : Below w0.heap.size w0 w) : Calls Try.prog 9 #[] w fun e w' => e = .returned (.pointer (some ⟨w.heap.size + 1, 0, none⟩)) ∧ KS w0 0 (w.heap.size + 1) emptyS w' ∧ NewW w w' :=
  (new_any w).mono fun _ _ ⟨h1, h2⟩ => by
    have hc : NewW w ((w.alloc (.map #[] 0)).alloc (.cells #[.map (some w.heap.size), .int .i64 0, .int .i64 0] 63)) := ((Ch.refl _ w).alloc _).alloc _
    subst h2
    exact ⟨h1, ⟨⟨_, _, _, cm_new w _ hb.size⟩, Ch.below hb hc (fun _ h => h.elim) hb.size, good_empty, fun k => by simp [emptyS]⟩, hc⟩
theorem ks_put (h : KS w0 n cb s w) (hn : n ≤ 900000) (key val : ByteArray) (has : Bool) (m : Int) :
    Calls Try.prog 21 #[.pointer (some ⟨cb, 0, none⟩), .string key, .string val, .bool has, .int .i64 m] w fun e w' => e = .returned (.int .i64 (putE s key val m)) ∧ KS w0 (n + 1) cb (putS s key val has m) w' ∧ KpT w w' := by
  obtain ⟨mb, D, V, hm⟩ := h.cm
  exact (put_any hm h.size (by omega) key val has m (by have := h.len key.data.toList; omega)).mono fun _ _ ⟨h1, h2⟩ => ⟨h1, h.wrote hm h2 (good_put h.good key val has m) (putS_len h.len key val has m)⟩
theorem ks_last (h : KS w0 n cb s w) : Calls Try.prog 11 #[.pointer (some ⟨cb, 0, none⟩)] w fun e w' => e = .returned (.int .i64 s.last) ∧ w = w' := by
  obtain ⟨mb, D, V, hm⟩ := h.cm
  exact last_any hm
theorem ks_floor (h : KS w0 n cb s w) : Calls Try.prog 12 #[.pointer (some ⟨cb, 0, none⟩)] w fun e w' => e = .returned (.int .i64 s.floor) ∧ w = w' := by
  obtain ⟨mb, D, V, hm⟩ := h.cm
  exact floor_any hm
theorem ks_get (h : KS w0 n cb s w) (hn : n ≤ 900000) {key : ByteArray} (hk : key.size ≤ maxLen) :
    Calls Try.prog 18 #[.pointer (some ⟨cb, 0, none⟩), .string key] w fun e w' => e = .returned (.tuple #[.string (valOf (s.f key.data.toList) maxClock).1, .bool (valOf (s.f key.data.toList) maxClock).2]) ∧ KS w0 n cb s w' ∧ NewW w w' := by
  obtain ⟨mb, D, V, hm⟩ := h.cm
  exact (get_any hm h.good hk (by have := h.len key.data.toList; omega)).mono fun _ _ ⟨h1, h2⟩ => ⟨h1, h.new_ h2, h2⟩
theorem ks_at (h : KS w0 n cb s w) (hn : n ≤ 900000) {key : ByteArray} (hk : key.size ≤ maxLen) (m : Int) :
    Calls Try.prog 16 #[.pointer (some ⟨cb, 0, none⟩), .string key, .int .i64 m] w fun e w' => e = .returned (.tuple #[.string (atV s key.data.toList m).1, .bool (atV s key.data.toList m).2, .int .i64 (atE s m)]) ∧ KS w0 n cb s w' ∧ NewW w w' := by
  obtain ⟨mb, D, V, hm⟩ := h.cm
  exact (at_any hm h.good hk (by have := h.len key.data.toList; omega) m).mono fun _ _ ⟨h1, h2⟩ => ⟨h1, h.new_ h2, h2⟩
theorem ks_trim_bad (h : KS w0 n cb s w) (m : Int) (hne : trimE s m ≠ 0) :
    Calls Try.prog 22 #[.pointer (some ⟨cb, 0, none⟩), .int .i64 m] w fun e w' => e = .returned (.tuple #[.int .i64 0, .int .i64 (trimE s m)]) ∧ w = w' := by
  obtain ⟨mb, D, V, hm⟩ := h.cm
  exact trim_bad hm m hne
theorem ks_trim (h : KS w0 n cb s w) (hn : n ≤ 900000) (m : Int) (h0 : trimE s m = 0) :
    Calls Try.prog 22 #[.pointer (some ⟨cb, 0, none⟩), .int .i64 m] w fun e w' => ∃ ks, KeysIn s ks ∧ e = .returned (.tuple #[.int .i64 (trimN s m ks : Nat), .int .i64 0]) ∧ KS w0 n cb (trimS s m) w' ∧ KpT w w' := by
  obtain ⟨mb, D, V, hm⟩ := h.cm
  have hm0 : 0 ≤ m ∧ m ≤ maxClock := by
    unfold trimE at h0
    split at h0
    · omega
    · omega
  exact (trim_ok hm h.size (by omega) h.good (fun k => by have := h.len k; omega) m h0).mono fun _ _ ⟨ks, h1, h2, h3⟩ => ⟨ks, h1, h2, h.wrote hm h3 (good_trim h.good hm0.1 hm0.2) (fun k => by
    show ((s.f k).drop _).length ≤ n
    have := h.len k
    rw [List.length_drop]; omega)⟩
theorem ks_keys (h : KS w0 n cb s w) (hn : n ≤ 900000) (m : Int) :
    Calls Try.prog 19 #[.pointer (some ⟨cb, 0, none⟩), .int .i64 m] w fun e w' => ∃ (A : Option Addr) (c : Nat) (ks : List (List UInt8)), KeysIn s ks ∧ e = .returned (.slice A (keysAt s m ks).length c) ∧
      w'.ownsRow w.heap.size 9 1 (.slice A (keysAt s m ks).length c) (keysAt s m ks).length ((keysAt s m ks).map encStr) ∧ KS w0 n cb s w' ∧ NewW w w' := by
  obtain ⟨mb, D, V, hm⟩ := h.cm
  exact (keys_any hm (by omega) h.good (fun k => by have := h.len k; omega) m).mono fun _ _ ⟨A, c, ks, h1, h2, h3, _, h4⟩ => ⟨A, c, ks, h1, h2, h3, h.new_ h4, h4⟩
theorem ks_versions (h : KS w0 n cb s w) (hn : n ≤ 900000) {key : ByteArray} (hk : key.size ≤ maxLen) :
    Calls Try.prog 24 #[.pointer (some ⟨cb, 0, none⟩), .string key] w fun e w' => ∃ A c, e = .returned (.slice A (s.f key.data.toList).length c) ∧ w'.ownsRow w.heap.size 66 3 (.slice A (s.f key.data.toList).length c) (s.f key.data.toList).length (flatV (s.f key.data.toList)) ∧ KS w0 n cb s w' ∧ NewW w w' := by
  obtain ⟨mb, D, V, hm⟩ := h.cm
  exact (versions_any hm hk (by have := h.len key.data.toList; omega)).mono fun _ _ ⟨A, c, h1, h2, h3⟩ => ⟨A, c, h1, h2, h.new_ h3, h3⟩
end
/-! ### No store at all -/
theorem nil_trim (m : Int) (w : World) : Calls Try.prog 22 #[.pointer none, .int .i64 m] w fun e w' => e = .returned (.tuple #[.int .i64 0, .int .i64 1]) ∧ w = w' := by
  go_enter Try.func22, Try.ntmps22
  go_wp2
  go_ret2
  exact ⟨rfl, rfl⟩
theorem nil_put (key val : ByteArray) (has : Bool) (m : Int) (w : World) : Calls Try.prog 21 #[.pointer none, .string key, .string val, .bool has, .int .i64 m] w fun e w' => e = .returned (.int .i64 1) ∧ w = w' := by
  go_enter Try.func21, Try.ntmps21
  go_wp2
  go_ret
  exact ⟨rfl, rfl⟩
theorem nil_all (w : World) : Calls Try.prog 14 #[.pointer none] w fun e w' => e = .returned (.slice none 0 0) ∧ w = w' := by
  go_enter Try.func14, Try.ntmps14
  go_wp2
  go_ret
  exact ⟨rfl, rfl⟩
end Go.Proofs.Ytfcdplfnhjbdnaa
