/- The leader and the plain one in one world: what ReadsPlays keeps. -/
import Derived.Test.YtdbbnkibdibpkabRr
import Derived.Test.YtdbbnkibdibpkabRt
import Derived.Test.YtdbbnkibdibpkabFi
namespace Go.Proofs.Ytdbbnkibdibpkab
open Go.RowKit
set_option linter.unusedVariables false

def KpB (w w' : World) : Prop := ∀ g t cs, (t = 32 ∨ t = 3) → Blk w g t cs → Blk w' g t cs
theorem Keep.kp {w w' : World} (h : Keep w w') : KpB w w' := fun g t cs ht hb => h g t cs (by rcases ht with rfl | rfl <;> decide) (by rcases ht with rfl | rfl <;> decide) hb
theorem own_kp {w w' : World} {B size n : Nat} {v : Value} {xs : List Value} (h : w.ownsRow B 3 size v n xs) (hk : KpB w w') : w'.ownsRow B 3 size v n xs := by
  refine ⟨h.1, ?_⟩
  rcases h.2 with h2 | ⟨g, cap, cur, rfl, hg, hh, r⟩
  · exact .inl h2
  · exact .inr ⟨g, cap, cur, rfl, hg, hk g 3 cur (.inr rfl) hh, r⟩
structure Two (w0 : World) (b pb m : Nat) (s : RS) (W : List Rdg) (ks : List (Int × Int)) (v va vl : Value) (w : World) : Prop where
  kr : Kr w0 b s W v w
  rp : Rp w w0.heap.size pb s ks W va vl
  an : Ans s ks
  r1 : s.rounds ≤ m
  k1 : ks.length ≤ m
section
variable {w0 w w' w2 w3 : World} {b pb m : Nat} {s s' : RS} {W W' : List Rdg} {ks ks' : List (Int × Int)} {v v' va vl va' vl' : Value}
theorem Two.new_ (h : Two w0 b pb m s W ks v va vl w) (hc : NewW w w') : Two w0 b pb m s W ks v va vl w' := ⟨(h.kr.new_ hc).1, h.rp.new_ hc, h.an, h.r1, h.k1⟩
theorem Two.drew (h : Two w0 b pb m s W ks v va vl w) : Two w0 b pb m s W ks v va vl w.drew := h.new_ ((Ch.refl _ _).drew)
theorem lift_r (hk : Kr w0 b s' W' v w2) (hr : Rp w2 w0.heap.size pb s ks W va vl) (hc : Ch (PFoot pb va vl) w2 w3) : Kr w0 b s' W' v w3 ∧ KpB w2 w3 := by
  refine ⟨hk.far hc (hr.far hk.rd.blk (by decide) (by decide) (by decide)) (fun k hv => ?_) (fun k e => (hr.low e).1), fun g t cs ht hb => hb.ch hc (hr.far hb (by rcases ht with rfl | rfl <;> decide) (by rcases ht with rfl | rfl <;> decide) (by rcases ht with rfl | rfl <;> decide))⟩
  rcases hk.rd.own.2 with ⟨h1, _⟩ | ⟨g, cap, cur, h1, _, hh, _⟩
  · rw [h1] at hv; simp [Value.ownBlock] at hv
  · rw [h1] at hv
    simp [Value.ownBlock] at hv
    subst hv
    exact hr.far hh (by decide) (by decide) (by decide)
theorem lay_p {f : FuncId} {args : Array Value} {E : Ending} (hr : Rp w w0.heap.size pb s ks W va vl) (hc : Calls Try.prog f args w fun e w' => e = E ∧ ∃ v', Kr w0 b s' W' v' w' ∧ Keep w w') :
    Calls Try.prog f args w fun e w' => e = E ∧ ∃ v', Kr w0 b s' W' v' w' ∧ Rp w' w0.heap.size pb s ks W va vl ∧ KpB w w' :=
  hc.mono fun e w' ⟨h1, v', h2, h3⟩ => ⟨h1, v', h2, hr.keep h3, h3.kp⟩
theorem lay_r {f : FuncId} {args : Array Value} {E : Ending} (hk : Kr w0 b s' W' v w) (hr : Rp w w0.heap.size pb s ks W va vl) (ha : Ans s' ks') (h1 : s'.rounds ≤ m) (h2 : ks'.length ≤ m)
    (hc : Calls Try.prog f args w fun e w' => e = E ∧ PP w0.heap.size pb s' ks' W' va vl w w') :
    Calls Try.prog f args w fun e w' => e = E ∧ ∃ va' vl', Two w0 b pb m s' W' ks' v va' vl' w' ∧ KpB w w' :=
  hc.mono fun e w' ⟨h3, va', vl', h4, h5⟩ => by
    obtain ⟨q1, q2⟩ := lift_r hk hr h5
    exact ⟨h3, va', vl', ⟨q1, h4, ha, h1, h2⟩, q2⟩
theorem rounds_commit (s : RS) (x : Int) : (commitS s x).rounds = s.rounds := by unfold commitS; split; rfl; split <;> rfl
theorem rounds_apply (s : RS) (x : Int) : (applyS s x).rounds = s.rounds := by unfold applyS; split; rfl; split <;> rfl
theorem ackK_len (s : RS) (ks : List (Int × Int)) (x y : Int) : (ackK s ks x y).length ≤ ks.length + 1 := by unfold ackK; split <;> simp
theorem two_commit_p (h : Two w0 b pb m s W ks v va vl w) (x : Int) :
    Calls Try.prog 8 #[.pointer (some ⟨b, 0, none⟩), .int .i64 x] w fun e w' => e = .returned (.int .i64 (commitE s x)) ∧ ∃ v', Kr w0 b (commitS s x) (W) v' w' ∧ Rp w' w0.heap.size pb s ks W va vl ∧ KpB w w' := lay_p h.rp ((k_commit h.kr x).mono fun _ _ ⟨h1, h2, h3⟩ => ⟨h1, v, h2, h3⟩)
theorem two_commit_r (h : Two w0 b pb m s W ks v va vl w) (x : Int) (hk : Kr w0 b (commitS s x) W v' w2) (hr : Rp w2 w0.heap.size pb s ks W va vl) :
    Calls Try.prog 9 #[.pointer (some ⟨pb, 0, none⟩), .int .i64 x] w2 fun e w' => e = .returned (.int .i64 (commitE s x)) ∧ ∃ va' vl', Two w0 b pb (m + 1) (commitS s x) (W) (ks) v' va' vl' w' ∧ KpB w2 w' := lay_r (m := m + 1) hk hr (ans_commit h.an x) (by rw [rounds_commit]; have := h.r1; omega) (by have := h.k1; omega) (r_commit _ _ _ _ _ _ _ _ hr x)
theorem two_apply_p (h : Two w0 b pb m s W ks v va vl w) (x : Int) :
    Calls Try.prog 10 #[.pointer (some ⟨b, 0, none⟩), .int .i64 x] w fun e w' => e = .returned (.int .i64 (applyE s x)) ∧ ∃ v', Kr w0 b (applyS s x) (W) v' w' ∧ Rp w' w0.heap.size pb s ks W va vl ∧ KpB w w' := lay_p h.rp ((k_apply h.kr x).mono fun _ _ ⟨h1, h2, h3⟩ => ⟨h1, v, h2, h3⟩)
theorem two_apply_r (h : Two w0 b pb m s W ks v va vl w) (x : Int) (hk : Kr w0 b (applyS s x) W v' w2) (hr : Rp w2 w0.heap.size pb s ks W va vl) :
    Calls Try.prog 11 #[.pointer (some ⟨pb, 0, none⟩), .int .i64 x] w2 fun e w' => e = .returned (.int .i64 (applyE s x)) ∧ ∃ va' vl', Two w0 b pb (m + 1) (applyS s x) (W) (ks) v' va' vl' w' ∧ KpB w2 w' := lay_r (m := m + 1) hk hr (ans_apply h.an x) (by rw [rounds_apply]; have := h.r1; omega) (by have := h.k1; omega) (r_apply _ _ _ _ _ _ _ _ hr x)
theorem two_ask_p (h : Two w0 b pb m s W ks v va vl w) (x : Int) :
    Calls Try.prog 12 #[.pointer (some ⟨b, 0, none⟩), .int .i64 x] w fun e w' => e = .returned (.int .i64 (askE W x)) ∧ ∃ v', Kr w0 b (s) (askW s W x) v' w' ∧ Rp w' w0.heap.size pb s ks W va vl ∧ KpB w w' := lay_p h.rp (k_ask h.kr x)
theorem two_ask_r (h : Two w0 b pb m s W ks v va vl w) (x : Int) (hk : Kr w0 b s (askW s W x) v' w2) (hr : Rp w2 w0.heap.size pb s ks W va vl) :
    Calls Try.prog 13 #[.pointer (some ⟨pb, 0, none⟩), .int .i64 x] w2 fun e w' => e = .returned (.int .i64 (askE W x)) ∧ ∃ va' vl', Two w0 b pb (m + 1) (s) (askW s W x) (ks) v' va' vl' w' ∧ KpB w2 w' := lay_r (m := m + 1) hk hr h.an (by have := h.r1; omega) (by have := h.k1; omega) (r_ask _ _ _ _ _ _ _ _ hr hk.size h.kr.rd.len x)
theorem two_ack_p (h : Two w0 b pb m s W ks v va vl w) (x y : Int) :
    Calls Try.prog 15 #[.pointer (some ⟨b, 0, none⟩), .int .i64 x, .int .i64 y] w fun e w' => e = .returned (.int .i64 (ackE s x y)) ∧ ∃ v', Kr w0 b (ackSS s x y) (W) v' w' ∧ Rp w' w0.heap.size pb s ks W va vl ∧ KpB w w' := lay_p h.rp ((k_ack h.kr x y).mono fun _ _ ⟨h1, h2, h3⟩ => ⟨h1, v, h2, h3⟩)
theorem PP.like {B pb : Nat} {s s' : RS} (h1 : s'.n = s.n ∧ s'.self = s.self ∧ s'.rounds = s.rounds ∧ s'.commit = s.commit ∧ s'.applied = s.applied) (h : PP B pb s ks W va vl w w') : PP B pb s' ks W va vl w w' := by
  obtain ⟨va', vl', p, q⟩ := h
  obtain ⟨a1, a2, a3, a4, a5⟩ := h1
  refine ⟨va', vl', ⟨?_, p.acks, p.row, p.bB⟩, q⟩
  have := p.blk
  rwa [show pcells s va' vl' = pcells s' va' vl' by simp [pcells, a1, a2, a3, a4, a5]] at this
theorem two_ack_r (h : Two w0 b pb m s W ks v va vl w) (hm : m ≤ 900) (x y : Int) (hk : Kr w0 b (ackSS s x y) W v' w2) (hr : Rp w2 w0.heap.size pb s ks W va vl) :
    Calls Try.prog 16 #[.pointer (some ⟨pb, 0, none⟩), .int .i64 x, .int .i64 y] w2 fun e w' => e = .returned (.int .i64 (ackE s x y)) ∧ ∃ va' vl', Two w0 b pb (m + 1) (ackSS s x y) (W) (ackK s ks x y) v' va' vl' w' ∧ KpB w2 w' := lay_r (m := m + 1) hk hr (ans_ack h.an x y) (by rw [(ackSS_is s x y).2.2.1]; have := h.r1; omega) (by have := h.k1; have := ackK_len s ks x y; omega)
  ((r_ack _ _ _ _ _ _ _ _ hr hk.size h.an.me (by have := h.k1; omega) x y).mono fun _ _ ⟨h1, h2⟩ => ⟨h1, h2.like (ackSS_is s x y)⟩)
theorem two_sure_p (h : Two w0 b pb m s W ks v va vl w) : Calls Try.prog 21 #[.pointer (some ⟨b, 0, none⟩)] w fun e w' => e = .returned (.int .i64 (sureOf s)) ∧ Two w0 b pb m s W ks v va vl w' :=
  (sure_any _ b s W v w h.kr.rd).mono fun _ _ ⟨h1, h2⟩ => ⟨h1, h.new_ h2⟩
theorem two_sure_r (h : Two w0 b pb m s W ks v va vl w) (hm : m ≤ 900) : Calls Try.prog 22 #[.pointer (some ⟨pb, 0, none⟩)] w fun e w' => e = .returned (.int .i64 (sureOf s)) ∧ Two w0 b pb m s W ks v va vl w' :=
  (r_sure _ pb s ks W va vl w h.rp h.an (by have := h.k1; omega) (by have := h.r1; omega)).mono fun _ _ ⟨h1, h2⟩ => ⟨h1, h.new_ h2⟩
theorem two_wait (h : Two w0 b pb m s W ks v va vl w) : Calls Try.prog 23 #[.pointer (some ⟨b, 0, none⟩)] w fun e w' => e = .returned (.int .i64 (W.length : Nat)) ∧ w = w' := k_waiting h.kr
theorem two_ready_p (h : Two w0 b pb m s W ks v va vl w) : Calls Try.prog 18 #[.pointer (some ⟨b, 0, none⟩)] w fun e w' => ∃ A c v', e = .returned (.slice A (readyK s W) c) ∧ w'.ownsRow w.heap.size 3 1 (.slice A (readyK s W) c) (readyK s W) (ids (W.take (readyK s W))) ∧ Kr w0 b s (W.drop (readyK s W)) v' w' ∧ Rp w' w0.heap.size pb s ks W va vl :=
  (k_ready h.kr).mono fun _ _ ⟨A, c, v', h1, h2, h3, h4⟩ => ⟨A, c, v', h1, h2, h3, h.rp.keep h4⟩
theorem two_ready_r (h : Two w0 b pb m s W ks v va vl w) (hm : m ≤ 900) (hk : Kr w0 b s W' v' w2) (hr : Rp w2 w0.heap.size pb s ks W va vl) {B1 n1 : Nat} {v1 : Value} {xs : List Value} (ho : w2.ownsRow B1 3 1 v1 n1 xs) :
    Calls Try.prog 19 #[.pointer (some ⟨pb, 0, none⟩)] w2 fun e w' => ∃ A c vl', e = .returned (.slice A (readyK s W) c) ∧ w'.ownsRow w2.heap.size 3 1 (.slice A (readyK s W) c) (readyK s W) (ids (W.take (readyK s W))) ∧ w'.ownsRow B1 3 1 v1 n1 xs ∧
      Kr w0 b s W' v' w' ∧ Rp w' w0.heap.size pb s ks (W.drop (readyK s W)) va vl' :=
  (r_ready _ pb s ks W va vl w2 hr h.an (by have := h.k1; omega) (by have := h.r1; omega) h.kr.rd.len).mono fun _ _ ⟨A, c, vl', h1, h2, h3, h4⟩ =>
    ⟨A, c, vl', h1, h2, own_ch ho h4 (hr.own_far ho), (lift_r hk hr h4).1, h3⟩
theorem two_same {B1 B2 n c1 c2 : Nat} {A1 A2 : Option Addr} {L : List Rdg} (hk : Kr w0 b s W v w) (hr : Rp w w0.heap.size pb s ks W va vl) (ha : Ans s ks) (hr1 : s.rounds ≤ m) (hk1 : ks.length ≤ m) (h1 : w.ownsRow B1 3 1 (.slice A1 n c1) n (ids L)) (h2 : w.ownsRow B2 3 1 (.slice A2 n c2) n (ids L)) (hn : n ≤ 64) :
    Calls Try.prog 17 #[.slice A1 n c1, .slice A2 n c2] w fun e w' => e = .returned (.bool true) ∧ Two w0 b pb m s W ks v va vl w' :=
  (r_same B1 B2 L A1 A2 n c1 c2 w h1 h2 hn).mono fun _ _ ⟨q1, q2⟩ => ⟨q1, Two.new_ ⟨hk, hr, ha, hr1, hk1⟩ q2⟩
/-- The plain one's round is counted. -/
theorem Two.beat0 (h : Two w0 b pb m s W ks v va vl w) : Kr w0 b s W v (w.setCell ⟨pb, 2, none⟩ (.int .i64 (s.rounds + 1))) ∧ Rp (w.setCell ⟨pb, 2, none⟩ (.int .i64 (s.rounds + 1))) w0.heap.size pb (beatS s) ks W va vl := by
  have hc : Ch (fun k => k = pb) w (w.setCell ⟨pb, 2, none⟩ (.int .i64 (s.rounds + 1))) := (Ch.refl (fun k => k = pb) w).setCell (p := ⟨pb, 2, none⟩) (.inl rfl) _
  refine ⟨(lift_r h.kr h.rp (hc.mono fun k hk => .inl hk)).1, ⟨?_, h.rp.acks.ch hc (fun k hk e => h.rp.acks.blk_ne h.rp.blk (by decide) (e ▸ hk)), h.rp.row.ch hc (fun k hk e => h.rp.row.blk_ne h.rp.blk (by decide) (e ▸ hk)), h.rp.bB⟩⟩
  have := h.rp.blk.set_ 2 (.int .i64 (s.rounds + 1))
  rwa [show (pcells s va vl).setIfInBounds 2 (.int .i64 (s.rounds + 1)) = pcells (beatS s) va vl by simp [pcells, beatS]] at this
theorem two_beat_p (hk : Kr w0 b s W v w) (hr : Rp w w0.heap.size pb (beatS s) ks W va vl) (ha : Ans s ks) (r1 : s.rounds ≤ m) (k1 : ks.length ≤ m) (hm : m ≤ 900) :
    Calls Try.prog 14 #[.pointer (some ⟨b, 0, none⟩)] w fun e w' => e = .returned (.int .i64 (s.rounds + 1)) ∧ Two w0 b pb (m + 1) (beatS s) W ks v va vl w' :=
  (k_beat hk ha.r0 (by omega)).mono fun _ _ ⟨h1, h2, h3⟩ => ⟨h1, h2, hr.keep h3, ans_beat ha, by show s.rounds + 1 ≤ _; omega, by omega⟩
/-- The plain one's row is dropped. -/
theorem Two.nil0 (h : Two w0 b pb m s W ks v va vl w) {B1 n1 : Nat} {v1 : Value} {xs : List Value} (ho : w.ownsRow B1 3 1 v1 n1 xs) :
    Kr w0 b s W v (w.setCell ⟨pb, 6, none⟩ (.slice none 0 0)) ∧ Rp (w.setCell ⟨pb, 6, none⟩ (.slice none 0 0)) w0.heap.size pb s ks [] va (.slice none 0 0) ∧ (w.setCell ⟨pb, 6, none⟩ (.slice none 0 0)).ownsRow B1 3 1 v1 n1 xs := by
  have hc : Ch (fun k => k = pb) w (w.setCell ⟨pb, 6, none⟩ (.slice none 0 0)) := (Ch.refl (fun k => k = pb) w).setCell (p := ⟨pb, 6, none⟩) (.inl rfl) _
  have hc2 : Ch (PFoot pb va vl) w _ := hc.mono fun k hk => .inl hk
  refine ⟨(lift_r h.kr h.rp hc2).1, ⟨?_, h.rp.acks.ch hc (fun k hk e => h.rp.acks.blk_ne h.rp.blk (by decide) (e ▸ hk)), rowAt.nil _ _ _ _, h.rp.bB⟩, own_ch ho hc2 (h.rp.own_far ho)⟩
  have := h.rp.blk.set_ 6 (.slice none 0 0)
  rwa [show (pcells s va vl).setIfInBounds 6 (.slice none 0 0) = pcells s va (.slice none 0 0) by simp [pcells]] at this
theorem two_drop_p (hk : Kr w0 b s W v w) (hr : Rp w w0.heap.size pb s ks [] va vl) {B1 n1 : Nat} {v1 : Value} {xs : List Value} (ho : w.ownsRow B1 3 1 v1 n1 xs) :
    Calls Try.prog 20 #[.pointer (some ⟨b, 0, none⟩)] w fun e w' => ∃ A c v', e = .returned (.slice A W.length c) ∧ w'.ownsRow w.heap.size 3 1 (.slice A W.length c) W.length (ids W) ∧ w'.ownsRow B1 3 1 v1 n1 xs ∧ Kr w0 b s [] v' w' ∧ Rp w' w0.heap.size pb s ks [] va vl :=
  (k_drop hk).mono fun _ _ ⟨A, c, v', h1, h2, h3, h4⟩ => ⟨A, c, v', h1, h2, own_keep ho h4, h3, hr.keep h4⟩
end
/-- The plain one at the start. -/
theorem rp_new (w : World) (B : Nat) (hB : B ≤ w.heap.size) (me n : Nat) : Rp (w.alloc (.cells (pcells (fresh me n) (.slice none 0 0) (.slice none 0 0)) 30)) B w.heap.size (fresh me n) [] [] (.slice none 0 0) (.slice none 0 0) :=
  ⟨Blk.new _ _ _, rowAt.nil _ _ _ _, rowAt.nil _ _ _ _, hB⟩
theorem two_new {w0 w : World} {b me n : Nat} (hk : Kr w0 b (fresh me n) [] (.slice none 0 0) w) (h1 : 1 ≤ n) (h7 : n ≤ 7) (hm : me < n) :
    Two w0 b w.heap.size 0 (fresh me n) [] [] (.slice none 0 0) (.slice none 0 0) (.slice none 0 0) (w.alloc (.cells (pcells (fresh me n) (.slice none 0 0) (.slice none 0 0)) 30)) :=
  ⟨(hk.new_ ((Ch.refl _ _).alloc _)).1, rp_new w _ hk.size me n, ans_new me n h1 h7 hm, Int.le_refl 0, Nat.le_refl 0⟩
end Go.Proofs.Ytdbbnkibdibpkab
