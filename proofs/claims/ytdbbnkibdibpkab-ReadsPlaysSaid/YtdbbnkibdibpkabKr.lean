/- What a law keeps of a leader's readings of its own. -/
import Derived.Test.YtdbbnkibdibpkabAsk
namespace Go.Proofs.Ytdbbnkibdibpkab
open Go.RowKit
set_option linter.unusedVariables false

def Keep (w w' : World) : Prop := ∀ g t cs, t ≠ 50 → t ≠ 53 → Blk w g t cs → Blk w' g t cs
theorem Keep.refl (w : World) : Keep w w := fun _ _ _ _ _ h => h
theorem Keep.trans {w w' w'' : World} (h : Keep w w') (h' : Keep w' w'') : Keep w w'' := fun g t cs h1 h2 hb => h' g t cs h1 h2 (h g t cs h1 h2 hb)
theorem own_keep {w w' : World} {B : Nat} {size n : Nat} {v : Value} {xs : List Value} (h : w.ownsRow B 3 size v n xs) (hk : Keep w w') : w'.ownsRow B 3 size v n xs := by
  refine ⟨h.1, ?_⟩
  rcases h.2 with h2 | ⟨g, cap, cur, rfl, hg, hh, r⟩
  · exact .inl h2
  · exact .inr ⟨g, cap, cur, rfl, hg, hk g 3 cur (by decide) (by decide) hh, r⟩
structure Kr (w0 : World) (b : Nat) (s : RS) (W : List Rdg) (v : Value) (w : World) : Prop where
  rd : Rd w w0.heap.size b s W v
  below : Below w0.heap.size w0 w
section
variable {w0 w w' : World} {b : Nat} {s s' : RS} {W W' : List Rdg} {v v' : Value}
theorem Kr.size (h : Kr w0 b s W v w) : w0.heap.size ≤ w.heap.size := h.below.size
theorem Kr.only (h : Kr w0 b s W v w) (hp : RP w0.heap.size b s' W v w w') : Kr w0 b s' W v w' ∧ Keep w w' :=
  ⟨⟨hp.1, Ch.below h.below hp.2 (fun k hk => by subst hk; exact h.rd.bB) h.below.size⟩, fun g t cs h1 _ hb => hb.ch hp.2 (Blk.ne_ hb h.rd.blk h1)⟩
theorem Kr.new_ (h : Kr w0 b s W v w) (hc : NewW w w') : Kr w0 b s W v w' ∧ Keep w w' :=
  ⟨⟨h.rd.ch hc (fun h => h) (fun _ _ h => h), Ch.below h.below hc (fun _ h => h.elim) h.below.size⟩, fun g t cs _ _ hb => hb.ch hc (fun h => h)⟩
theorem Kr.took {k : Nat} {e : Ending} (h : Kr w0 b s W v w) (hp : Took w0.heap.size b s W k w e w') :
    ∃ vo v', e = .returned vo ∧ w'.ownsRow w.heap.size 3 1 vo k (ids (W.take k)) ∧ Kr w0 b s (W.drop k) v' w' ∧ Keep w w' := by
  obtain ⟨vo, v', h1, h2, h3, h4⟩ := hp
  exact ⟨vo, v', h1, h2, ⟨h3, Ch.below h.below h4 (fun k hk => by subst hk; exact h.rd.bB) h.below.size⟩, fun g t cs h1 _ hb => hb.ch h4 (Blk.ne_ hb h.rd.blk h1)⟩
theorem Kr.asked (h : Kr w0 b s W v w) (hp : AP w0.heap.size b s W' v w w') : ∃ v', Kr w0 b s W' v' w' ∧ Keep w w' := by
  obtain ⟨v', h1, h2⟩ := hp
  refine ⟨v', ⟨h1, Ch.below h.below h2 ?_ h.below.size⟩, fun g t cs h3 h4 hb => hb.ch h2 ?_⟩
  · rintro k (e | e)
    · subst e; exact h.rd.bB
    · exact (h.rd.own.lt k e).1
  · rintro (e | e)
    · exact Blk.ne_ hb h.rd.blk h3 e
    · exact own_blk_ne h.rd.own hb (fun e => h4 e.symm) e

/-! ### The calls, for a law -/
theorem k_new (w1 : World) (hb : Below w0.heap.size w0 w1) (me n : Nat) (h1 : 1 ≤ n) (h7 : n ≤ 7) (hm : me < n) :
    Calls Try.prog 7 #[.int .i64 me, .int .i64 n] w1 fun e w' => e = .returned (.pointer (some ⟨w1.heap.size, 0, none⟩)) ∧ Kr w0 w1.heap.size (fresh me n) [] (.slice none 0 0) w' ∧ NewW w1 w' :=
  (new_in me n h1 h7 hm w1).mono fun _ _ ⟨h, hw⟩ => by
    subst hw
    exact ⟨h, ⟨rd_new w1 _ hb.size me n h1 h7 hm, Ch.below hb ((Ch.refl (fun _ => False) w1).alloc _) (fun _ h => h.elim) hb.size⟩, (Ch.refl _ _).alloc _⟩
theorem k_commit (h : Kr w0 b s W v w) (x : Int) : Calls Try.prog 8 #[.pointer (some ⟨b, 0, none⟩), .int .i64 x] w fun e w' => e = .returned (.int .i64 (commitE s x)) ∧ Kr w0 b (commitS s x) W v w' ∧ Keep w w' :=
  (commit_any _ b s W v w h.rd x).mono fun _ _ ⟨h1, h2⟩ => ⟨h1, h.only h2⟩
theorem k_apply (h : Kr w0 b s W v w) (x : Int) : Calls Try.prog 10 #[.pointer (some ⟨b, 0, none⟩), .int .i64 x] w fun e w' => e = .returned (.int .i64 (applyE s x)) ∧ Kr w0 b (applyS s x) W v w' ∧ Keep w w' :=
  (apply_any _ b s W v w h.rd x).mono fun _ _ ⟨h1, h2⟩ => ⟨h1, h.only h2⟩
theorem k_beat (h : Kr w0 b s W v w) (h0 : 0 ≤ s.rounds) (h1 : s.rounds ≤ 1000) : Calls Try.prog 14 #[.pointer (some ⟨b, 0, none⟩)] w fun e w' => e = .returned (.int .i64 (s.rounds + 1)) ∧ Kr w0 b (beatS s) W v w' ∧ Keep w w' :=
  (beat_any _ b s W v w h.rd h0 h1).mono fun _ _ ⟨h1, h2⟩ => ⟨h1, h.only h2⟩
def ackSS (s : RS) (node round : Int) : RS := if ackE s node round = 0 then ackS s node.toNat round else s
theorem k_ack (h : Kr w0 b s W v w) (node round : Int) : Calls Try.prog 15 #[.pointer (some ⟨b, 0, none⟩), .int .i64 node, .int .i64 round] w fun e w' => e = .returned (.int .i64 (ackE s node round)) ∧ Kr w0 b (ackSS s node round) W v w' ∧ Keep w w' := by
  by_cases h1 : node < 0 ∨ (s.n : Int) ≤ node ∨ node = s.self
  · have e1 : ackE s node round = 1 := by unfold ackE; rw [if_pos h1]
    have e2 : ackSS s node round = s := by unfold ackSS; rw [e1]; rfl
    rw [e1, e2]
    exact (ack_bad _ b s W v w h.rd node round h1).mono fun _ _ ⟨h2, h3⟩ => ⟨h2, by subst h3; exact ⟨h, Keep.refl _⟩⟩
  · obtain ⟨k, rfl⟩ : ∃ k : Nat, node = k := ⟨node.toNat, by omega⟩
    by_cases h2 : round < 1 ∨ s.rounds < round
    · have e1 : ackE s k round = 5 := by unfold ackE; rw [if_neg h1, if_pos h2]
      have e2 : ackSS s k round = s := by unfold ackSS; rw [e1]; rfl
      rw [e1, e2]
      exact (ack_range _ b s W v w h.rd k (by omega) (by omega) round h2).mono fun _ _ ⟨h2, h3⟩ => ⟨h2, by subst h3; exact ⟨h, Keep.refl _⟩⟩
    · have e1 : ackE s k round = 0 := by unfold ackE; rw [if_neg h1, if_neg h2]
      have e2 : ackSS s k round = ackS s k round := by unfold ackSS; rw [e1]; simp
      rw [e1, e2]
      exact (ack_ok _ b s W v w h.rd k (by omega) (by omega) round (by omega) (by omega)).mono fun _ _ ⟨h2, h3⟩ => ⟨h2, h.only h3⟩
theorem k_sure (h : Kr w0 b s W v w) : Calls Try.prog 21 #[.pointer (some ⟨b, 0, none⟩)] w fun e w' => e = .returned (.int .i64 (sureOf s)) ∧ Kr w0 b s W v w' ∧ Keep w w' :=
  (sure_any _ b s W v w h.rd).mono fun _ _ ⟨h1, h2⟩ => ⟨h1, h.new_ h2⟩
theorem k_waiting (h : Kr w0 b s W v w) : Calls Try.prog 23 #[.pointer (some ⟨b, 0, none⟩)] w fun e w' => e = .returned (.int .i64 (W.length : Nat)) ∧ w = w' := waiting_any _ b s W v w h.rd
theorem k_ready (h : Kr w0 b s W v w) : Calls Try.prog 18 #[.pointer (some ⟨b, 0, none⟩)] w fun e w' => ∃ A c v', e = .returned (.slice A (readyK s W) c) ∧ w'.ownsRow w.heap.size 3 1 (.slice A (readyK s W) c) (readyK s W) (ids (W.take (readyK s W))) ∧ Kr w0 b s (W.drop (readyK s W)) v' w' ∧ Keep w w' :=
  (ready_any _ b s W v w h.rd h.size).mono fun _ _ hp => by
    obtain ⟨vo, v', h1, h2, h3, h4⟩ := h.took hp
    obtain ⟨A, c, rfl⟩ := own_form h2
    exact ⟨A, c, v', h1, h2, h3, h4⟩
theorem k_drop (h : Kr w0 b s W v w) : Calls Try.prog 20 #[.pointer (some ⟨b, 0, none⟩)] w fun e w' => ∃ A c v', e = .returned (.slice A W.length c) ∧ w'.ownsRow w.heap.size 3 1 (.slice A W.length c) W.length (ids W) ∧ Kr w0 b s [] v' w' ∧ Keep w w' :=
  (drop_any _ b s W v w h.rd h.size).mono fun _ _ hp => by
    obtain ⟨vo, v', h1, h2, h3, h4⟩ := h.took hp
    obtain ⟨A, c, rfl⟩ := own_form h2
    rw [List.take_length] at h2
    rw [List.drop_length] at h3
    exact ⟨A, c, v', h1, h2, h3, h4⟩
theorem k_ask (h : Kr w0 b s W v w) (id : Int) : Calls Try.prog 12 #[.pointer (some ⟨b, 0, none⟩), .int .i64 id] w fun e w' => e = .returned (.int .i64 (askE W id)) ∧ ∃ v', Kr w0 b s (askW s W id) v' w' ∧ Keep w w' :=
  (ask_any _ b s W v w h.rd h.size id).mono fun _ _ ⟨h1, h2⟩ => ⟨h1, h.asked h2⟩
end
end Go.Proofs.Ytdbbnkibdibpkab
