/- Two stores of a law's own, side by side. -/
import Derived.Test.YtfcdplfnhjbdnaaTp
namespace Go.Proofs.Ytfcdplfnhjbdnaa
open Go.RowKit Go.Maps
set_option linter.unusedVariables false

structure TS (w0 : World) (n ca cb : Nat) (s t : CS) (w : World) : Prop where
  two : ∃ ma Da Va mb Db Vb, CM w w0.heap.size ca ma n Da Va s ∧ CM w w0.heap.size cb mb n Db Vb t ∧ ∀ g, CFoot ca ma Va g → ¬ CFoot cb mb Vb g
  below : Below w0.heap.size w0 w
  gs : Good s
  gt : Good t
  ls : ∀ k, (s.f k).length ≤ n
  lt : ∀ k, (t.f k).length ≤ n
section
variable {w0 w w' : World} {n ca cb : Nat} {s t : CS}
theorem TS.swap (h : TS w0 n ca cb s t w) : TS w0 n cb ca t s w := by
  obtain ⟨ma, Da, Va, mb, Db, Vb, h1, h2, h3⟩ := h.two
  exact ⟨⟨mb, Db, Vb, ma, Da, Va, h2, h1, fun g hb ha => h3 g ha hb⟩, h.below, h.gt, h.gs, h.lt, h.ls⟩
theorem TS.fst (h : TS w0 n ca cb s t w) : KS w0 n ca s w := by
  obtain ⟨ma, Da, Va, mb, Db, Vb, h1, h2, h3⟩ := h.two
  exact ⟨⟨ma, Da, Va, h1⟩, h.below, h.gs, h.ls⟩
theorem TS.snd (h : TS w0 n ca cb s t w) : KS w0 n cb t w := h.swap.fst
theorem TS.new_ (h : TS w0 n ca cb s t w) (hc : NewW w w') : TS w0 n ca cb s t w' := by
  obtain ⟨ma, Da, Va, mb, Db, Vb, h1, h2, h3⟩ := h.two
  exact ⟨⟨ma, Da, Va, mb, Db, Vb, h1.new_ hc, h2.new_ hc, h3⟩, Ch.below h.below hc (fun _ h => h.elim) h.below.size, h.gs, h.gt, h.ls, h.lt⟩
theorem ts_new (h : KS w0 0 ca s w) : Calls Try.prog 9 #[] w fun e w' => e = .returned (.pointer (some ⟨w.heap.size + 1, 0, none⟩)) ∧ TS w0 0 ca (w.heap.size + 1) s emptyS w' ∧ NewW w w' :=
  (new_any w).mono fun _ _ ⟨h1, h2⟩ => by
    have hc : NewW w ((w.alloc (.map #[] 0)).alloc (.cells #[.map (some w.heap.size), .int .i64 0, .int .i64 0] 63)) := ((Ch.refl _ w).alloc _).alloc _
    subst h2
    obtain ⟨ma, Da, Va, hm⟩ := h.cm
    refine ⟨h1, ⟨⟨ma, Da, Va, w.heap.size, _, _, hm.new_ hc, cm_new w _ h.size, fun g ha hb => ?_⟩, Ch.below h.below hc (fun _ h => h.elim) h.below.size, h.good, good_empty, h.len, fun k => by simp [emptyS]⟩, hc⟩
    have := (hm.low ha).2
    rcases hb with e | e | ⟨k, e⟩
    · omega
    · omega
    · simp [nilS, Value.ownBlock] at e
theorem TS.wrote {ma mb n' : Nat} {Da Db : DataW Value} {Va Vb : List UInt8 → Value} {s' : CS} (h : TS w0 n ca cb s t w) (h1 : CM w w0.heap.size ca ma n Da Va s) (h2 : CM w w0.heap.size cb mb n Db Vb t) (h3 : ∀ g, CFoot ca ma Va g → ¬ CFoot cb mb Vb g)
    (hp : CP w0.heap.size ca ma n' Va s' w w') (hn : n ≤ n') (hg : Good s') (hl : ∀ k, (s'.f k).length ≤ n') : TS w0 n' ca cb s' t w' ∧ KpT w w' := by
  obtain ⟨D', V', p1, p2, p3⟩ := hp
  have q2 : CM w' w0.heap.size cb mb n' Db Vb t := (h2.ch p2 fun g hb ha => h3 g ha hb).mono hn
  refine ⟨⟨⟨ma, D', V', mb, Db, Vb, p1, q2, fun g ha hb => ?_⟩, Ch.below h.below p2 (fun g hg => (h1.low hg).1) h.below.size, hg, h.gt, hl, fun k => Nat.le_trans (h.lt k) hn⟩, fun g t cs ht1 ht2 hbk => hbk.ch p2 (h1.far hbk ht1 ht2)⟩
  rcases ha with e | e | ⟨k, e⟩
  · exact h3 g (.inl e) hb
  · exact h3 g (.inr (.inl e)) hb
  · rcases p3 k g e with e' | e'
    · exact h3 g (.inr (.inr e')) hb
    · have := (h2.low hb).2
      omega
theorem ts_put (h : TS w0 n ca cb s t w) (hn : n ≤ 900000) (key val : ByteArray) (has : Bool) (m : Int) :
    Calls Try.prog 21 #[.pointer (some ⟨ca, 0, none⟩), .string key, .string val, .bool has, .int .i64 m] w fun e w' => e = .returned (.int .i64 (putE s key val m)) ∧ TS w0 (n + 1) ca cb (putS s key val has m) t w' ∧ KpT w w' := by
  obtain ⟨ma, Da, Va, mb, Db, Vb, h1, h2, h3⟩ := h.two
  exact (put_any h1 h.below.size (by omega) key val has m (by have := h.ls key.data.toList; omega)).mono fun _ _ ⟨q1, q2⟩ => ⟨q1, h.wrote h1 h2 h3 q2 (Nat.le_succ n) (good_put h.gs key val has m) (putS_len h.ls key val has m)⟩
theorem ts_trim (h : TS w0 n ca cb s t w) (hn : n ≤ 900000) (m : Int) (h0 : trimE s m = 0) :
    Calls Try.prog 22 #[.pointer (some ⟨ca, 0, none⟩), .int .i64 m] w fun e w' => ∃ ks, KeysIn s ks ∧ e = .returned (.tuple #[.int .i64 (trimN s m ks : Nat), .int .i64 0]) ∧ TS w0 n ca cb (trimS s m) t w' ∧ KpT w w' := by
  obtain ⟨ma, Da, Va, mb, Db, Vb, h1, h2, h3⟩ := h.two
  have hm0 : 0 ≤ m ∧ m ≤ maxClock := by
    unfold trimE at h0
    split at h0
    · omega
    · omega
  exact (trim_ok h1 h.below.size (by omega) h.gs (fun k => by have := h.ls k; omega) m h0).mono fun _ _ ⟨ks, q1, q2, q3⟩ => ⟨ks, q1, q2, h.wrote h1 h2 h3 q3 (Nat.le_refl n) (good_trim h.gs hm0.1 hm0.2) (fun k => by
    show ((s.f k).drop _).length ≤ n
    have := h.ls k
    rw [List.length_drop]; omega)⟩
end
end Go.Proofs.Ytfcdplfnhjbdnaa
