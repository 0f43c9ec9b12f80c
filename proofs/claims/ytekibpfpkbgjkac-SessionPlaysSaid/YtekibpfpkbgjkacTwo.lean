/- The two books of SessionPlays side by side: what the program's says is what the reference's says. -/
import Derived.Test.YtekibpfpkbgjkacFix
import Derived.Test.YtekibpfpkbgjkacRef2
namespace Go.Proofs.Ytekibpfpkbgjkac
open Go.RowKit
set_option linter.unusedVariables false

/-! ### The plain law -/
structure Same (win : Int) (p : PS) (s : RS) : Prop where
  next : p.next = s.ans.length + 1
  closed : p.closed = s.closed
  kept : ∀ q : Int, 1 ≤ q → q ≤ s.ans.length → s.ans.length - q < win → p.ans.getD (q % win).toNat 0 = s.ans.getD (q - 1).toNat 0
structure Rel (win : Int) (P : List PS) (R : List RS) : Prop where
  len : P.length = R.length
  at_ : ∀ (i : Nat) (p : PS) (s : RS), P[i]? = some p → R[i]? = some s → Same win p s

theorem rel_nil (win : Int) : Rel win [] [] := ⟨rfl, by simp⟩
theorem rel_get {win : Int} {P : List PS} {R : List RS} (h : Rel win P R) {i : Nat} (hi : i < P.length) : ∃ p s, P[i]? = some p ∧ R[i]? = some s ∧ Same win p s := by
  obtain ⟨p, hp⟩ := some_of_lt hi
  obtain ⟨s, hs⟩ := some_of_lt (show i < R.length by have := h.len; omega)
  exact ⟨p, s, hp, hs, h.at_ i p s hp hs⟩
theorem rel_open {win : Int} {P : List PS} {R : List RS} (h : Rel win P R) : Rel win (P ++ [fresh]) (R ++ [rfresh]) := by
  refine ⟨by simp [h.len], fun i p s hp hs => ?_⟩
  by_cases hi : i < P.length
  · rw [List.getElem?_append_left hi] at hp
    rw [List.getElem?_append_left (by have := h.len; omega)] at hs
    exact h.at_ i p s hp hs
  · rw [List.getElem?_append_right (by omega)] at hp
    rw [List.getElem?_append_right (by have := h.len; omega)] at hs
    have e1 := mem_of_some hp
    have e2 := mem_of_some hs
    simp at e1 e2
    subst e1 e2
    exact ⟨rfl, rfl, fun q h1 h2 => by simp [rfresh] at h2; omega⟩
theorem rel_set {win : Int} {P : List PS} {R : List RS} (h : Rel win P R) (i : Nat) {p : PS} {s : RS} (hs : Same win p s) : Rel win (P.set i p) (R.set i s) := by
  refine ⟨by simp [h.len], fun j p' s' hp' hs' => ?_⟩
  by_cases hij : i = j
  · subst hij
    have h1 := lt_of_some hp'
    have h2 := lt_of_some hs'
    simp only [List.length_set] at h1 h2
    rw [List.getElem?_set_self h1] at hp'
    rw [List.getElem?_set_self h2] at hs'
    cases hp'
    cases hs'
    exact hs
  · rw [List.getElem?_set_ne hij] at hp' hs'
    exact h.at_ j p' s' hp' hs'
theorem rel_close {win : Int} {P : List PS} {R : List RS} (h : Rel win P R) (i : Int) : closeE P i = rcloseE R i ∧ Rel win (closeL P i) (rcloseL R i) := by
  have hl := h.len
  unfold closeE rcloseE closeL rcloseL
  by_cases hi : i < 0 ∨ (P.length : Int) ≤ i
  · rw [if_pos hi, if_pos (by omega), if_pos hi, if_pos (by omega)]
    exact ⟨rfl, h⟩
  · rw [if_neg hi, if_neg (by omega), if_neg hi, if_neg (by omega)]
    obtain ⟨p, s, hp, hs, hS⟩ := rel_get h (show i.toNat < P.length by omega)
    rw [hp, hs]
    simp only [hS.closed]
    by_cases hc : s.closed = true
    · simp only [hc, if_pos]
      exact ⟨trivial, h⟩
    · simp only [hc, Bool.false_eq_true, if_false]
      exact ⟨trivial, rel_set h _ ⟨hS.next, rfl, hS.kept⟩⟩
theorem same_kept {win : Int} {p : PS} {s : RS} (h : Same win p s) {q : Int} (h1 : 1 ≤ q) (h2 : q ≤ s.ans.length) : keptR win p q = rkeptR win s q := by
  unfold keptR rkeptR
  have := h.next
  by_cases hc : win ≤ s.ans.length - q
  · rw [if_pos (by omega), if_pos hc]
  · rw [if_neg (by omega), if_neg hc, h.kept q h1 h2 (by omega)]
theorem rel_ask {win : Int} {P : List PS} {R : List RS} (h : Rel win P R) (i q : Int) : askR win P i q = raskR win R i q := by
  have hl := h.len
  unfold askR raskR
  by_cases hi : i < 0 ∨ (P.length : Int) ≤ i
  · rw [if_pos hi, if_pos (show i < 0 ∨ (R.length : Int) ≤ i by omega)]
  · rw [if_neg hi, if_neg (show ¬ (i < 0 ∨ (R.length : Int) ≤ i) by omega)]
    by_cases hq : q < 1 ∨ 1073741824 < q
    · rw [if_pos hq, if_pos hq]
    · rw [if_neg hq, if_neg hq]
      obtain ⟨p, s, hp, hs, hS⟩ := rel_get h (show i.toNat < P.length by omega)
      rw [hp, hs]
      have := hS.next
      simp only
      by_cases hc : (s.ans.length : Int) < q
      · rw [if_pos (by omega), if_pos hc]
      · rw [if_neg (by omega), if_neg hc]
        exact same_kept hS (by omega) (by omega)
theorem rel_next {win : Int} {P : List PS} {R : List RS} (h : Rel win P R) (i : Nat) {s : RS} (hs : R[i]? = some s) : nextR P i = s.ans.length + 1 := by
  have hl := h.len
  have hlt := lt_of_some hs
  obtain ⟨p, s', hp, hs', hS⟩ := rel_get h (show i < P.length by omega)
  rw [hs] at hs'
  cases hs'
  unfold nextR
  rw [if_neg (by omega), Int.toNat_natCast, hp]
  exact hS.next
theorem rel_do {win sum : Int} {P : List PS} {R : List RS} (h : Rel win P R) (hw0 : 1 ≤ win) (hw1 : win ≤ 64) (h64 : ∀ p ∈ P, p.ans.length = 64) (i q m : Int) (v : Value) :
    (doR win sum P i q m).x = (rdoR win sum R i q m v).x ∧ (doR win sum P i q m).e = (rdoR win sum R i q m v).e ∧ (doR win sum P i q m).sum = (rdoR win sum R i q m v).sum ∧ Rel win (doR win sum P i q m).L (rdoR win sum R i q m v).L := by
  have hl := h.len
  unfold doR rdoR
  by_cases ha : m < -1125899906842624 ∨ 1125899906842624 < m
  · rw [if_pos ha, if_pos ha]
    exact ⟨rfl, rfl, rfl, h⟩
  rw [if_neg ha, if_neg ha]
  by_cases hi : i < 0 ∨ (P.length : Int) ≤ i
  · rw [if_pos hi, if_pos (by omega)]
    exact ⟨rfl, rfl, rfl, h⟩
  rw [if_neg hi, if_neg (by omega)]
  obtain ⟨p, s, hp, hs, hS⟩ := rel_get h (show i.toNat < P.length by omega)
  rw [hp, hs]
  have hn := hS.next
  simp only [hS.closed]
  by_cases hc : s.closed = true
  · simp only [hc, if_pos]
    exact ⟨trivial, trivial, trivial, h⟩
  simp only [hc, Bool.false_eq_true, if_false]
  by_cases hq : q < 1 ∨ (s.ans.length : Int) + 1 < q ∨ 1073741824 < q
  · rw [if_pos (by omega), if_pos hq]
    exact ⟨rfl, rfl, rfl, h⟩
  rw [if_neg (by omega), if_neg hq]
  by_cases hx : q ≤ (s.ans.length : Int)
  · rw [if_pos (by omega), if_pos hx, same_kept hS (by omega) hx]
    exact ⟨rfl, rfl, rfl, h⟩
  rw [if_neg (by omega), if_neg hx]
  refine ⟨rfl, rfl, rfl, rel_set h _ ⟨by simp; omega, by simp, fun t h1 h2 h3 => ?_⟩⟩
  have hp64 := h64 p (mem_of_some hp)
  have hQ : q = s.ans.length + 1 := by omega
  have r0 : 0 ≤ q % win := Int.emod_nonneg _ (by omega)
  have r1 : q % win < win := Int.emod_lt_of_pos _ (by omega)
  simp only [List.length_append, List.length_cons, List.length_nil] at h2 h3
  by_cases ht : t = q
  · subst ht
    rw [List.getD_eq_getElem?_getD, List.getElem?_set_self (by omega), List.getD_eq_getElem?_getD, List.getElem?_append_right (by omega)]
    have : (t - 1).toNat - s.ans.length = 0 := by omega
    rw [this]
    rfl
  · have hne : (q % win).toNat ≠ (t % win).toNat := by
      intro e
      have r2 : 0 ≤ t % win := Int.emod_nonneg _ (by omega)
      have e2 : q % win = t % win := by omega
      have e3 : (q - t) % win = 0 := Int.emod_eq_emod_iff_emod_sub_eq_zero.1 e2
      have e4 : (q - t) % win = q - t := Int.emod_eq_of_lt (by omega) (by omega)
      omega
    rw [List.getD_eq_getElem?_getD, List.getElem?_set_ne hne, ← List.getD_eq_getElem?_getD, hS.kept t h1 (by omega) (by omega), List.getD_eq_getElem?_getD, List.getD_eq_getElem?_getD,
      List.getElem?_append_left (by omega)]
/-! ### The two books in one memory -/
def Keep31 (w w' : World) : Prop := ∀ g cs, Blk w g 31 cs → Blk w' g 31 cs
theorem Keep31.of {S : Nat → Prop} {w w' : World} (h : Ch S w w') (hS : ∀ g cs, Blk w g 31 cs → ¬ S g) : Keep31 w w' := fun g cs hg => hg.ch h (hS g cs hg)
theorem Keep31.drewN (w : World) (n : Nat) : Keep31 w (w.drewN n) := fun _ _ h => h
def Two (w0 : World) (b r : Nat) (win psum rsum : Int) (P : List PS) (R : List RS) (w : World) : Prop :=
  ∃ v vr, PBook w w0.heap.size b win psum P v ∧ RBook w w0.heap.size r win rsum R vr ∧ Below w0.heap.size w0 w ∧ w0.heap.size ≤ b

section
variable {w0 w w' : World} {b r : Nat} {win psum rsum : Int} {P : List PS} {R : List RS}
theorem Two.drewN (h : Two w0 b r win psum rsum P R w) (n : Nat) : Two w0 b r win psum rsum P R (w.drewN n) := by
  obtain ⟨v, vr, ⟨h1, h2, h3⟩, h4, hb, hB⟩ := h
  exact ⟨v, vr, ⟨h1.drewN n, own_drewN h2 n, h3⟩, h4.drewN n, below_drewN hb n, hB⟩
theorem Two.box (h : Two w0 b r win psum rsum P R w) (cs : Array Value) (t : Nat) : Two w0 b r win psum rsum P R (w.alloc (.cells cs t)) := by
  obtain ⟨v, vr, ⟨h1, h2, h3⟩, ⟨r1, r2, r3, r4⟩, hb, hB⟩ := h
  have c : Ch (fun _ => False) w (w.alloc (.cells cs t)) := (Ch.refl _ _).alloc _
  exact ⟨v, vr, ⟨h1.ch c (by simp), own_ch h2 c (by simp), h3⟩, ⟨r1.ch c (by simp), own_ch r2 c (by simp), fun s hs => own_ch (r3 s hs) c (by simp), r4⟩, Ch.below hb c (by simp) hb.size, hB⟩

/-- A call of the program's book. -/
theorem two_p {v vr : Value} {psum' : Int} {P' : List PS} (h1 : PBook w w0.heap.size b win psum P v) (h2 : RBook w w0.heap.size r win rsum R vr) (hb : Below w0.heap.size w0 w) (hB : w0.heap.size ≤ b)
    (hp : BPost w0.heap.size b win psum' P' v w w') : Two w0 b r win psum' rsum P' R w' ∧ Keep31 w w' := by
  obtain ⟨v', p1, c, f⟩ := hp
  have hS : ∀ k, (k = b ∨ v.ownBlock = some k) → w0.heap.size ≤ k := by
    rintro k (rfl | hk)
    · exact hB
    · exact (h1.2.1.lt k hk).1
  have hT : ∀ g t cs, Blk w g t cs → t ≠ 52 → t ≠ 55 → ¬ (g = b ∨ v.ownBlock = some g) := by
    rintro g t cs hg h5 h6 (e | e)
    · exact hg.ne_ h1.1 h5 e
    · exact own_blk_ne h1.2.1 hg (fun e => h6 e.symm) e
  have hO : ∀ {e size n : Nat} {u : Value} {xs : List Value}, w.ownsRow w0.heap.size e size u n xs → e ≠ 52 → e ≠ 55 → ∀ k, u.ownBlock = some k → ¬ (k = b ∨ v.ownBlock = some k) := by
    intro e size n u xs ho h5 h6 k hk
    rcases ho.2 with ⟨h0, _⟩ | ⟨g, cap, cur, h0, hg1, hg2, _⟩
    · rw [h0] at hk; simp [Value.ownBlock] at hk
    · rw [h0] at hk
      simp [Value.ownBlock] at hk
      subst hk
      exact hT g e cur hg2 h5 h6
  obtain ⟨r1, r2, r3, r4⟩ := h2
  exact ⟨⟨v', vr, p1, ⟨r1.ch c (hT _ _ _ r1 (by decide) (by decide)), own_ch r2 c (hO r2 (by decide) (by decide)), fun s hs => own_ch (r3 s hs) c (hO (r3 s hs) (by decide) (by decide)), r4⟩, Ch.below hb c hS hb.size, hB⟩,
    Keep31.of c fun g cs hg => hT g 31 cs hg (by decide) (by decide)⟩
/-- A call of the reference's book. -/
theorem two_r {v vr : Value} {rsum' : Int} {R' : List RS} (h1 : PBook w w0.heap.size b win psum P v) (h2 : RBook w w0.heap.size r win rsum R vr) (hb : Below w0.heap.size w0 w) (hB : w0.heap.size ≤ b)
    (hp : RPost w0.heap.size r win rsum' R' w w') : Two w0 b r win psum rsum' P R' w' ∧ Keep31 w w' := by
  obtain ⟨v', p1, c⟩ := hp
  refine ⟨⟨v, v', ⟨h1.1.ch c (ts_blk h1.1 (by decide) (by decide) (by decide)), own_ch h1.2.1 c ?_, h1.2.2⟩, p1, Ch.below hb c (fun k hk => hk.1) hb.size, hB⟩, Keep31.of c fun g cs hg => ts_blk hg (by decide) (by decide) (by decide)⟩
  intro k hk
  rcases h1.2.1.2 with ⟨h0, _⟩ | ⟨g, cap, cur, h0, hg1, hg2, _⟩
  · rw [h0] at hk; simp [Value.ownBlock] at hk
  · rw [h0] at hk
    simp [Value.ownBlock] at hk
    subst hk
    exact ts_blk (t := 55) (cs := cur) hg2 (by decide) (by decide) (by decide)

theorem two_open_p (h : Two w0 b r win psum rsum P R w) (hf : P.length < 64) :
    Calls Try.prog 8 #[.pointer (some ⟨b, 0, none⟩)] w fun e w' => e = .returned (.tuple #[.int .i64 P.length, .int .i64 0]) ∧ Two w0 b r win psum rsum (P ++ [fresh]) R w' ∧ Keep31 w w' := by
  obtain ⟨v, vr, h1, h2, hb, hB⟩ := h
  exact (open_in _ b win psum P v w h1 hf hb.size).mono fun e w' ⟨p1, p2⟩ => ⟨p1, two_p h1 h2 hb hB p2⟩
theorem two_full_p (h : Two w0 b r win psum rsum P R w) (hf : 64 ≤ P.length) :
    Calls Try.prog 8 #[.pointer (some ⟨b, 0, none⟩)] w fun e w' => e = .returned (.tuple #[.int .i64 0, .int .i64 7]) ∧ w = w' := by
  obtain ⟨v, vr, h1, h2, hb, hB⟩ := h
  exact open_full _ b win psum P v w h1 hf
theorem two_open_r (h : Two w0 b r win psum rsum P R w) (hf : R.length < 64) :
    Calls Try.prog 9 #[.pointer (some ⟨r, 0, none⟩)] w fun e w' => e = .returned (.tuple #[.int .i64 R.length, .int .i64 0]) ∧ Two w0 b r win psum rsum P (R ++ [rfresh]) w' ∧ Keep31 w w' := by
  obtain ⟨v, vr, h1, h2, hb, hB⟩ := h
  exact (ropen_in _ r win rsum R vr w h2 hf hb.size).mono fun e w' ⟨p1, p2⟩ => ⟨p1, two_r h1 h2 hb hB p2⟩
theorem two_full_r (h : Two w0 b r win psum rsum P R w) (hf : 64 ≤ R.length) :
    Calls Try.prog 9 #[.pointer (some ⟨r, 0, none⟩)] w fun e w' => e = .returned (.tuple #[.int .i64 0, .int .i64 7]) ∧ w = w' := by
  obtain ⟨v, vr, h1, h2, hb, hB⟩ := h
  exact ropen_full _ r win rsum R vr w h2 hf
theorem two_close_p (i : Int) (h : Two w0 b r win psum rsum P R w) :
    Calls Try.prog 10 #[.pointer (some ⟨b, 0, none⟩), .int .i64 i] w fun e w' => e = .returned (.int .i64 (closeE P i)) ∧ Two w0 b r win psum rsum (closeL P i) R w' ∧ Keep31 w w' := by
  obtain ⟨v, vr, h1, h2, hb, hB⟩ := h
  exact (close_any _ b win psum P v w i h1).mono fun e w' ⟨p1, p2⟩ => ⟨p1, two_p h1 h2 hb hB p2⟩
theorem two_close_r (i : Int) (h : Two w0 b r win psum rsum P R w) :
    Calls Try.prog 11 #[.pointer (some ⟨r, 0, none⟩), .int .i64 i] w fun e w' => e = .returned (.int .i64 (rcloseE R i)) ∧ Two w0 b r win psum rsum P (rcloseL R i) w' ∧ Keep31 w w' := by
  obtain ⟨v, vr, h1, h2, hb, hB⟩ := h
  exact (rclose_any _ r win rsum R vr w i h2).mono fun e w' ⟨p1, p2⟩ => ⟨p1, two_r h1 h2 hb hB p2⟩
theorem two_ask_p (K i q : Int) (h : Two w0 b r win psum rsum P R w) (hF : Fine win psum P K) :
    Calls Try.prog 12 #[.pointer (some ⟨b, 0, none⟩), .int .i64 i, .int .i64 q] w fun e w' => e = .returned (.tuple #[.int .i64 (askR win P i q).1, .int .i64 (askR win P i q).2]) ∧ Two w0 b r win psum rsum P R w' ∧ Keep31 w w' := by
  have h' := h
  obtain ⟨v, vr, h1, h2, hb, hB⟩ := h
  exact (ask_any _ b win psum P v w K i q h1 hF).mono fun e w' ⟨p1, k, p2⟩ => ⟨p1, by rw [p2]; exact ⟨h'.drewN k, Keep31.drewN _ _⟩⟩
theorem two_ask_r (i q : Int) (h : Two w0 b r win psum rsum P R w) (hw0 : 1 ≤ win) (hw1 : win ≤ 64) :
    Calls Try.prog 13 #[.pointer (some ⟨r, 0, none⟩), .int .i64 i, .int .i64 q] w fun e w' => e = .returned (.tuple #[.int .i64 (raskR win R i q).1, .int .i64 (raskR win R i q).2]) ∧ Two w0 b r win psum rsum P R w' ∧ Keep31 w w' := by
  have h' := h
  obtain ⟨v, vr, h1, h2, hb, hB⟩ := h
  exact (rask_any _ r win rsum R vr w i q h2 hw0 hw1).mono fun e w' ⟨p1, k, p2⟩ => ⟨p1, by rw [p2]; exact ⟨h'.drewN k, Keep31.drewN _ _⟩⟩
theorem two_do_p (K i q m : Int) (h : Two w0 b r win psum rsum P R w) (hF : Fine win psum P K) :
    Calls Try.prog 14 #[.pointer (some ⟨b, 0, none⟩), .int .i64 i, .int .i64 q, .int .i64 m] w fun e w' => e = .returned (.tuple #[.int .i64 (doR win psum P i q m).x, .int .i64 (doR win psum P i q m).e]) ∧
      Two w0 b r win (doR win psum P i q m).sum rsum (doR win psum P i q m).L R w' ∧ Keep31 w w' := by
  obtain ⟨v, vr, h1, h2, hb, hB⟩ := h
  exact (do_any _ b win psum P v w K i q m h1 hF).mono fun e w' ⟨p1, p2⟩ => ⟨p1, two_p h1 h2 hb hB p2⟩
theorem two_do_r (i q m : Int) (h : Two w0 b r win psum rsum P R w) (hw0 : 1 ≤ win) (hw1 : win ≤ 64) (hs0 : -1000000000000000000 ≤ rsum) (hs1 : rsum ≤ 1000000000000000000) (hlen : ∀ s ∈ R, s.ans.length ≤ 1000) :
    Calls Try.prog 15 #[.pointer (some ⟨r, 0, none⟩), .int .i64 i, .int .i64 q, .int .i64 m] w fun e w' => ∃ v', e = .returned (.tuple #[.int .i64 (rdoR win rsum R i q m v').x, .int .i64 (rdoR win rsum R i q m v').e]) ∧
      Two w0 b r win psum (rdoR win rsum R i q m v').sum P (rdoR win rsum R i q m v').L w' ∧ Keep31 w w' := by
  obtain ⟨v, vr, h1, h2, hb, hB⟩ := h
  exact (rdo_any _ r win rsum R vr w i q m h2 hw0 hw1 hb.size hs0 hs1 hlen).mono fun e w' ⟨v', p1, p2⟩ => ⟨v', p1, two_r h1 h2 hb hB p2⟩
theorem two_sum (h : Two w0 b r win psum rsum P R w) : Calls Try.prog 16 #[.pointer (some ⟨b, 0, none⟩)] w fun e w' => e = .returned (.int .i64 psum) ∧ w = w' := by
  obtain ⟨v, vr, h1, h2, hb, hB⟩ := h
  exact sum_any _ _ _ _ _ _ _ h1
theorem two_sessions (h : Two w0 b r win psum rsum P R w) : Calls Try.prog 17 #[.pointer (some ⟨b, 0, none⟩)] w fun e w' => e = .returned (.int .i64 P.length) ∧ w = w' := by
  obtain ⟨v, vr, h1, h2, hb, hB⟩ := h
  exact sessions_any _ _ _ _ _ _ _ h1
theorem two_next {i x : Int} (hx : nextR P i = x) (h : Two w0 b r win psum rsum P R w) : Calls Try.prog 18 #[.pointer (some ⟨b, 0, none⟩), .int .i64 i] w fun e w' => e = .returned (.int .i64 x) ∧ w = w' := by
  obtain ⟨v, vr, h1, h2, hb, hB⟩ := h
  exact next_kept hx ⟨v, h1, hb, hB⟩
/-- What the reference's book has, as the law reads it. -/
theorem Two.cells (h : Two w0 b r win psum rsum P R w) : ∃ A c, w.cell? ⟨r, 1, none⟩ = some (.int .i64 rsum) ∧ w.cell? ⟨r, 2, none⟩ = some (.slice A R.length c) ∧
    ∀ i s, R[i]? = some s → ∃ lb A' c', A = some ⟨lb, 0, none⟩ ∧ w.cell? ⟨lb, i * 2, none⟩ = some (.slice A' s.ans.length c') := by
  obtain ⟨v, vr, h1, h2, hb, hB⟩ := h
  have c1 := h2.1.cell 1
  have c2 := h2.1.cell 2
  simp at c1 c2
  obtain ⟨A, c, rfl⟩ := own_form h2.2.1
  refine ⟨A, c, c1, c2, fun i s hs => ?_⟩
  obtain ⟨lb, c', A', c'', hv, hsv, k0, _⟩ := rat_ h2 hs
  injection hv with hv
  exact ⟨lb, A', c'', hv, k0⟩
theorem Two.p64 (h : Two w0 b r win psum rsum P R w) : ∀ p ∈ P, p.ans.length = 64 := by
  obtain ⟨v, vr, h1, h2, hb, hB⟩ := h
  exact h1.2.2
theorem Two.below (h : Two w0 b r win psum rsum P R w) : Below w0.heap.size w0 w := by
  obtain ⟨v, vr, h1, h2, hb, hB⟩ := h
  exact hb
end
theorem rel_len {win sum K : Int} {P : List PS} {R : List RS} (h : Rel win P R) (hF : Fine win sum P K) : ∀ s ∈ R, s.ans.length ≤ 1000 := by
  intro s hs
  obtain ⟨i, hi⟩ := List.getElem?_of_mem hs
  have hlt := lt_of_some hi
  obtain ⟨p, s', hp, hs', hS⟩ := rel_get h (show i < P.length by have := h.len; omega)
  rw [hi] at hs'
  cases hs'
  have := hF.next p (mem_of_some hp)
  have := hF.k
  have := hS.next
  omega
end Go.Proofs.Ytekibpfpkbgjkac
