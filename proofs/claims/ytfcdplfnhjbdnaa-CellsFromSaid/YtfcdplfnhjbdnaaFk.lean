/- From, as the law calls it. -/
import Derived.Test.YtfcdplfnhjbdnaaFm
namespace Go.Proofs.Ytfcdplfnhjbdnaa
open Go.RowKit Go.Maps
set_option linter.unusedVariables false

theorem RdV.below {w0 w : World} {A : Option Addr} {l : List Ver} (h : RdV w0 A l) (hb : Below w0.heap.size w0 w) : RdV w A l := fun hl => by
  obtain ⟨g, off, hA, hh⟩ := h hl
  refine ⟨g, off, hA, fun i v hv => ?_⟩
  obtain ⟨h0, h1, h2⟩ := hh i v hv
  exact ⟨(hb.cell (block_lt_of_cell h0)).trans h0, (hb.cell (block_lt_of_cell h1)).trans h1, (hb.cell (block_lt_of_cell h2)).trans h2⟩
theorem RdC.below {w0 w : World} {A : Option Addr} {cs : List Cell} (h : RdC w0 A cs) (hb : Below w0.heap.size w0 w) : RdC w A cs := fun hl => by
  obtain ⟨g, off, hA, hh⟩ := h hl
  refine ⟨g, off, hA, fun i k l hkl => ?_⟩
  obtain ⟨h0, A', c', h1, h2⟩ := hh i k l hkl
  exact ⟨(hb.cell (block_lt_of_cell h0)).trans h0, A', c', (hb.cell (block_lt_of_cell h1)).trans h1, h2.below hb⟩
theorem CM.lower {w : World} {B B' cb mb n : Nat} {D : DataW Value} {V : List UInt8 → Value} {s : CS} (h : CM w B cb mb n D V s) (hB : B' ≤ B) : CM w B' cb mb n D V s :=
  ⟨h.blk, h.map, h.at_, fun k => own_mono (h.row k) hB, h.has, h.apart, Nat.le_trans hB h.cB, Nat.le_trans hB h.mB⟩
theorem okF_facts {cs : List Cell} {fl : Int} (h : okF cs fl = true) : 0 ≤ fl ∧ fl ≤ maxClock ∧ okC none cs fl = true := by
  unfold okF at h
  simp only [Bool.and_eq_true, decide_eq_true_eq] at h
  exact ⟨h.1.1, h.1.2, h.2⟩
theorem ks_from {w0 w : World} (hb : Below w0.heap.size w0 w) (cs : List Cell) (A : Option Addr) (c : Nat) (fl : Int) (h : RdC w A cs) {N : Nat} (hN : N ≤ 1000) (hn : cs.length ≤ N)
    (hk : ∀ x ∈ cs, x.1.length ≤ maxLen ∧ x.2.length ≤ N ∧ ∀ v ∈ x.2, v.val.size ≤ maxLen) :
    Calls Try.prog 23 #[.slice A cs.length c, .int .i64 fl] w fun e w' => NewW w w' ∧ ((okF cs fl = true ∧ (∃ cb, e = .returned (.tuple #[.pointer (some ⟨cb, 0, none⟩), .int .i64 0]) ∧ KS w0 N cb (fromS cs fl) w')) ∨
      (okF cs fl = false ∧ e = .returned (.tuple #[.pointer none, .int .i64 2]))) :=
  (from_any cs A c fl w h (by omega) (fun x hx => ⟨(hk x hx).1, by have := (hk x hx).2.1; omega, (hk x hx).2.2⟩)).mono fun e w' ⟨h1, h2⟩ => ⟨h1, h2.imp (fun ⟨a, b, D, V, hm⟩ => by
    obtain ⟨q0, q1, q2⟩ := okF_facts a
    exact ⟨a, _, b, ⟨⟨_, D, V, (hm.lower hb.size).mono hn⟩, Ch.below hb h1 (fun _ h => h.elim) hb.size, fromS_good q2 q0 q1, fromS_len q2 (fun x hx => (hk x hx).2.1)⟩⟩) (fun h => h)⟩
theorem cs_eta {x : CS} {f : List UInt8 → List Ver} {m : Int} (h1 : x.f = f) (h2 : x.floor = m) : (⟨f, x.last, m⟩ : CS) = x := by
  subst h1 h2
  rfl
theorem ks_back {w0 w : World} {s : CS} (hb : Below w0.heap.size w0 w) (hi : Inv s) (hg : Good s) (hl : ∀ k, (s.f k).length ≤ 60) {ks : List (List UInt8)} (hk : KeysIn s ks) (hkl : ks.length ≤ 60) {A : Option Addr} {c : Nat}
    (h : RdC w A (cellsOf s.f ks)) :
    Calls Try.prog 23 #[.slice A ks.length c, .int .i64 s.floor] w fun e w' => NewW w w' ∧ ∃ cb L, e = .returned (.tuple #[.pointer (some ⟨cb, 0, none⟩), .int .i64 0]) ∧ L ≤ s.last ∧ KS w0 60 cb ⟨s.f, L, s.floor⟩ w' := by
  have hlen : (cellsOf s.f ks).length = ks.length := by simp [cellsOf]
  have hc := ks_from hb (cellsOf s.f ks) A c s.floor h (N := 60) (by omega) (by omega) (fun x hx => by
    obtain ⟨k, hk', rfl⟩ := List.mem_map.1 hx
    have := hi.key k ((hk.2 k).1 hk')
    refine ⟨by unfold maxLen; simp only; omega, hl k, fun v hv => ?_⟩
    have := hi.small k v hv
    unfold maxLen; omega)
  rw [hlen] at hc
  refine hc.mono fun e w' ⟨h1, h2⟩ => ⟨h1, ?_⟩
  rcases h2 with ⟨_, cb, he, hS⟩ | ⟨hf, _⟩
  · obtain ⟨e1, e2⟩ := inv_same hi hg hk
    refine ⟨cb, _, he, e2, ?_⟩
    rw [show (⟨s.f, (fromS (cellsOf s.f ks) s.floor).last, s.floor⟩ : CS) = fromS (cellsOf s.f ks) s.floor from cs_eta e1 rfl]
    exact hS
  · have : okF (cellsOf s.f ks) s.floor = true := by
      unfold okF
      rw [inv_ok hi hg hk, Bool.and_true]
      have h0 := hg.f0
      have h1 := hg.f1
      unfold maxClock at h1
      simp only [Bool.and_eq_true, decide_eq_true_eq]
      exact ⟨h0, h1⟩
    rw [this] at hf
    cases hf
end Go.Proofs.Ytfcdplfnhjbdnaa
