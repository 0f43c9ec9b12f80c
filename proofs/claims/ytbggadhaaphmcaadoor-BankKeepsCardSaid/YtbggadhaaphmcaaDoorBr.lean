/- bank: what plans of accounts do, when the program's map does them. -/
import Derived.Test.YtbggadhaaphmcaaDoorBq
import Derived.Test.YtbggadhaaphmcaaDoorFx
namespace Go.Proofs.YtbggadhaaphmcaaDoor
open Go.Lib Go.RowKit
set_option linter.unusedVariables false

theorem txt_small {s : Int} (h : -1048576 ≤ s ∧ s ≤ 1048576) : (txt s).size ≤ 32 := txt_size s (by omega) (by omega)
/-- The map has these accounts. -/
structure BK (w0 : World) (pb n : Nat) (row : List Int) (w : World) : Prop where
  f : ∃ f, KM w0 pb n f w ∧ Sm f ∧ BankF f row
  len : row.length ≤ 16
theorem BK.new_ {w0 w w' : World} {pb n : Nat} {row : List Int} (h : BK w0 pb n row w) (hc : NewW w w') : BK w0 pb n row w' := by
  obtain ⟨f, h1, h2, h3⟩ := h.f
  exact ⟨⟨f, h1.new_ hc, h2, h3⟩, h.len⟩
theorem BK.below {w0 w : World} {pb n : Nat} {row : List Int} (h : BK w0 pb n row w) : Below w0.heap.size w0 w := by
  obtain ⟨f, h1, _⟩ := h.f
  exact h1.below
theorem BK.blk {w0 w : World} {pb n : Nat} {row : List Int} (h : BK w0 pb n row w) : ∃ cs, Blk w pb 94 cs := by
  obtain ⟨f, h1, _⟩ := h.f
  exact h1.blk
theorem BK.other {w0 w w' : World} {pb n rb : Nat} {row : List Int} {t : TypeId} {cs : Array Value} (h : BK w0 pb n row w) (hb : Blk w rb t cs) (ht : t ≠ 94) (hr : w0.heap.size ≤ rb) (hc : Ch (fun g => g = rb) w w') : BK w0 pb n row w' := by
  obtain ⟨f, h1, h2, h3⟩ := h.f
  refine ⟨⟨f, ?_, h2, h3⟩, h.len⟩
  obtain ⟨mb, D, hm⟩ := h1.pm
  refine ⟨⟨mb, D, hm.blk.ch hc (fun e => hm.blk.ne_ hb (fun e => ht e.symm) e), hm.mp.ch hc (fun e => ?_), hm.pB, hm.mB⟩, Ch.below h1.below hc (fun g e => by subst e; exact hr) h1.below.size⟩
  subst e
  obtain ⟨es, clock, hbk, _⟩ := hm.mp.map
  unfold Blk at hb
  rw [hbk] at hb
  cases hb
section
variable {w0 w : World} {pb n c : Nat} {A : Option Addr}
theorem run_open {k : Nat} {s : Int} (h : KM w0 pb n none0 w) (hn : n ≤ 100000) (hE : Env w) (hk : k ≤ 16) (hs : -1048576 ≤ s ∧ s ≤ 1048576) (hO : Ops w A k (openL k (txt s))) :
    Calls Tryd.prog 18 #[.pointer (some ⟨pb, 0, none⟩), .slice A k c] w fun e w' => (∃ A' m' c', e = .returned (.tuple #[.slice A' m' c', .bool true])) ∧ BK w0 pb (n + 16) (List.replicate k s) w' ∧ Ch (fun g => g = pb) w w' := by
  have hg := good_open hk (v := txt s) (txt_small hs)
  refine (Run_any (c := c) h hn hE sm_zero hO).mono fun e w' hR => ?_
  obtain ⟨⟨A', c', e1, hr⟩, hkm, hc⟩ := hR
  rw [hg] at e1
  refine ⟨⟨A', _, c', e1⟩, ⟨⟨_, hkm, sm_run sm_zero _, ?_⟩, by simpa using hk⟩, hc⟩
  rw [(run_good hg).2]
  exact bank_open rfl k hk _
theorem run_adds {row : List Int} {l : List Gift} {M : Int} {m : Nat} (h : BK w0 pb n row w) (hn : n ≤ 100000) (hE : Env w) (hM : Bnd M row) (hl : l.length ≤ 16) (hMl : M ≤ 900000000000) (hp : ∀ p ∈ l, p.1 < row.length ∧ -10000000 ≤ p.2 ∧ p.2 ≤ 10000000) (hO : Ops w A m (addsL l)) :
    Calls Tryd.prog 18 #[.pointer (some ⟨pb, 0, none⟩), .slice A m c] w fun e w' => (∃ A' m' c', e = .returned (.tuple #[.slice A' m' c', .bool true])) ∧ BK w0 pb (n + 16) (addsR row l) w' ∧ Ch (fun g => g = pb) w w' := by
  obtain ⟨f, hk, hs, hB⟩ := h.f
  have hg := good_adds hl (fun p hpp => (hp p hpp).2)
  refine (Run_any (c := c) hk hn hE hs hO).mono fun e w' hR => ?_
  obtain ⟨⟨A', c', e1, hr⟩, hkm, hc⟩ := hR
  rw [hg] at e1
  refine ⟨⟨A', _, c', e1⟩, ⟨⟨_, hkm, sm_run hs _, ?_⟩, by rw [addsR_len]; exact h.len⟩, hc⟩
  rw [(run_good hg).2]
  exact bank_adds l h.len hB hM (by omega) hp
theorem run_audit {row : List Int} {k : Nat} (h : BK w0 pb n row w) (hn : n ≤ 100000) (hE : Env w) (hk : row.length = k) (hM : Bnd 1000000000000 row) (hO : Ops w A k (auditL k)) :
    Calls Tryd.prog 18 #[.pointer (some ⟨pb, 0, none⟩), .slice A k c] w fun e w' => (∃ A' c', e = .returned (.tuple #[.slice A' k c', .bool true]) ∧ Prs w' A' k ((row.map (fun x => (some (txt x) : Res))).map prR)) ∧ BK w0 pb (n + 16) row w' ∧ Ch (fun g => g = pb) w w' := by
  obtain ⟨f, hkm0, hs, hB⟩ := h.f
  have h16 := h.len
  have hg := good_audit (k := k) (by omega)
  have ha := audit_run hB k (by omega)
  refine (Run_any (c := c) hkm0 hn hE hs hO).mono fun e w' hR => ?_
  obtain ⟨⟨A', c', e1, hr⟩, hkm, hc⟩ := hR
  rw [hg] at e1
  have hout : runO f (auditL k) = row.map (fun x => (some (txt x) : Res)) := by
    rw [(run_good hg).1, ha.2, ← hk, List.take_length]
  have hf : runF f (auditL k) = f := by rw [(run_good hg).2, ha.1]
  rw [hout] at e1 hr
  rw [hf] at hkm
  have hlen : (row.map (fun x => (some (txt x) : Res))).length = k := by rw [List.length_map, hk]
  rw [hlen] at e1 hr
  exact ⟨⟨A', c', e1, Prs.of_res ⟨hlen, Rd.own hr⟩⟩, ⟨⟨f, hkm, hs, hB⟩, h16⟩, hc⟩
end
theorem KM.mblk {w0 w : World} {pb n : Nat} {f : Has} (h : KM w0 pb n f w) : ∃ mb, Blk w pb 94 #[.map mb] := by
  obtain ⟨mb, D, hm⟩ := h.pm
  exact ⟨_, hm.blk⟩
theorem BK.mblk {w0 w : World} {pb n : Nat} {row : List Int} (h : BK w0 pb n row w) : ∃ mb, Blk w pb 94 #[.map mb] := by
  obtain ⟨f, h1, _⟩ := h.f
  exact h1.mblk
theorem rd_pb {w w' : World} {A : Option Addr} {xs : List Value} {pb : Nat} {mb : Option Nat} (h : Rd w A xs) (hb : Blk w pb 94 #[.map mb]) (hc : Ch (fun g => g = pb) w w') (hx : ∀ v, xs[0]? = some v → ∀ mb, v ≠ .map mb) : Rd w' A xs := by
  intro hne
  obtain ⟨b, off, hA, hlt, hcell⟩ := h hne
  have hbp : b ≠ pb := by
    rintro rfl
    obtain ⟨v, hv⟩ := some_of_lt (L := xs) (i := 0) (by rcases xs with _ | ⟨a, r⟩; exact absurd rfl hne; simp)
    have h1 := hcell 0 v hv
    rw [hb.cell] at h1
    rcases off with _ | off
    · simp at h1
      exact hx v hv mb h1.symm
    · simp at h1
  exact ⟨b, off, hA, Nat.lt_of_lt_of_le hlt hc.size, fun i v hv => (World.cell?_of_block (a := ⟨b, off + i, none⟩) (hc.block b hlt hbp)).trans (hcell i v hv)⟩
theorem Ops.pb {w w' : World} {A : Option Addr} {n : Nat} {l : List OpD} {pb : Nat} {mb : Option Nat} (h : Ops w A n l) (hb : Blk w pb 94 #[.map mb]) (hc : Ch (fun g => g = pb) w w') : Ops w' A n l :=
  ⟨h.1, rd_pb h.2 hb hc fun v hv mb e => by
    rcases l with _ | ⟨o, r⟩
    · simp [flatO] at hv
    · simp [flatO] at hv
      rw [← hv] at e
      cases e⟩
theorem Prs.pb {w w' : World} {A : Option Addr} {n : Nat} {l : List Pr} {pb : Nat} {mb : Option Nat} (h : Prs w A n l) (hb : Blk w pb 94 #[.map mb]) (hc : Ch (fun g => g = pb) w w') : Prs w' A n l :=
  ⟨h.1, rd_pb h.2 hb hc fun v hv mb e => by
    rcases l with _ | ⟨o, r⟩
    · simp [flatP] at hv
    · simp [flatP] at hv
      rw [← hv] at e
      cases e⟩
theorem prs_size {row : List Int} (h : Bnd 1000000000000 row) : ∀ p ∈ (row.map (fun x => (some (txt x) : Res))).map prR, p.1.size ≤ 281474976710656 := by
  intro p hp
  obtain ⟨r, hr, rfl⟩ := List.mem_map.1 hp
  obtain ⟨x, hx, rfl⟩ := List.mem_map.1 hr
  have := h x hx
  show (txt x).size ≤ _
  have := txt_size x (by omega) (by omega)
  omega
end Go.Proofs.YtbggadhaaphmcaaDoor
