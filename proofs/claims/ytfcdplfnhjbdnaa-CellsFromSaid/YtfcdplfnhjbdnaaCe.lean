/- A store of versions: its block, its map, its rows; New, Last, Floor, Get, At. -/
import Derived.Test.YtfcdplfnhjbdnaaUp
import Derived.Test.YtfcdplfnhjbdnaaLibMap
import Derived.StringKeys
namespace Go.Proofs.Ytfcdplfnhjbdnaa
open Go.RowKit Go.Maps
set_option linter.unusedVariables false

section
variable {H : Type} {P : Program} {K E : TypeId} {w w' : World} {b n : Nat} {D : DataW H} {R : Value → Option (DataW H × List MemPlace)}
theorem map_ch {S : Nat → Prop} (h : w.ownsMap P K R b n D) (hc : Ch S w w') (hb : ¬ S b) : w'.ownsMap P K R b n D := by
  have hlt := h.lt
  obtain ⟨es, clock, hbk, F, hs, hD⟩ := h
  exact ⟨es, clock, (hc.block b hlt hb).trans hbk, F, hs, hD⟩
theorem map_blk {g : Nat} {t : TypeId} {cs : Array Value} (h : w.ownsMap P K R b n D) (hg : Blk w g t cs) : b ≠ g := by
  rintro rfl
  obtain ⟨es, clock, hbk, _⟩ := h
  unfold Blk at hg
  rw [hg] at hbk
  cases hbk
theorem map_row {base : Nat} {e : TypeId} {size m : Nat} {v : Value} {xs : List Value} (h : w.ownsMap P K R b n D) (hv : w.ownsRow base e size v m xs) : v.ownBlock ≠ some b := by
  rcases hv.2 with ⟨rfl, _⟩ | ⟨g', cap, cur, rfl, _, hh, _⟩
  · simp [Value.ownBlock]
  · intro he
    have : g' = b := by simpa [Value.ownBlock] using he
    subst this
    exact map_blk (g := g') (t := e) h hh rfl
end
def RH (v : Value) : Option (DataW Value × List MemPlace) := some (.held v, [])
def nilS : Value := .slice none 0 0
theorem keyed9 : Keyed Try.prog 9 := string_keyed Try.underlying9
theorem zero56 (w : World) : (zeroValue 56).run Try.prog w = .ok nilS w := by kernel_rfl
structure CM (w : World) (B cb mb n : Nat) (D : DataW Value) (V : List UInt8 → Value) (s : CS) : Prop where
  blk : Blk w cb 63 #[.map (some mb), .int .i64 s.last, .int .i64 s.floor]
  map : w.ownsMap Try.prog 9 RH mb n D
  at_ : ∀ k, D.atKey (.string k) (.held nilS) = .held (V k)
  row : ∀ k, w.ownsRow B 66 3 (V k) (s.f k).length (flatV (s.f k))
  has : ∀ k, Maps.has D (.string k) = true ↔ s.f k ≠ []
  apart : ∀ k k' g, k ≠ k' → (V k).ownBlock = some g → (V k').ownBlock ≠ some g
  cB : B ≤ cb
  mB : B ≤ mb
def CFoot (cb mb : Nat) (V : List UInt8 → Value) (g : Nat) : Prop := g = cb ∨ g = mb ∨ ∃ k, (V k).ownBlock = some g
/-- What a writing call leaves. -/
def CP (B cb mb n : Nat) (V : List UInt8 → Value) (s : CS) (w w' : World) : Prop :=
  ∃ D' V', CM w' B cb mb n D' V' s ∧ Ch (CFoot cb mb V) w w' ∧ ∀ k g, (V' k).ownBlock = some g → (∃ k', (V k').ownBlock = some g) ∨ w.heap.size ≤ g
theorem own_rdv {w : World} {B : Nat} {A : Option Addr} {c : Nat} {l : List Ver} (h : w.ownsRow B 66 3 (.slice A l.length c) l.length (flatV l)) : RdV w A l := fun hl => by
  have hpos : 0 < l.length := by cases l; exact absurd rfl hl; simp
  obtain ⟨g, cap, hv, hg, _⟩ := h.form hpos
  injection hv with hA hn hq
  subst hA
  refine ⟨g, 0, rfl, fun i v hv => ?_⟩
  obtain ⟨h0, h1, h2⟩ := flatV_get l hv
  have a := h.cells (g := g) rfl _ _ h0
  have b := h.cells (g := g) rfl _ _ h1
  have d := h.cells (g := g) rfl _ _ h2
  rw [add_mk] at a b d
  exact ⟨a, b, d⟩
theorem own_lt {w : World} {B size n : Nat} {e : TypeId} {v : Value} {xs : List Value} (h : w.ownsRow B e size v n xs) {g : Nat} (hg : v.ownBlock = some g) : B ≤ g ∧ g < w.heap.size := by
  rcases h.2 with ⟨rfl, _⟩ | ⟨g', cap, cur, rfl, hB, hh, _⟩
  · simp [Value.ownBlock] at hg
  · simp [Value.ownBlock] at hg
    subst hg
    exact ⟨hB, Blk.lt hh⟩
section
variable {w w' : World} {B cb mb n : Nat} {D : DataW Value} {V : List UInt8 → Value} {s : CS}
theorem CM.isMap (h : CM w B cb mb n D V s) : IsMap D := by
  obtain ⟨es, clock, _, _, _, rfl⟩ := h.map
  exact ⟨_, rfl⟩
theorem CM.ne (h : CM w B cb mb n D V s) : mb ≠ cb := map_blk h.map h.blk
theorem CM.ch {S : Nat → Prop} (h : CM w B cb mb n D V s) (hc : Ch S w w') (hS : ∀ g, CFoot cb mb V g → ¬ S g) : CM w' B cb mb n D V s :=
  ⟨h.blk.ch hc (hS _ (.inl rfl)), map_ch h.map hc (hS _ (.inr (.inl rfl))), h.at_, fun k => own_ch (h.row k) hc (fun g hg => hS g (.inr (.inr ⟨k, hg⟩))), h.has, h.apart, h.cB, h.mB⟩
theorem CM.new_ (h : CM w B cb mb n D V s) (hc : NewW w w') : CM w' B cb mb n D V s := h.ch hc fun _ _ h => h
theorem CM.mono (h : CM w B cb mb n D V s) {n' : Nat} (hn : n ≤ n') : CM w B cb mb n' D V s := ⟨h.blk, h.map.mono hn, h.at_, h.row, h.has, h.apart, h.cB, h.mB⟩
theorem CM.low (h : CM w B cb mb n D V s) {g : Nat} (hg : CFoot cb mb V g) : B ≤ g ∧ g < w.heap.size := by
  rcases hg with rfl | rfl | ⟨k, hk⟩
  · exact ⟨h.cB, h.blk.lt⟩
  · exact ⟨h.mB, h.map.lt⟩
  · exact own_lt (h.row k) hk
/-- A block of another kind is none of a store's. -/
theorem CM.far (h : CM w B cb mb n D V s) {g : Nat} {t : TypeId} {cs : Array Value} (hg : Blk w g t cs) (h1 : t ≠ 63) (h2 : t ≠ 66) : ¬ CFoot cb mb V g := by
  rintro (rfl | rfl | ⟨k, hk⟩)
  · exact Blk.ne_ hg h.blk h1 rfl
  · exact map_blk h.map hg rfl
  · exact own_blk_ne (h.row k) hg (fun e => h2 e.symm) hk
theorem CM.c0 (h : CM w B cb mb n D V s) : w.cell? ⟨cb, 0, none⟩ = some (.map (some mb)) := by rw [h.blk.cell]; rfl
theorem CM.c1 (h : CM w B cb mb n D V s) : w.cell? ⟨cb, 1, none⟩ = some (.int .i64 s.last) := by rw [h.blk.cell]; rfl
theorem CM.c2 (h : CM w B cb mb n D V s) : w.cell? ⟨cb, 2, none⟩ = some (.int .i64 s.floor) := by rw [h.blk.cell]; rfl
theorem CM.look (h : CM w B cb mb n D V s) {key : ByteArray} (hk : key.size ≤ maxLen) : (Instr.lookup 61 (.map (some mb)) (.string key) false).run Try.prog w = .ok (V key.data.toList) w := by
  obtain ⟨v, ps, hrun, hv⟩ := h.map.lookup keyed9 Try.underlying61 (zero56 w) (zd := .held nilS) (zp := []) rfl (WideMaps.keyOf_string_mk Try.underlying9 hk)
  rw [hrun]
  rw [h.at_] at hv
  simp only [RH, Option.some.injEq, Prod.mk.injEq, DataW.held.injEq] at hv
  rw [hv.1]
end
theorem cm_new (w : World) (B : Nat) (hB : B ≤ w.heap.size) : CM ((w.alloc (.map #[] 0)).alloc (.cells #[.map (some w.heap.size), .int .i64 0, .int .i64 0] 63)) B (w.heap.size + 1) w.heap.size 0 (.map []) (fun _ => nilS) emptyS := by
  refine ⟨?_, (World.ownsMap_made w _ _ _).alloc _, fun _ => rfl, fun k => ⟨rfl, .inl ⟨rfl, rfl⟩⟩, fun k => by simp [emptyS, Maps.has], fun k k' g _ h => by simp [nilS, Value.ownBlock] at h, by omega, hB⟩
  have := Blk.new (w.alloc (.map #[] 0)) 63 #[.map (some w.heap.size), .int .i64 0, .int .i64 0]
  rwa [World.size_alloc] at this
theorem new_any (w : World) : Calls Try.prog 9 #[] w fun e w' => e = .returned (.pointer (some ⟨w.heap.size + 1, 0, none⟩)) ∧ w' = (w.alloc (.map #[] 0)).alloc (.cells #[.map (some w.heap.size), .int .i64 0, .int .i64 0] 63) := by
  have hmm := @run_makeMap Try.prog
  go_enter Try.func9, Try.ntmps9
  go_wp2
  go_ret
  exact ⟨by simp, by simp⟩
section
variable {w : World} {B cb mb n : Nat} {D : DataW Value} {V : List UInt8 → Value} {s : CS}
theorem last_any (h : CM w B cb mb n D V s) : Calls Try.prog 11 #[.pointer (some ⟨cb, 0, none⟩)] w fun e w' => e = .returned (.int .i64 s.last) ∧ w = w' := by
  have c := h.c1
  generalize s.last = L at *
  clear h
  go_enter Try.func11, Try.ntmps11
  go_wp2
  go_ret
  exact ⟨rfl, rfl⟩
theorem floor_any (h : CM w B cb mb n D V s) : Calls Try.prog 12 #[.pointer (some ⟨cb, 0, none⟩)] w fun e w' => e = .returned (.int .i64 s.floor) ∧ w = w' := by
  have c := h.c2
  generalize s.floor = L at *
  clear h
  go_enter Try.func12, Try.ntmps12
  go_wp2
  go_ret
  exact ⟨rfl, rfl⟩
theorem get_any (h : CM w B cb mb n D V s) (hg : Good s) {key : ByteArray} (hk : key.size ≤ maxLen) (hl : (s.f key.data.toList).length ≤ 1000000) :
    Calls Try.prog 18 #[.pointer (some ⟨cb, 0, none⟩), .string key] w fun e w' => e = .returned (.tuple #[.string (valOf (s.f key.data.toList) maxClock).1, .bool (valOf (s.f key.data.toList) maxClock).2]) ∧ NewW w w' := by
  have hlk := h.look hk
  obtain ⟨A, c, hv⟩ := own_form (h.row key.data.toList)
  have hrow := h.row key.data.toList
  rw [hv] at hlk hrow
  have HV := Lib.hid (value_any A c _ maxClock w (own_rdv hrow) (hg.rise _) hl)
  have c0 := h.c0
  clear h hv hrow hg
  generalize s.f key.data.toList = l at *
  unfold maxClock at HV
  generalize hvo : valOf l 1099511627776 = vo at *
  unfold maxClock
  rw [hvo]
  clear hvo
  generalize l.length = N at *
  go_enter Try.func18, Try.ntmps18
  go_wp2_with fail
  refine HV.out.mono ?_
  rintro e w2 ⟨rfl, hN⟩
  dsimp only
  have HN := Lib.hid hN
  clear hN HV
  go_wp2_with fail
  go_ret2
  exact ⟨rfl, HN.out⟩
end
end Go.Proofs.Ytfcdplfnhjbdnaa
