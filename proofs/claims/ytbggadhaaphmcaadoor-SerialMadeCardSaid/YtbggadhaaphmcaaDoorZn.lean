/- serial: from: the search itself. -/
import Derived.Test.YtbggadhaaphmcaaDoorZv
import Derived.StillTailTactics
namespace Go.Proofs.YtbggadhaaphmcaaDoor
open Go.Lib Go.RowKit Go.Maps Go.WideMaps
set_option linter.unusedVariables false

set_option maxRecDepth 100000 in
theorem DMap.look {w : World} {b n : Nat} {D : DataW Unit} {f : Int → ByteArray → Int} (h : DMap w b n D f) {x : Int} {y : ByteArray} {kl : Lit} (hk : keyOf Tryd.prog 133 (placeK x y) = some kl) :
    (Instr.lookup 117 (.map (some b)) (placeK x y) false).run Tryd.prog w = .ok (.int .i64 (f x y)) w := by
  obtain ⟨c, hrun, hat, _⟩ := h.1.lookup_int law133 Tryd.underlying117 Tryd.underlying3 (zero3_ w) hk
  rw [hrun, h.at_ hk hat]
/-- A search, as it stands: what it looks at, and the map of the dead. -/
structure FS (w0 w : World) (sb db n c : Nat) (A : Option Addr) (l : Hist) (mm : Nat) (F : Int → ByteArray → Int) : Prop where
  sr : SrB w sb A n c (.map (some db)) l
  dm : ∃ D, DMap w db mm D F
  ok : DeadOK l F
  below : Below w0.heap.size w0 w
  dB : w0.heap.size ≤ db
section
variable {w0 w w' : World} {sb db n c mm mm' : Nat} {A : Option Addr} {l : Hist} {F F' : Int → ByteArray → Int}
theorem FS.new_ (h : FS w0 w sb db n c A l mm F) (hc : NewW w w') : FS w0 w' sb db n c A l mm F := by
  obtain ⟨D, hd⟩ := h.dm
  exact ⟨h.sr.new_ hc, ⟨D, hd.ch hc (fun h => h)⟩, h.ok, Ch.below h.below hc (fun _ h => h.elim) h.below.size, h.dB⟩
theorem FS.obj (h : FS w0 w sb db n c A l mm F) : ∃ es cl, w.heap[db]? = some (.map es cl) := by
  obtain ⟨D, hd⟩ := h.dm
  exact hd.obj
end
def FromP (w0 w : World) (sb db n c : Nat) (A : Option Addr) (l : Hist) (mm cnt : Nat) (out : Option (List Nat)) (e : Ending) (w' : World) : Prop :=
  (∃ (A' : Option Addr) (c' : Nat), e = .returned (.tuple #[.slice A' (out.getD []).length c', .bool out.isSome]) ∧ Nums w' A' (out.getD []).length (natL (out.getD []))) ∧
  ∃ (mm' : Nat) (F' : Int → ByteArray → Int), mm' ≤ mm + cnt ∧ FS w0 w' sb db n c A l mm' F' ∧ Ch (fun g => g = db) w w'
set_option maxRecDepth 100000 in
set_option maxHeartbeats 4000000 in
theorem from_all {w0 w : World} {sb db n c mm m q r : Nat} {A B : Option Addr} {l : Hist} {F : Int → ByteArray → Int} {ps : List Nat} (h : FS w0 w sb db n c A l mm F) (hlow : Low n ps) (ha : allB l ps = true) (cnt : Nat) (f : Has) :
    Calls Tryd.prog 69 #[.pointer (some ⟨sb, 0, none⟩), .int .u64 (maskN ps), .slice B m q] w (FromP w0 w sb db n c A l mm cnt (findS l r ps f)) := by
  rw [find_all ha]
  have HA := Lib.hid (all_walk h.sr hlow)
  rw [ha] at HA
  have H := Lib.hid h
  obtain ⟨M, hM⟩ : ∃ M, maskN ps = M := ⟨_, rfl⟩
  rw [hM] at HA ⊢
  clear h ha hM
  go_enter Tryd.func69, Tryd.ntmps69
  go_wp2_with fail
  refine HA.out.mono ?_
  rintro e w1 ⟨rfl, hN⟩
  dsimp only
  have HN := Lib.hid hN
  clear hN HA
  go_wp2_with fail
  go_ret2
  exact ⟨⟨none, 0, rfl, rfl, fun h => absurd rfl h⟩, mm, F, by omega, H.out.new_ HN.out, (HN.out : Ch (fun _ => False) w w1).mono fun _ h => h.elim⟩
theorem int_info3 : (Tryd.prog.info? 3).map (fun i => (i.zero, i.size, i.bytes)) = some (some (.int .i64 0), 1, 8) := by kernel_rfl
theorem reads_rd {w : World} {A : Option Addr} {n : Nat} {xs : List Value} (hl : xs.length = n) (h : Rd w A xs) : Reads w w.heap.size 1 A n xs := by
  refine ⟨by omega, fun hn => ?_⟩
  obtain ⟨b, off, hA, hb, hc⟩ := h (fun e => by rw [e] at hl; simp at hl; omega)
  exact ⟨⟨b, off, none⟩, hA, hb, fun j u hu => by rw [add_mk]; exact hc j u hu⟩
theorem own_one (w : World) (v : Value) : (w.alloc (.cells #[v] 3)).ownsRow w.heap.size 3 1 (.slice (some ⟨w.heap.size, 0, none⟩) 1 1) 1 [v] :=
  ⟨rfl, .inr ⟨w.heap.size, 1, #[v], rfl, Nat.le_refl _, heap_alloc_new w _, Nat.le_refl _, by unfold maxLen; omega, rfl, rfl⟩⟩
theorem find_short {l : Hist} : ∀ (r : Nat) {ps : List Nat} {f : Has} {out : List Nat}, findS l r ps f = some out → out.length ≤ r
  | 0, ps, f, out, h => by
    rw [findS] at h
    split at h
    · injection h with h; subst h; simp
    · cases h
  | r + 1, ps, f, out, h => by
    rw [findS] at h
    split at h
    · injection h with h; subst h; simp
    · obtain ⟨i, _, hx⟩ := List.exists_of_findSome?_eq_some h
      split at hx
      · rcases hr : findS l r (ps ++ [i]) (runF f (l.get i).plan) with _ | r'
        · rw [hr] at hx; cases hx
        · rw [hr] at hx
          simp only [Option.map_some, Option.some.injEq] at hx
          subst hx
          have := find_short r hr
          simp; omega
      · cases hx
theorem find_len {l : Hist} {r : Nat} {ps : List Nat} {f : Has} {k : Nat} {R : List Nat} (h : tryS l r ps f k = some (k :: R)) : R.length ≤ r := by
  unfold tryS at h
  split at h
  · rcases hr : findS l r (ps ++ [k]) (runF f (l.get k).plan) with _ | r'
    · rw [hr] at h; cases h
    · rw [hr] at h
      simp only [Option.map_some, Option.some.injEq, List.cons.injEq, true_and] at h
      subst h
      exact find_short r hr
  · cases h
/-- The search from each place at which r are still to be placed. -/
def FromIH (w0 : World) (sb db n c : Nat) (A : Option Addr) (l : Hist) (r P : Nat) : Prop :=
  ∀ (w : World) (ps : List Nat) (L : Wl) (f : Has) (B : Option Addr) (m q mm : Nat) (F : Int → ByteArray → Int), n - ps.length = r → FS w0 w sb db n c A l mm F → ps.Nodup → Low n ps → Wrs w B m L → SortedW L f → FitF f → m ≤ 16 * ps.length → mm + P ≤ 200000000 →
    Calls Tryd.prog 69 #[.pointer (some ⟨sb, 0, none⟩), .int .u64 (maskN ps), .slice B m q] w (FromP w0 w sb db n c A l mm P (findS l r ps f))
set_option maxRecDepth 100000 in
set_option maxHeartbeats 8000000 in
theorem from_step {w0 : World} (hE : Env w0) {sb db n c : Nat} {A : Option Addr} {l : Hist} (hr : ∀ d ∈ l, d.res.length ≤ 1000) (r P : Nat)
    (ih : FromIH w0 sb db n c A l r P)
    {w : World} {ps : List Nat} {L : Wl} {f : Has} {B : Option Addr} {m q mm : Nat} {F : Int → ByteArray → Int} (hps : n - ps.length = r + 1) (h : FS w0 w sb db n c A l mm F) (hnd : ps.Nodup) (hlow : Low n ps) (hL : Wrs w B m L) (hS : SortedW L f) (hF : FitF f)
    (hm : m ≤ 16 * ps.length) (hmm : mm + P * 10 ≤ 200000000) (hP : 1 ≤ P) (ha : allB l ps = false) :
    Calls Tryd.prog 69 #[.pointer (some ⟨sb, 0, none⟩), .int .u64 (maskN ps), .slice B m q] w (FromP w0 w sb db n c A l mm (P * 10) (findS l (r + 1) ps f)) := by
  have HLN := Lib.hid h.sr.dd.1
  have hn8 := h.sr.few
  have hpl : ps.length ≤ 8 := by omega
  have H := Lib.hid h
  have HE := Lib.hid hE
  have HW := Lib.hid hL
  have HS := Lib.hid hS
  have HF := Lib.hid hF
  have HND := Lib.hid hnd
  have HLOW := Lib.hid hlow
  have HAF := Lib.hid ha
  have HRES := Lib.hid hr
  have HIH := Lib.hid ih
  have HAL := Lib.hid (all_walk h.sr hlow)
  rw [ha] at HAL
  have HTX := Lib.hid (fun w' (hc : NewW w w') => text_any (c := q) (hL.new_ hc) (hF.row hS) (by omega))
  have htl : (textL L).length ≤ 514 * m := by
    have := textL_len (hF.row hS).low
    rwa [hL.1] at this
  obtain ⟨T, hT⟩ : ∃ T, txtL L = T := ⟨_, rfl⟩
  have HT := Lib.hid hT
  have hTs : T.size ≤ maxLen := by rw [← hT, txtL_size]; unfold maxLen; omega
  have HTX := Lib.hid (show ∀ w', NewW w w' → Calls Tryd.prog 81 #[.slice B m q] w' fun e w'' => e = .returned (.string T) ∧ NewW w' w'' from by rw [← hT]; exact HTX.out)
  have hMlt := mask_lt (hlow.lt hn8)
  obtain ⟨kl, hkl⟩ := place_of (maskN ps) T (by
    have : (0 : Int) ≤ (maskN ps : Int) := by omega
    exact WalkArith.wf_u64 (by omega)) hTs
  have HKL := Lib.hid hkl
  obtain ⟨M, hM⟩ : ∃ M, maskN ps = M := ⟨_, rfl⟩
  have HMM := Lib.hid hM
  rw [hM] at HAL HKL ⊢
  obtain ⟨OUT, hOUT⟩ : ∃ OUT, findS l (r + 1) ps f = OUT := ⟨_, rfl⟩
  have HOUT := Lib.hid hOUT
  rw [hOUT]
  clear hOUT
  have hMI : (M : Int) < 18446744073709551616 := by omega
  clear h hE hL hS hF hnd hlow ha hr ih hT hkl hM hMlt htl
  go_enter Tryd.func69, Tryd.ntmps69
  go_wp2_with fail
  refine HAL.out.mono ?_
  rintro e w1 ⟨rfl, hN⟩
  dsimp only
  have HN1 := Lib.hid (show NewW w w1 from hN)
  clear hN HAL
  go_wp2_with fail
  refine (HTX.out _ HN1.out).mono ?_
  rintro e w2 ⟨rfl, hN⟩
  dsimp only
  have HN2 := Lib.hid (HN1.out.trans' hN)
  have HN3 := Lib.hid (HN2.out.alloc (.cells #[.int .u64 M, .string T] 133))
  have HAB := Lib.hid (Blk.new w2 133 #[.int .u64 M, .string T])
  have H3 := Lib.hid (H.out.new_ HN3.out)
  have c0 := (H.out.new_ HN2.out).sr.blk.cell 0
  have c1 := (H.out.new_ HN2.out).sr.blk.cell 1
  have cl := (H.out.new_ HN2.out).sr.blk.lt
  obtain ⟨D, hD⟩ := H3.out.dm
  have HD := Lib.hid hD
  have hlk : ∀ k, (Instr.lookup 117 (.map (some db)) (.agg #[.int .u64 M, .string T]) false).run Tryd.prog ((w2.alloc (.cells #[.int .u64 M, .string T] 133)).drewN k) = .ok (.int .i64 (F M T)) ((w2.alloc (.cells #[.int .u64 M, .string T] 133)).drewN k) :=
    fun k => DMap.look (hD.ch ((Ch.refl (fun _ => False) _).drewN k) (fun h => h)) HKL.out
  obtain ⟨X, hX⟩ : ∃ X, F M T = X := ⟨_, rfl⟩
  have HX := Lib.hid hX
  rw [hX] at hlk
  rcases (show X = 0 ∨ X = 1 from by rw [← hX]; exact H3.out.ok.bit _ _) with e0 | e1
  · subst e0
    clear hN HTX HN1 hD hX
    go_wp2_with fail
    go_quiet (fail)
    obtain ⟨ab, hab⟩ : ∃ ab, w2.heap.size = ab := ⟨_, rfl⟩
    rw [hab] at HAB
    try simp only [hab]
    have H4 := Lib.hid (H3.out.new_ ((Ch.refl _ _).drewN nq))
    have HN4 := Lib.hid (show NewW w ((w2.alloc (.cells #[.int .u64 M, .string T] 133)).drewN nq) from HN3.out.drewN nq)
    have HAB4 := Lib.hid (show Blk ((w2.alloc (.cells #[.int .u64 M, .string T] 133)).drewN nq) ab 133 #[.int .u64 M, .string T] from HAB.out.drewN nq)
    generalize (w2.alloc (.cells #[.int .u64 M, .string T] 133)).drewN nq = w4 at *
    have c0 := H4.out.sr.blk.cell 0
    obtain ⟨es, clk, hobj⟩ := H4.out.obj
    have HOBJ := Lib.hid hobj
    have HL4 := Lib.hid (HW.out.new_ HN4.out)
    have HNAB := Lib.hid (show ab ≠ db from by
      rintro rfl
      have := HAB4.out
      unfold Blk at this
      rw [hobj] at this
      cases this)
    clear hlk HAB hab H3 HD HX HN3 HN2 c1 cl hobj
    go_wp2_with fail
    go_loopw [33] (fun i wr => ∃ (k mk : Nat) (G : Int → ByteArray → Int), k ≤ n ∧ i = .int .i64 k ∧ (∀ j, j < k → tryS l r ps f j = none) ∧ FS w0 wr sb db n c A l mk G ∧ mk ≤ mm + k * P ∧ Ch (fun g => g = db) w4 wr) (fun i _ => n - (intOf i).toNat)
    case atStart => exact ⟨0, mm, F, by omega, rfl, fun j hj => absurd hj (by omega), H4.out, by omega, Ch.refl _ _⟩
    case round =>
      obtain ⟨k, mk, G, hk, rfl, hno, hFS, hmk, hC⟩ := hrel
      have HNO := Lib.hid hno
      have HFS := Lib.hid hFS
      have HC := Lib.hid hC
      have HMK := Lib.hid hmk
      clear hno hFS hC hmk
      by_cases hlt : k < n
      · have HMY := Lib.hid (may_walk HFS.out.sr HLOW.out hlt)
        rw [HMM.out] at HMY
        have HNX := Lib.hid (fun (h : tryS l r ps f k = none) => (show ∀ j, j < k + 1 → tryS l r ps f j = none from fun j hj => by
          rcases Nat.lt_or_ge j k with h1 | h1
          · exact HNO.out j h1
          · rw [show j = k by omega]; exact h))
        have hkP : (k + 1) * P = k * P + P := by rw [Nat.add_mul, Nat.one_mul]
        have HKP := Lib.hid hkP
        clear hkP
        rcases Bool.eq_false_or_eq_true (mayB l ps k) with hmay | hmay
        · have HMAY := Lib.hid hmay
          rw [hmay] at HMY
          clear hmay
          go_wp2_with fail
          refine HMY.out.mono ?_
          rintro e w5 ⟨rfl, hN⟩
          dsimp only
          have HF5 := Lib.hid (HFS.out.new_ hN)
          have HC5 := Lib.hid (HC.out.trans' ((hN : Ch (fun _ => False) wr w5).mono fun _ h => h.elim))
          have HW5 := Lib.hid (Wrs.db HOBJ.out HC5.out HL4.out)
          have HAF5 := Lib.hid (after_any (q := q) HF5.out.sr HW5.out HS.out HF.out (by omega) (HE.out.below HF5.out.below) hlt HRES.out)
          clear hN HMY
          go_wp2_with fail
          refine HAF5.out.mono ?_
          rintro e w6 ⟨A6, c6, M6, rfl, hW6, hS6, hl6, hN6⟩
          dsimp only
          have HF6 := Lib.hid (HF5.out.new_ hN6)
          have HC6 := Lib.hid (HC5.out.trans' ((hN6 : Ch (fun _ => False) w5 w6).mono fun _ h => h.elim))
          have HW6 := Lib.hid hW6
          have HS6 := Lib.hid hS6
          have HL6 := Lib.hid hl6
          clear hW6 hS6 hl6 hN6 HAF5 HF5 HC5 HW5 HFS
          rcases Bool.eq_false_or_eq_true (tellB (l.get k) f) with htell | htell
          · have HTELL := Lib.hid htell
            rw [htell]
            have hk64 : k < 64 := by omega
            have hor := mask_or (ps := ps) (HLOW.out.lt hn8) hk64
            rw [HMM.out] at hor
            have HOR := Lib.hid hor
            have hnd2 : (ps ++ [k]).Nodup := by
              rw [List.nodup_append]
              exact ⟨HND.out, by simp, fun a ha b hb => by simp only [List.mem_singleton] at hb; subst hb; exact fun e => (may_iff.1 HMAY.out).2 (e ▸ ha)⟩
            have hlow2 : Low n (ps ++ [k]) := fun x hx => by
              rcases List.mem_append.1 hx with hx | hx
              · exact HLOW.out x hx
              · simp only [List.mem_singleton] at hx
                subst hx; exact hlt
            have HRC := Lib.hid (HIH.out w6 (ps ++ [k]) M6 (runF f (l.get k).plan) A6 M6.length c6 mk G (by rw [List.length_append, List.length_singleton]; omega) HF6.out hnd2 hlow2 HW6.out HS6.out (HF.out.run _) (by rw [List.length_append, List.length_singleton]; have := HL6.out; omega) (by
              have h1 := HMK.out
              have h2 := Nat.mul_le_mul_right P (show k ≤ 7 by omega)
              omega))
            obtain ⟨MK, hMK⟩ : ∃ MK, maskN (ps ++ [k]) = MK := ⟨_, rfl⟩
            rw [hMK] at HRC hor
            obtain ⟨O2, hO2⟩ : ∃ O2, findS l r (ps ++ [k]) (runF f (l.get k).plan) = O2 := ⟨_, rfl⟩
            have HO2 := Lib.hid (show tryS l r ps f k = O2.map (k :: ·) from by unfold tryS; rw [HMAY.out, HTELL.out, hO2]; rfl)
            rw [hO2] at HRC
            clear hnd2 hlow2 hMK hO2 HOR htell
            go_wp2_with fail
            refine HRC.out.mono ?_
            rintro e w7 ⟨⟨A7, c7, rfl, hnum⟩, m7, G7, hm7, hF7, hC7⟩
            dsimp only
            have HNUM := Lib.hid hnum
            have HF7 := Lib.hid hF7
            have HM7 := Lib.hid hm7
            have HC7 := Lib.hid (HC6.out.trans' hC7)
            clear hnum hF7 hm7 hC7 HRC
            rcases O2 with _ | R
            · dsimp only [Option.getD_none, Option.isSome_none, List.length_nil]
              have HNX2 := Lib.hid (HNX.out (by rw [HO2.out]; rfl))
              clear hor
              go_wp2_with fail
              exact ⟨⟨k + 1, m7, G7, by omega, by go_num, HNX2.out, HF7.out, by have := HM7.out; have := HMK.out; have := HKP.out; omega, HC7.out⟩, by simp [intOf]; omega⟩
            · dsimp only [Option.getD_some, Option.isSome_some] at HNUM ⊢
              obtain rfl : OUT = some (k :: R) := by
                rw [← HOUT.out]
                exact find_some HAF.out (by rw [HLN.out]; exact hlt) HNO.out (by rw [HO2.out]; rfl)
              obtain ⟨i1, hi1, hy0, hy1, hy2⟩ := info_parts int_info3
              have HRD := Lib.hid (show Reads (w7.alloc (.cells #[.int .i64 k] 3)) (w7.alloc (.cells #[.int .i64 k] 3)).heap.size 1 A7 R.length ((natL R).map (Value.int .i64)) from reads_rd (by simp [natL]) (HNUM.out.2.new_ ((Ch.refl _ _).alloc _)))
              have HOW := Lib.hid (own_one w7 (.int .i64 k))
              have hRl : R.length ≤ 1000000 := by
                have h1 := HNUM.out.2
                have := find_len (l := l) (show tryS l r ps f k = some (k :: R) from by rw [HO2.out]; rfl)
                omega
              have HON := Lib.hid (show ∀ u ∈ (natL R).map (Value.int .i64), u.oneCell' = true from fun u hu => by
                obtain ⟨x, _, rfl⟩ := List.mem_map.1 hu
                rfl)
              have HB1 := Lib.hid (show 1 + R.length ≤ maxLen from by unfold maxLen; omega)
              have HB2 := Lib.hid (show (1 + R.length) * 8 ≤ 140737488355328 from by omega)
              have HFIN := Lib.hid (fun (v8 : Value) (w8 : World) (ho : w8.ownsRow w7.heap.size 3 1 v8 (1 + R.length) ([.int .i64 k] ++ (natL R).map (Value.int .i64))) (hg : (w7.alloc (.cells #[.int .i64 k] 3)).grownBy w8 (Value.slice (some ⟨w7.heap.size, 0, none⟩) 1 1).ownBlock) =>
                (show FromP w0 w sb db n c A l mm (P * 10) (some (k :: R)) (.returned (.tuple #[v8, .bool true])) w8 from by
                  obtain ⟨A8, c8, rfl⟩ := own_form ho
                  have hcn : Ch (fun _ => False) w7 w8 := ((Ch.refl (fun _ => False) w7).alloc (.cells #[.int .i64 k] 3)).grown hg (fun g hg => .inr (by simp [Value.ownBlock] at hg; omega))
                  refine ⟨⟨A8, c8, by simp [Nat.add_comm], ?_⟩, m7, G7, ?_, HF7.out.new_ hcn, ?_⟩
                  · refine ⟨by simp [natL], ?_⟩
                    have h1 := Rd.own ho
                    exact h1
                  · have h1 := HM7.out
                    have h2 := HMK.out
                    have h3 := Nat.mul_le_mul_right P (show k ≤ 7 by omega)
                    omega
                  · exact ((HN4.out : Ch (fun _ => False) w w4).mono fun _ h => h.elim).trans' (HC7.out.trans' (hcn.mono fun _ h => h.elim))))
              clear hor
              go_wp2_with (first
                | (at_builtin
                   refine wpList_append_any _ rfl (.tmp 63) (.tmp 64) _ rfl w7.heap.size 3 i1 _ 1 8 Tryd.underlying58 hi1 hy0 hy1 hy2 rfl (by omega) _ 1 [.int .i64 k] rfl
                     HOW.out _ A7 R.length c7 _ rfl HRD.out HON.out HB1.out HB2.out (by simp) ?_
                   intro v8 w8 hown8 hg8 hat8
                   have HFF := Lib.hid (HFIN.out v8 w8 hown8 hg8)
                   clear hown8 hg8 hat8))
              go_ret2
              exact HFF.out
          · have HTELL := Lib.hid htell
            rw [htell]
            have HNX2 := Lib.hid (HNX.out (by unfold tryS; rw [HMAY.out, HTELL.out]; rfl))
            clear htell
            go_wp2_with fail
            exact ⟨⟨k + 1, mk, G, by omega, by go_num, HNX2.out, HF6.out, by have := HMK.out; have := HKP.out; omega, HC6.out⟩, by simp [intOf]; omega⟩
        · rw [hmay] at HMY
          have HNX2 := Lib.hid (HNX.out (by unfold tryS; rw [hmay]; rfl))
          clear hmay
          go_wp2_with fail
          refine HMY.out.mono ?_
          rintro e w5 ⟨rfl, hN⟩
          dsimp only
          have HF5 := Lib.hid (HFS.out.new_ hN)
          have HC5 := Lib.hid (HC.out.trans' ((hN : Ch (fun _ => False) wr w5).mono fun _ h => h.elim))
          clear hN
          go_wp2_with fail
          exact ⟨⟨k + 1, mk, G, by omega, by go_num, HNX2.out, HF5.out, by have := HMK.out; have := HKP.out; omega, HC5.out⟩, by simp [intOf]; omega⟩
      · obtain rfl : n = k := by omega
        have hnone : findS l (r + 1) ps f = none := find_none HAF.out (fun i hi => HNO.out i (by rw [← HLN.out]; exact hi))
        have HNONE := Lib.hid hnone
        obtain rfl : OUT = none := by rw [← HOUT.out]; exact hnone
        obtain ⟨D5, hD5⟩ := HFS.out.dm
        have HD5 := Lib.hid hD5
        have s1 := HFS.out.sr.blk.cell 1
        have hab5 := HAB4.out.ch HC.out (fun e => HNAB.out e)
        have a0 := hab5.cell 0
        have a1 := hab5.cell 1
        have sl := HFS.out.sr.blk.lt
        have al := hab5.lt
        have hmk5 : mk < maxLen := by
          have h1 := HMK.out
          have h3 := Nat.mul_le_mul_right P (show n ≤ 8 by omega)
          unfold maxLen
          omega
        have HMK5 := Lib.hid hmk5
        have HKO := Lib.hid (show mk + 1 ≤ mm + P * 10 from by
          have h1 := HMK.out
          have h3 := Nat.mul_le_mul_right P (show n ≤ 8 by omega)
          omega)
        clear hnone hD5 hab5 hmk5 hlt
        go_upto_region 16 with (fail)
        go_still_tail 5, (by kernel_rfl)
        change wpList _ _ _ _ _ wr.drew
        go_wp2_with (first
          | (at_mapUpdate
             refine wpList_mapUpdate_own _ rfl (.tmp 70) (.tmp 71) _ 117 rfl 133 3 law133 Tryd.underlying117 _ db mk _ rfl (HD5.out.ch ((Ch.refl (fun _ => False) wr).drew) (fun h => h)).1 HMK5.out _ _ _ rfl rfl HKL.out _ [] (plainElem_int Tryd.underlying3 (by decide)) ?_
             intro w8 hown8 hg8
             have HO8 := Lib.hid hown8
             have HG8 := Lib.hid hg8
             clear hown8 hg8))
        go_ret2
        have hch : Ch (fun g => g = db) wr w8 := ((Ch.refl (fun g => g = db) wr).drew).grown HG8.out (fun g hg => .inl (by simpa using hg.symm))
        obtain ⟨es5, cl5, hobj5⟩ := HD5.out.obj
        refine ⟨⟨none, 0, rfl, rfl, fun h => absurd rfl h⟩, mk + 1, _, HKO.out, ⟨HFS.out.sr.db hobj5 hch, ⟨_, (HD5.out.ch ((Ch.refl (fun _ => False) wr).drew) (fun h => h)).put HKL.out HO8.out⟩, ?_, Ch.below HFS.out.below hch (fun g e => by rw [e]; exact HFS.out.dB) HFS.out.below.size, HFS.out.dB⟩, ?_⟩
        · rw [← HMM.out, ← HT.out]
          exact HFS.out.ok.put HND.out HS.out HF.out (by rw [HLN.out, hps]; exact HNONE.out)
        · exact ((HN4.out : Ch (fun _ => False) w w4).mono fun _ h => h.elim).trans' (HC.out.trans' hch)
  · subst e1
    clear hN HTX HN1 hD hX
    go_wp2_with fail
    go_quiet (fail)
    have HNO := Lib.hid (show findS l (r + 1) ps f = none from by
      have h1 := H3.out.ok.dead ps L f HND.out (by rw [HLN.out]; exact HLOW.out) HS.out HF.out (by rw [HT.out, HMM.out]; exact HX.out)
      rwa [HLN.out, hps] at h1)
    obtain rfl : OUT = none := by rw [← HOUT.out, HNO.out]
    clear hlk
    go_wp2_with fail
    go_ret2
    exact ⟨⟨none, 0, rfl, rfl, fun h => absurd rfl h⟩, mm, F, by omega, (H3.out.new_ ((Ch.refl _ _).drewN nq)), (show NewW w _ from HN3.out.drewN nq).mono fun _ h => h.elim⟩
end Go.Proofs.YtbggadhaaphmcaaDoor
