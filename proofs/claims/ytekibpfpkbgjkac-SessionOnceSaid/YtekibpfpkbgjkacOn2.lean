/- The walk of SessionOnce. -/
import Derived.Test.YtekibpfpkbgjkacOn
import Derived.Deep.DeepCutAuto
namespace Go.Proofs.Ytekibpfpkbgjkac
open Go.RowKit Go.Maps
set_option linter.unusedVariables false

/-- The book and the two maps. -/
def OR (w0 wr : World) (b mk mf : Nat) (win sum : Int) (L : List PS) (v : Value) (m : Nat) (Dk Df : DataW Unit) (fk ff : Int → Int → Int) : Prop :=
  PBook wr w0.heap.size b win sum L v ∧ KMap wr mk m Dk fk ∧ KMap wr mf m Df ff ∧ mk ≠ mf ∧ Below w0.heap.size w0 wr ∧ w0.heap.size ≤ b ∧ w0.heap.size ≤ mk ∧ w0.heap.size ≤ mf
section
variable {w0 w w' : World} {b mk mf : Nat} {win sum : Int} {L : List PS} {v : Value} {m : Nat} {Dk Df : DataW Unit} {fk ff : Int → Int → Int}
theorem OR.ch (h : OR w0 w b mk mf win sum L v m Dk Df fk ff) (hc : Ch (fun _ => False) w w') : OR w0 w' b mk mf win sum L v m Dk Df fk ff := by
  obtain ⟨⟨p1, p2, p3⟩, h2, h3, h4, h5, h6, h7, h8⟩ := h
  exact ⟨⟨p1.ch hc (by simp), own_ch p2 hc (by simp), p3⟩, h2.ch hc (by simp), h3.ch hc (by simp), h4, Ch.below h5 hc (by simp) h5.size, h6, h7, h8⟩
/-- A box is no part of it. -/
theorem OR.box (h : OR w0 w b mk mf win sum L v m Dk Df fk ff) {g t : Nat} {cs : Array Value} (hg : Blk w g t cs) (h1 : t ≠ 52) (h2 : t ≠ 55) : ¬ (g = b ∨ v.ownBlock = some g) ∧ g ≠ mk ∧ g ≠ mf := by
  refine ⟨?_, fun e => map_blk_ne h.2.1.1 hg e.symm, fun e => map_blk_ne h.2.2.1.1 hg e.symm⟩
  rintro (e | e)
  · exact hg.ne_ h.1.1 h1 e
  · exact own_blk_ne h.1.2.1 hg (fun e => h2 e.symm) e
theorem OR.do_ {K i seq amount : Int} (h : OR w0 w b mk mf win sum L v m Dk Df fk ff) (hF : Fine win sum L K) :
    Calls Try.prog 14 #[.pointer (some ⟨b, 0, none⟩), .int .i64 i, .int .i64 seq, .int .i64 amount] w fun e' w' =>
      e' = .returned (.tuple #[.int .i64 (doR win sum L i seq amount).x, .int .i64 (doR win sum L i seq amount).e]) ∧
      ∃ v', OR w0 w' b mk mf win (doR win sum L i seq amount).sum (doR win sum L i seq amount).L v' m Dk Df fk ff ∧ Ch (fun k => k = b ∨ v.ownBlock = some k) w w' := by
  obtain ⟨h1, h2, h3, h4, h5, h6, h7, h8⟩ := h
  refine (do_any w0.heap.size b win sum L v w K i seq amount h1 hF).mono ?_
  rintro e' w' ⟨p1, v', p2, c, f⟩
  refine ⟨p1, v', ⟨p2, h2.ch c ?_, h3.ch c ?_, h4, Ch.below h5 c ?_ h5.size, h6, h7, h8⟩, c⟩
  · rintro (e | e)
    · exact map_blk_ne h2.1 h1.1 e
    · exact own_map_ne h2.1 h1.2.1 e
  · rintro (e | e)
    · exact map_blk_ne h3.1 h1.1 e
    · exact own_map_ne h3.1 h1.2.1 e
  · rintro k (rfl | hk)
    · exact h6
    · exact (h1.2.1.lt k hk).1
theorem OR.kept (h : OR w0 w b mk mf win sum L v m Dk Df fk ff) : Kept w0 b win sum L w := ⟨v, h.1, h.2.2.2.2.1, h.2.2.2.2.2.1⟩
end

theorem KMap.drewN {w : World} {b n : Nat} {D : DataW Unit} {f : Int → Int → Int} (h : KMap w b n D f) (k : Nat) : KMap (w.drewN k) b n D f := h
theorem kmap_look {w : World} {b n : Nat} {D : DataW Unit} {f : Int → Int → Int} (h : KMap w b n D f) {S Q c : Int} {kl : Lit} (hk : keyOf Try.prog 46 (pairKey S Q) = some kl) (hf : f S Q = c) :
    (Instr.lookup 44 (.map (some b)) (.agg #[.int .i64 S, .int .i64 Q]) false).run Try.prog w = .ok (.int .i64 c) w := by
  obtain ⟨c', hrun, hat, _⟩ := h.1.lookup_int law46 Try.underlying44 Try.underlying3 (zero3 _) hk
  have := h.at_ hk hat
  rw [hf] at this
  subst this
  exact hrun
theorem nextR_bd {window sum : Int} {L : List PS} {K : Int} (h : Fine window sum L K) (i : Int) : 0 ≤ nextR L i ∧ nextR L i ≤ 1001 := by
  unfold nextR
  split
  · omega
  · split
    · omega
    · rename_i s hs
      have := h.next s (mem_of_some hs)
      have := h.k
      omega

theorem OR.put_k {w0 w w' : World} {b mk mf : Nat} {win sum : Int} {L : List PS} {v : Value} {m : Nat} {Dk Df : DataW Unit} {fk ff : Int → Int → Int} {S Q x : Int} {kl : Lit} (h : OR w0 w b mk mf win sum L v m Dk Df fk ff)
    (hk : keyOf Try.prog 46 (pairKey S Q) = some kl) (hown : w'.ownsMap Try.prog 46 (plainElem Try.prog 3) mk (m + 1) (Dk.put kl (.lit (.int .i64 x)))) (hg : w.grownBy w' (some mk)) :
    OR w0 w' b mk mf win sum L v (m + 1) (Dk.put kl (.lit (.int .i64 x))) Df (fun x' y' => if x' = S ∧ y' = Q then x else fk x' y') ff := by
  obtain ⟨h1, h2, h3, h4, h5, h6, h7, h8⟩ := h
  have c := Ch.of_grown hg
  refine ⟨⟨h1.1.ch c ?_, own_ch h1.2.1 c ?_, h1.2.2⟩, h2.put hk hown, (h3.ch c ?_).mono (by omega), h4, Ch.below h5 c ?_ h5.size, h6, h7, h8⟩
  · intro e; injection e with e; exact map_blk_ne h2.1 h1.1 e
  · intro k hk e; exact own_map_ne h2.1 h1.2.1 (hk.trans e.symm)
  · intro e; injection e with e; exact h4 e
  · intro k e; injection e with e; omega
theorem OR.put_f {w0 w w' : World} {b mk mf : Nat} {win sum : Int} {L : List PS} {v : Value} {m : Nat} {Dk Df : DataW Unit} {fk ff : Int → Int → Int} {S Q x : Int} {kl : Lit} (h : OR w0 w b mk mf win sum L v m Dk Df fk ff)
    (hk : keyOf Try.prog 46 (pairKey S Q) = some kl) (hown : w'.ownsMap Try.prog 46 (plainElem Try.prog 3) mf (m + 1) (Df.put kl (.lit (.int .i64 x)))) (hg : w.grownBy w' (some mf)) :
    OR w0 w' b mk mf win sum L v (m + 1) Dk (Df.put kl (.lit (.int .i64 x))) fk (fun x' y' => if x' = S ∧ y' = Q then x else ff x' y') := by
  obtain ⟨h1, h2, h3, h4, h5, h6, h7, h8⟩ := h
  have c := Ch.of_grown hg
  refine ⟨⟨h1.1.ch c ?_, own_ch h1.2.1 c ?_, h1.2.2⟩, (h2.ch c ?_).mono (by omega), h3.put hk hown, h4, Ch.below h5 c ?_ h5.size, h6, h7, h8⟩
  · intro e; injection e with e; exact map_blk_ne h3.1 h1.1 e
  · intro k hk e; exact own_map_ne h3.1 h1.2.1 (hk.trans e.symm)
  · intro e; injection e with e; exact h4 e.symm
  · intro k e; injection e with e; omega

def OnR (w wr : World) (b mk mf : Nat) (win sum : Int) (k : Nat) : Prop :=
  ∃ (L : List PS) (v : Value) (Dk Df : DataW Unit) (fk ff : Int → Int → Int), OR w wr b mk mf win sum L v (2 * k) Dk Df fk ff ∧ Fine win sum L k ∧ Law win sum L fk ff

theorem OR.mono {w0 w : World} {b mk mf : Nat} {win sum : Int} {L : List PS} {v : Value} {m m' : Nat} {Dk Df : DataW Unit} {fk ff : Int → Int → Int} (h : OR w0 w b mk mf win sum L v m Dk Df fk ff) (hm : m ≤ m') : OR w0 w b mk mf win sum L v m' Dk Df fk ff :=
  ⟨h.1, h.2.1.mono hm, h.2.2.1.mono hm, h.2.2.2⟩

set_option maxRecDepth 100000 in
set_option maxHeartbeats 8000000 in
theorem once_walk (a c : Int) (A : Option Addr) (n cc : Nat) (w : World) (ha0 : 0 ≤ a) (ha1 : a ≤ 255) (hc0 : 0 ≤ c) (hc1 : c ≤ 255) (hA : Acts w A n) :
    Calls Try.prog 4 #[.int .u8 a, .int .u8 c, .slice A n cc] w fun e w' => e = .returned (.bool true) ∧ Below w.heap.size w w' := by
  have hml : (n : Int) ≤ 9223372036854775807 := by have := hA.1; unfold maxLen at this; omega
  have HA := Lib.hid hA; clear hA
  have hmm := @run_makeMap Try.prog
  by_cases hn : n ≤ 100
  · obtain ⟨win, hwin⟩ : ∃ win, 1 + a % 64 = win := ⟨_, rfl⟩
    have w0 : 1 ≤ win := by omega
    have w1 : win ≤ 64 := by omega
    obtain ⟨S0, hS0⟩ : ∃ S0 : Nat, c % 10 = (S0 : Int) := ⟨(c % 10).toNat, by omega⟩
    have hS1 : S0 ≤ 9 := by omega
    go_enter Try.func4, Try.ntmps4
    go_wp2_with fail
    with_reducible refine (fixed_true _).mono ?_
    rintro e W1 ⟨rfl, b1⟩
    go_wp2_with fail
    with_reducible refine (new_in win w0 w1 _).mono ?_
    rintro e W2 ⟨rfl, hW2⟩
    have ka : Kept w W1.heap.size win 0 (List.replicate 0 fresh) W2 := ⟨_, by rw [hW2]; exact ⟨Blk.new _ _ _, World.ownsRow_nil _ _ _ _, by simp⟩, by rw [hW2]; exact b1.alloc b1.size _, b1.size⟩
    clear hW2 b1
    generalize W1.heap.size = b at *
    go_wp2_with fail
    rw [hS0]
    clear hS0
    go_loopw [30] (fun i wr => ∃ k : Nat, k ≤ S0 ∧ i = .int .u8 k ∧ Kept w b win 0 (List.replicate k fresh) wr) (fun i _ => S0 - (intOf i).toNat)
    case atStart => exact ⟨0, Nat.zero_le _, rfl, ka⟩
    case round =>
      clear ka
      obtain ⟨k, hk, rfl, kt⟩ := hrel
      by_cases hlt : k < S0
      · go_wp2_with fail
        with_reducible refine (open_kept (by simp; omega) kt).mono ?_
        rintro e V1 ⟨rfl, k1⟩
        have k2 : Kept w b win 0 (List.replicate (k + 1) fresh) V1 := by rw [List.replicate_succ']; exact k1
        clear kt k1
        go_wp2_with fail
        go_roundw
        case rel => first | exact ⟨k + 1, by omega, by go_num, k2⟩ | ((repeat apply Exists.intro); (refine ⟨?_, rfl⟩); exact ⟨k + 1, by omega, by go_num, k2⟩)
        case measure => simp [intOf]; omega
      · have hkS : k = S0 := by omega
        subst hkS
        clear hlt hk
        obtain ⟨v, hp, hb, hB⟩ := kt
        have c1 : Ch (fun _ => False) wr (wr.alloc (.map #[] 0)) := (Ch.refl _ _).alloc _
        have c2 : Ch (fun _ => False) wr ((wr.alloc (.map #[] 0)).alloc (.map #[] 0)) := c1.alloc _
        have m1 : KMap ((wr.alloc (.map #[] 0)).alloc (.map #[] 0)) wr.heap.size 0 (.map []) (fun _ _ => 0) := (kmap_made wr).ch ((Ch.refl (fun _ => False) _).alloc _) (by simp)
        have m2 := kmap_made (wr.alloc (.map #[] 0))
        have e3 : (wr.alloc (.map #[] 0)).heap.size = wr.heap.size + 1 := by simp
        rw [e3] at m2
        have hor : OR w ((wr.alloc (.map #[] 0)).alloc (.map #[] 0)) b (wr.heap.size + 1) wr.heap.size win 0 (List.replicate k fresh) v 0 (.map []) (.map []) (fun _ _ => 0) (fun _ _ => 0) :=
          ⟨⟨hp.1.ch c2 (by simp), own_ch hp.2.1 c2 (by simp), hp.2.2⟩, m2, m1, by omega, Ch.below hb c2 (by simp) hb.size, hB, by have := hb.size; omega, hb.size⟩
        have hfr : ∀ s ∈ List.replicate k fresh, s = fresh := fun s hs => (List.mem_replicate.1 hs).2
        have hlaw : Law win 0 (List.replicate k fresh) (fun _ _ => 0) (fun _ _ => 0) := ⟨fun s hs => by rw [hfr s hs]; rfl, fun s hs => by rw [hfr s hs]; simp [fresh], fun i s hs q hq hlt => by rw [hfr s (mem_of_some hs)] at hlt; simp [fresh] at hlt; omega, fun i q h => absurd rfl h⟩
        have hfin : Fine win 0 (List.replicate k fresh) 0 := ⟨w0, w1, by simp; omega, fun s hs => by rw [hfr s hs]; simp [fresh], by omega, by omega, by omega⟩
        have HON : Hid (OnR w ((wr.alloc (.map #[] 0)).alloc (.map #[] 0)) b (wr.heap.size + 1) wr.heap.size win 0 0) := Lib.hid ⟨_, v, _, _, _, _, hor, hfin, hlaw⟩
        clear hor hlaw hfin hfr m1 m2 c1 c2 e3 hp
        go_wp2_with fail
        generalize (wr.alloc (.map #[] 0)).alloc (.map #[] 0) = W5 at *
        generalize wr.heap.size + 1 = mk at *
        generalize wr.heap.size = mf at *
        clear hb
        go_loopw [11, 39] (fun s i wr => ∃ (k : Nat) (sum : Int), k ≤ n ∧ i = .int .i64 k ∧ s = .int .i64 sum ∧ OnR w wr b mk mf win sum k) (fun _ i _ => n - (intOf i).toNat)
        case atStart => exact ⟨0, 0, Nat.zero_le _, rfl, rfl, HON.out⟩
        case round =>
          clear HON
          rename_i wr0 _ _ _
          obtain ⟨k, sum, hk, rfl, rfl, L, v, Dk, Df, fk, ff, hor, hfin, hlaw⟩ := hrel
          by_cases hlt : k < n
          · obtain ⟨_, hac⟩ := HA.out
            obtain ⟨b0, off, rfl, hblt, hc⟩ := hac (by omega)
            obtain ⟨KD, S, Q, M, hK0, hK1, wS, wQ, wM, a0, a1, a2, a3⟩ := hc k hlt
            have hbw := hor.2.2.2.2.1
            have k0 := (hbw.cell (p := ⟨b0, off + k * 4, none⟩) hblt).trans a0
            have k1 := (hbw.cell (p := ⟨b0, off + k * 4 + 1, none⟩) hblt).trans a1
            have k2 := (hbw.cell (p := ⟨b0, off + k * 4 + 2, none⟩) hblt).trans a2
            have k3 := (hbw.cell (p := ⟨b0, off + k * 4 + 3, none⟩) hblt).trans a3
            obtain ⟨kl, hkl⟩ := key_of S Q wS wQ
            have HKL := Lib.hid hkl; clear hkl
            have HQ := Lib.hid (bounds_i64 wQ)
            have HOR := Lib.hid hor; clear hor
            have HFI := Lib.hid hfin; clear hfin
            have HLA := Lib.hid hlaw; clear hlaw
            clear hac hc a0 a1 a2 a3 wS wQ wM hbw
            go_wp2_with fail
            have ha4 := Blk.new wr 31 #[.int .u8 KD, .int .i64 S, .int .i64 Q, .int .i64 M]
            have c4 : Ch (fun _ => False) wr ((wr.alloc (.cells #[.int .u8 KD, .int .i64 S, .int .i64 Q, .int .i64 M] 31)).alloc (.cells #[.int .i64 S, .int .i64 Q] 46)) := ((Ch.refl _ _).alloc _).alloc _
            have ha5 := ha4.alloc (.cells #[.int .i64 S, .int .i64 Q] 46)
            have hk5 := Blk.new (wr.alloc (.cells #[.int .u8 KD, .int .i64 S, .int .i64 Q, .int .i64 M] 31)) 46 #[.int .i64 S, .int .i64 Q]
            have e5 : (wr.alloc (.cells #[.int .u8 KD, .int .i64 S, .int .i64 Q, .int .i64 M] 31)).heap.size = wr.heap.size + 1 := by simp
            rw [e5] at hk5
            have HO5 := Lib.hid (HOR.out.ch c4)
            clear ha4 c4 e5 HOR k0 k1 k2 k3
            generalize (wr.alloc (.cells #[.int .u8 KD, .int .i64 S, .int .i64 Q, .int .i64 M] 31)).alloc (.cells #[.int .i64 S, .int .i64 Q] 46) = w5 at *
            generalize wr.heap.size + 1 = kb at *
            generalize wr.heap.size = ab at *
            obtain ⟨na1, na2, na3⟩ := HO5.out.box ha5 (by decide) (by decide)
            obtain ⟨nk1, nk2, nk3⟩ := HO5.out.box hk5 (by decide) (by decide)
            have hld := law_do (S := S) (Q := Q) (M := M) HLA.out HFI.out
            have HD := Lib.hid (OR.do_ (i := S) (seq := Q) (amount := M) HO5.out HFI.out)
            have hfd := fine_do HFI.out (by omega) S Q M
            generalize hRR : doR win sum L S Q M = R at *
            obtain ⟨rx, re, rsum, rL⟩ := R
            simp only at hld HD hfd
            have HLD := Lib.hid hld; clear hld
            have HFD := Lib.hid hfd; clear hfd
            clear hRR
            with_reducible refine HD.out.mono ?_
            rintro e w6 ⟨rfl, v6, hor6, c6⟩
            have ha6 := ha5.ch c6 na1
            have hk6 := hk5.ch c6 nk1
            clear HD HO5 ha5 hk5 na1 nk1 c6
            have d1 := ha6.cell 1
            have d2 := ha6.cell 2
            have d3 := ha6.cell 3
            have q0 := hk6.cell 0
            have q1 := hk6.cell 1
            simp at d1 d2 d3 q0 q1
            have HO6 := Lib.hid hor6; clear hor6
            rcases HLD.out with ⟨rfl, f1, ⟨f2, hQ3⟩, rfl, rfl⟩ | ⟨f0, f1, rfl, rfl⟩ | ⟨rfl, f1, f2, rfl, rfl⟩ | ⟨rfl, f1, f2, f3, f4, f5, f6, f7, f8, f9⟩
            · have HN := Lib.hid (fun n => next_kept (x := nextR rL S) rfl (HO6.out.kept.drewN n))
              have f3 : ¬ nextR rL S - Q ≤ win := by omega
              have hb0 := nextR_bd HFI.out S
              have hQ0 := HQ.out.1
              have hQ1 := HQ.out.2
              generalize nextR rL S = NX at *
              have hlk : ∀ n, (Instr.lookup 44 (.map (some mk)) (.agg #[.int .i64 S, .int .i64 Q]) false).run Try.prog (w6.drewN n) = .ok (.int .i64 1) (w6.drewN n) := fun n => kmap_look (HO6.out.2.1.drewN n) HKL.out f1
              go_wp2_with fail
              go_quiet ((first | (go_at_call 18; exact quiet_left (HN.out _))))
              go_wp2_with fail

              go_roundw
              case rel => exact ⟨k + 1, _, by omega, by go_num, rfl, rL, v6, Dk, Df, fk, ff, (HO6.out.ch ((Ch.refl _ _).drewN _)).mono (by omega), HFD.out, HLA.out⟩
              case measure => simp [intOf]; omega
            · have g9 : (re == 9) = false := by rw [beq_eq_false_iff_ne]; exact f0
              have g0 : (re != 0) = true := by rw [bne_iff_ne]; exact f1
              clear f0 f1
              go_wp2_with fail
              go_quiet (fail)
              go_wp2_with fail

              go_roundw
              case rel => exact ⟨k + 1, rsum, by omega, by go_num, rfl, rL, v6, Dk, Df, fk, ff, (HO6.out.ch ((Ch.refl _ _).drewN _)).mono (by omega), HFD.out, HLA.out⟩
              case measure => simp [intOf]; omega
            · have F1 := Lib.hid f1; clear f1
              have F2 := Lib.hid f2; clear f2
              go_wp2_with fail
              go_quiet (fail)
              go_wp2_with (first
                | (at_lookup
                   refine wpList_lookup_own_int _ rfl (.tmp 80) (.tmp 81) 44 rfl 46 3 .i64 law46 Try.underlying44 Try.underlying3 (zero3 _) mk (2 * k) _ rfl (HO6.out.2.1.drewN _).1 _ _ rfl HKL.out ?_
                   intro c1 hat hwc
                   have hcc := KMap.at_ HO6.out.2.1 HKL.out hat
                   rw [F1.out] at hcc
                   subst hcc
                   clear hat hwc)
                | (at_lookup
                   refine wpList_lookup_own_int _ rfl (.tmp 84) (.tmp 85) 44 rfl 46 3 .i64 law46 Try.underlying44 Try.underlying3 (zero3 _) mf (2 * k) _ rfl (HO6.out.2.2.1.drewN _).1 _ _ rfl HKL.out ?_
                   intro c2 hat hwc
                   have hcc := KMap.at_ HO6.out.2.2.1 HKL.out hat
                   rw [← F2.out] at hcc
                   subst hcc
                   clear hat hwc))

              go_roundw
              case rel => exact ⟨k + 1, rsum, by omega, by go_num, rfl, rL, v6, Dk, Df, fk, ff, (HO6.out.ch ((Ch.refl _ _).drewN _)).mono (by omega), HFD.out, HLA.out⟩
              case measure => simp [intOf]; omega
            · have F1 := Lib.hid f1; clear f1
              have F6 := Lib.hid f6; clear f6
              have F9 := Lib.hid f9; clear f9
              subst f2
              subst f3
              have hsm0 := HFI.out.sum0
              have hsm1 := HFI.out.sum1
              have HWF := Lib.hid (show (Lit.int .i64 (sum + M)).wf = true from WalkArith.wf_i64 (by omega))
              go_wp2_with fail
              go_quiet (fail)
              go_wp2_with (first
                | (at_lookup
                   refine wpList_lookup_own_int _ rfl (.tmp 80) (.tmp 81) 44 rfl 46 3 .i64 law46 Try.underlying44 Try.underlying3 (zero3 _) mk (2 * k) _ rfl (HO6.out.2.1.drewN _).1 _ _ rfl HKL.out ?_
                   intro c1 hat hwc
                   have hcc := KMap.at_ HO6.out.2.1 HKL.out hat
                   rw [F1.out] at hcc
                   subst hcc
                   clear hat hwc)
                | (at_mapUpdate
                   refine wpList_mapUpdate_own _ rfl (.tmp 89) (.tmp 90) _ 44 rfl 46 3 law46 Try.underlying44 _ mk (2 * k) _ rfl (HO6.out.2.1.drewN _).1 (by unfold maxLen; omega) _ _ _ rfl rfl HKL.out _ [] (plainElem_int Try.underlying3 (by decide)) ?_
                   intro w7 hown7 hg7
                   have HO7 := Lib.hid ((HO6.out.ch ((Ch.refl _ _).drewN _)).put_k HKL.out hown7 hg7)
                   have ha7 := (ha6.drewN _).grown hg7 (by simp; omega)
                   have hk7 := (hk6.drewN _).grown hg7 (by simp; omega)
                   have d2' := ha7.cell 2
                   have d3' := ha7.cell 3
                   have q0' := hk7.cell 0
                   have q1' := hk7.cell 1
                   simp at d2' d3' q0' q1'
                   clear hown7 hg7)
                | (at_mapUpdate
                   refine wpList_mapUpdate_own _ rfl (.tmp 95) (.tmp 96) _ 44 rfl 46 3 law46 Try.underlying44 _ mf (2 * k + 1) _ rfl HO7.out.2.2.1.1 (by unfold maxLen; omega) _ _ _ rfl rfl HKL.out _ [] (plainElem_int Try.underlying3 HWF.out) ?_
                   intro w8 hown8 hg8
                   have HO8 := Lib.hid (HO7.out.put_f HKL.out hown8 hg8)
                   have ha8 := ha7.grown hg8 (by simp; omega)
                   have d1'' := ha8.cell 1
                   have d2'' := ha8.cell 2
                   simp at d1'' d2''
                   clear hown8 hg8))
              have HN := Lib.hid (fun n => next_kept F6.out (HO8.out.kept.drewN n))
              have eQ : IntKind.i64.wrap (Q + 1) = Q + 1 := IntWalk.i64_in _ (by omega)
              clear ha6 hk6 ha7 hk7 ha8 d1 d2 d3 q0 q1 d2' d3' q0' q1'
              go_quiet ((first | (go_at_call 18; exact quiet_left (HN.out _))))
              go_wp2_with fail
              go_roundw
              case rel => exact ⟨k + 1, _, by omega, by go_num, rfl, rL, v6, _, _, _, _, (HO8.out.ch ((Ch.refl _ _).drewN _)).mono (by omega), HFD.out, F9.out⟩
              case measure => simp [intOf]; omega
          · go_wp2_with fail
            with_reducible refine (sum_kept hor.kept).mono ?_
            rintro e w' ⟨rfl, rfl⟩
            go_wp2_with fail
            go_ret
            exact ⟨rfl, hor.2.2.2.2.1⟩
  · have hn' : (100 : Int) < n := by omega
    go_enter Try.func4, Try.ntmps4
    go_wp2_with fail
    with_reducible refine (fixed_true _).mono ?_
    rintro e W1 ⟨rfl, b1⟩
    go_wp2_with fail
    go_ret
    exact ⟨rfl, b1⟩
end Go.Proofs.Ytekibpfpkbgjkac
