/- The plain reads' Ready, and same. -/
import Derived.Test.YtdbbnkibdibpkabRs
import Derived.Deep.RegionHeld3
namespace Go.Proofs.Ytdbbnkibdibpkab
open Go.RowKit
set_option linter.unusedVariables false

theorem Rp.drew {w : World} {B b : Nat} {s : RS} {ks : List (Int × Int)} {W : List Rdg} {va vl : Value} (h : Rp w B b s ks W va vl) : Rp w.drew B b s ks W va vl := h.new_ ((Ch.refl (fun _ => False) w).drew)
theorem Rp.own_far {w : World} {B B' b size n : Nat} {s : RS} {ks : List (Int × Int)} {W : List Rdg} {va vl v : Value} {xs : List Value} (h : Rp w B b s ks W va vl) (ho : w.ownsRow B' 3 size v n xs) : ∀ k, v.ownBlock = some k → ¬ PFoot b va vl k := by
  intro k hk
  rcases ho.2 with ⟨rfl, _⟩ | ⟨g, cap, cur, rfl, hg, hh, _⟩
  · simp [Value.ownBlock] at hk
  · simp [Value.ownBlock] at hk
    subst hk
    exact h.far hh (by decide) (by decide) (by decide)
theorem ready_stop (s : RS) (W : List Rdg) {x : Rdg} (hx : W[readyK s W]? = some x) : sureOf s ≤ x.2.1 ∨ s.applied < x.2.2 := by
  have hlt := lt_of_some hx
  have hb : blocked (sureOf s) s.applied x = true := by
    unfold readyK firstIdx at hx hlt
    rcases hf : W.findIdx? (blocked (sureOf s) s.applied) with _ | i
    · rw [hf] at hlt; simp at hlt
    · rw [hf] at hx
      simp only at hx
      rw [if_neg (by omega)] at hx
      obtain ⟨h1, h2, _⟩ := List.findIdx?_eq_some_iff_getElem.1 hf
      rw [Int.toNat_natCast, List.getElem?_eq_getElem h1] at hx
      injection hx with hx
      rw [← hx]
      exact h2
  simpa [blocked] using hb
/-- Where the plain Ready stands behind j names. -/
structure RL (w : World) (B b : Nat) (s : RS) (ks : List (Int × Int)) (W : List Rdg) (va vl : Value) (j : Nat) (o vl' : Value) (w' : World) : Prop where
  own : w'.ownsRow w.heap.size 3 1 o j (ids (W.take j))
  rp : Rp w' B b s ks (W.drop j) va vl'
  foot : ∀ k, vl'.ownBlock = some k → vl.ownBlock = some k
  ch : Ch (PFoot b va vl) w w'
section
variable {w w3 w7 : World} {B b j : Nat} {s : RS} {ks : List (Int × Int)} {W : List Rdg} {va vl o vl' : Value}
theorem RL.new_ (h : RL w B b s ks W va vl j o vl' w3) (hc : NewW w3 w7) : RL w B b s ks W va vl j o vl' w7 :=
  ⟨own_ch h.own hc (fun _ _ h => h), h.rp.new_ hc, h.foot, h.ch.trans' (hc.mono fun _ h => h.elim)⟩
theorem RL.grew (h : RL w B b s ks W va vl j o vl' w3) {ob : Obj} (hg : (w3.alloc ob).grownBy w7 o.ownBlock) : Rp w7 B b s ks (W.drop j) va vl' ∧ Ch (PFoot b va vl) w w7 := by
  have hc : Ch (fun k => o.ownBlock = some k) w3 w7 := ((Ch.refl _ w3).alloc ob).grown hg (fun k hk => .inl hk)
  have hf := h.rp.own_far h.own
  refine ⟨h.rp.ch hc (fun e => hf _ e (.inl rfl)) (fun k hk e => hf _ e (.inr (.inl hk))) (fun k hk e => hf _ e (.inr (.inr hk))), h.ch.trans hc (fun k hk => .inr (h.own.lt k hk).1)⟩
theorem RL.step (h : RL w B b s ks W va vl j o vl' w3) {ob : Obj} (hg : (w3.alloc ob).grownBy w7 o.ownBlock) {x : Rdg} (hx : W[j]? = some x) {o7 vl7 : Value} (ho : w7.ownsRow w.heap.size 3 1 o7 (j + 1) (ids (W.take j) ++ [.int .i64 x.1]))
    (hr : rowAt w7 B 41 3 vl7 (W.drop (j + 1)).length (flatW (W.drop (j + 1)))) (hv : ∀ k, vl7.ownBlock = some k → vl'.ownBlock = some k) : RL w B b s ks W va vl (j + 1) o7 vl7 (w7.setCell ⟨b, 6, none⟩ vl7) := by
  obtain ⟨h1, h2⟩ := h.grew hg
  have hset : Ch (fun k => k = b) w7 (w7.setCell ⟨b, 6, none⟩ vl7) := (Ch.refl (fun k => k = b) w7).setCell (p := ⟨b, 6, none⟩) (.inl rfl) _
  have hb : ∀ k, o7.ownBlock = some k → ¬ k = b := fun k hk e => h1.own_far ho k hk (.inl e)
  refine ⟨by rw [ids_next W j hx]; exact own_ch ho hset hb, ⟨?_, h1.acks.ch hset (fun k hk e => h1.acks.blk_ne h1.blk (by decide) (e ▸ hk)), hr.ch hset (fun k hk e => hr.blk_ne h1.blk (by decide) (e ▸ hk)), h1.bB⟩, fun k hk => h.foot k (hv k hk), h2.trans' (hset.mono fun k hk => .inl hk)⟩
  have := h1.blk.set_ 6 vl7
  rwa [show (pcells s va vl').setIfInBounds 6 vl7 = pcells s va vl7 by simp [pcells]] at this
end
theorem drop_row {w : World} {B g off cap r j : Nat} {W : List Rdg} (hl : (W.drop j).length = r + 1) (hc : r + 1 ≤ cap) (h : rowAt w B 41 3 (.slice (some ⟨g, off, none⟩) (r + 1) cap) (r + 1) (flatW (W.drop j))) :
    rowAt w B 41 3 (.slice (if cap = 1 then some ⟨g, off, none⟩ else some ⟨g, off + 3, none⟩) r (cap - 1)) (W.drop (j + 1)).length (flatW (W.drop (j + 1))) ∧
      ∀ k, (Value.slice (if cap = 1 then some ⟨g, off, none⟩ else some ⟨g, off + 3, none⟩) r (cap - 1)).ownBlock = some k → (Value.slice (some ⟨g, off, none⟩) (r + 1) cap).ownBlock = some k := by
  have hl2 : (W.drop (j + 1)).length = r := by rw [List.length_drop] at hl ⊢; omega
  by_cases h1 : cap = 1
  · subst h1
    have h0 : r = 0 := by omega
    subst h0
    have := h.empty
    rw [if_pos rfl, List.eq_nil_of_length_eq_zero hl2]
    exact ⟨this, fun k hk => hk⟩
  · rw [if_neg h1]
    have := h.tail (k := 1) (by omega)
    rw [flatW_drop, List.drop_drop] at this
    rw [hl2]
    exact ⟨this, fun k hk => hk⟩
def lenV : Value → Nat
  | .slice _ n _ => n
  | _ => 0
/-- What the plain Ready leaves. -/
def RTook (B b : Nat) (s : RS) (ks : List (Int × Int)) (W : List Rdg) (va vl : Value) (k : Nat) (w : World) (e : Ending) (w' : World) : Prop :=
  ∃ A c vl', e = .returned (.slice A k c) ∧ w'.ownsRow w.heap.size 3 1 (.slice A k c) k (ids (W.take k)) ∧ Rp w' B b s ks (W.drop k) va vl' ∧ Ch (PFoot b va vl) w w'
set_option maxRecDepth 100000 in
set_option maxHeartbeats 8000000 in
theorem r_ready (B b : Nat) (s : RS) (ks : List (Int × Int)) (W : List Rdg) (va vl : Value) (w : World) (h : Rp w B b s ks W va vl) (ha : Ans s ks) (hk : ks.length ≤ 1000) (hr : s.rounds ≤ 1000) (h64 : W.length ≤ 64) :
    Calls Try.prog 19 #[.pointer (some ⟨b, 0, none⟩)] w (RTook B b s ks W va vl (readyK s W) w) := by
  obtain ⟨i0, hi0, hz0, hz1, hz2⟩ := info_parts int_info
  have hkw := readyK_le s W
  have HRH := Lib.hid (fun j x (h1 : j < readyK s W) h2 => ready_head s W (j := j) (x := x) h1 h2)
  have HRS := Lib.hid (fun x h2 => ready_stop s W (x := x) h2)
  have H0 := Lib.hid (show RL w B b s ks W va vl 0 (.slice none 0 0) vl w from ⟨⟨by simp [ids], .inl ⟨rfl, rfl⟩⟩, h, fun _ h => h, Ch.refl _ _⟩)
  have HSU := Lib.hid (fun W' vl' w' (h : Rp w' B b s ks W' va vl') => r_sure B b s ks W' va vl' w' h ha hk hr)
  clear h ha hk hr
  generalize readyK s W = KR at *
  generalize sureOf s = S at *
  go_enter Try.func19, Try.ntmps19
  go_wp2_with fail
  go_loopw [3] (fun o w' => ∃ (j : Nat) (vl' : Value), j ≤ KR ∧ RL w B b s ks W va vl j o vl' w') (fun o _ => KR - lenV o)
  case atStart => exact ⟨0, vl, by omega, H0.out⟩
  case round =>
    clear H0
    obtain ⟨j, vl', hj, hL⟩ := hrel
    obtain ⟨A3, c3, rfl⟩ := own_form hL.own
    have d6 := hL.rp.c6
    have d4 := hL.rp.c4
    have hlen : (W.drop j).length = W.length - j := List.length_drop
    rcases Nat.eq_zero_or_pos (W.length - j) with h0 | h0
    · obtain rfl : j = KR := by omega
      obtain ⟨A1, q1, hv⟩ := hL.rp.row.form_
      rw [hlen, h0] at hv
      subst hv
      have HF := Lib.hid (fun n => show RTook B b s ks W va vl j w (.returned (.slice A3 j c3)) (wr.drewN n) from by
        have h9 := hL.new_ ((Ch.refl (fun _ => False) wr).drewN n)
        exact ⟨A3, c3, _, rfl, h9.own, h9.rp, h9.ch⟩)
      clear hL hlen h0 hj
      go_wp2_with fail
      go_quiet (fail)
      go_wp2_with fail
      go_ret
      exact HF.out _
    · obtain ⟨r, hr⟩ : ∃ r, W.length - j = r + 1 := ⟨W.length - j - 1, by omega⟩
      obtain ⟨x, hx⟩ := some_of_lt (L := W) (i := j) (by omega)
      obtain ⟨g, off, cap, hv, hg, hc⟩ := hL.rp.row.some_ (by omega)
      rw [hlen, hr] at hv hc
      subst hv
      have hrow := hL.rp.row
      rw [hlen, hr] at hrow
      have hdr : (W.drop j)[0]? = some x := by rw [List.getElem?_drop]; exact hx
      obtain ⟨x0, x1, x2⟩ := flatW_get _ hdr
      have p0 := hrow.cells x0
      have p1 := hrow.cells x1
      have p2 := hrow.cells x2
      simp only [Nat.zero_mul, Nat.zero_add, Nat.add_zero] at p0 p1 p2
      have HP := Lib.hid (show wr.drew.cell? ⟨g, off, none⟩ = some (.int .i64 x.1) ∧ wr.drew.cell? ⟨g, off + 1, none⟩ = some (.int .i64 x.2.1) ∧ wr.drew.cell? ⟨g, off + 2, none⟩ = some (.int .i64 x.2.2) from ⟨p0, p1, p2⟩)
      have HC := Lib.hid (HSU.out _ _ _ hL.rp.drew)
      have HL := Lib.hid hL.rp.drew
      have HLL := Lib.hid (hL.new_ ((Ch.refl (fun _ => False) wr).drew))
      have HX := Lib.hid hx
      have HROW := Lib.hid (hrow.ch ((Ch.refl (fun _ => False) wr).drew) (fun _ _ h => h))
      have hpos : decide ((0 : Int) < ((r + 1 : Nat) : Int)) = true := by simp
      have hstop : j = KR → S ≤ x.2.1 ∨ s.applied < x.2.2 := fun e => HRS.out x (by rw [← e]; exact hx)
      have hgo : j < KR → x.2.1 < S ∧ x.2.2 ≤ s.applied := fun e => HRH.out j x e hx
      have HLEN := Lib.hid hlen
      clear hlen hL hrow x0 x1 x2 hdr HSU HRS HRH h0 hx
      obtain ⟨xi, xr, xc⟩ := x
      simp only at p0 p1 p2 hstop hgo HP
      by_cases hjk : j < KR
      · obtain ⟨g1, g2⟩ := hgo hjk
        have hd1 : decide (xr < S) = true := by simpa using g1
        have hd2 : decide (xc ≤ s.applied) = true := by simpa using g2
        clear hgo hstop g1 g2
        go_wp2_with fail
        go_region_held3 (fun w' => w'.cell? ⟨b, 6, none⟩ = some (.slice (some ⟨g, off, none⟩) (r + 1) cap) ∧ w'.cell? ⟨g, off + 1, none⟩ = some (.int .i64 xr) ∧ w'.cell? ⟨b, 4, none⟩ = some (.int .i64 s.applied) ∧ w'.cell? ⟨g, off + 2, none⟩ = some (.int .i64 xc)) (first | exact ⟨d6, p1, d4, p2⟩ | exact ⟨m6, q1, m4, q2⟩)
          (first
            | (go_at_call 22; refine HC.out.mono ?_; rintro e w6 ⟨rfl, hN6⟩; have hp6 := HL.out.new_ hN6; have m6 := hp6.c6; have m4 := hp6.c4; obtain ⟨t0, t1, t2⟩ := HP.out; have q0 := (ch_cell hN6 (block_lt_of_cell t0)).trans t0; have q1 := (ch_cell hN6 (block_lt_of_cell t1)).trans t1; have q2 := (ch_cell hN6 (block_lt_of_cell t2)).trans t2; clear t0 t1 t2))
        have HL6 := Lib.hid (HLL.out.new_ hN6)
        have hs6 : w.heap.size ≤ w6.heap.size := HL6.out.ch.size
        clear hN6 hp6 HLL HL HC p0 p1 p2 d6 d4
        go_wp2_with (first
          | (at_builtin
             refine wpList_append_any _ rfl (.tmp 36) (.tmp 44) _ rfl w.heap.size 3 i0 _ 1 8 Try.underlying38 hi0 hz0 hz1 hz2 rfl (by omega) _ j (ids (W.take j)) rfl
               (HL6.out.new_ ((Ch.refl (fun _ => False) _).alloc _)).own (w6.heap.size + 1) (some ⟨w6.heap.size, 0, none⟩) 1 1 [.int .i64 xi] rfl (reads_one _ _ _) (by simp [Value.oneCell']) (by simp only [maxLen]; omega) (by omega) (by simp; omega) ?_
             intro v7 w7 hown7 hg7 hat7
             have h7 := (HL6.out.grew hg7).1
             have m7 := h7.c6
             have f7 := h7.fz 6
             obtain ⟨A7, c7, rfl⟩ := own_form hown7
             have hr7 := h7.row
             rw [HLEN.out, hr] at hr7
             have HDR := Lib.hid (drop_row (HLEN.out.trans hr) hc hr7)
             have HO7 := Lib.hid hown7; clear hown7
             have HG7 := Lib.hid hg7; clear hg7 h7 hr7))
        exact ⟨⟨j + 1, _, by omega, HL6.out.step HG7.out HX.out HO7.out HDR.out.1 HDR.out.2⟩, by simp [lenV]; omega⟩
      · obtain rfl : j = KR := by omega
        by_cases hS : S ≤ xr
        · have hd1 : decide (xr < S) = false := by simpa using hS
          clear hgo hstop hS
          go_wp2_with fail
          refine wp_region_held_drew (S := (fun w' => w'.cell? ⟨b, 6, none⟩ = some (.slice (some ⟨g, off, none⟩) (r + 1) cap) ∧ w'.cell? ⟨g, off + 1, none⟩ = some (.int .i64 xr) ∧ w'.cell? ⟨b, 4, none⟩ = some (.int .i64 s.applied) ∧ w'.cell? ⟨g, off + 2, none⟩ = some (.int .i64 xc))) (by kernel_rfl) ⟨d6, p1, d4, p2⟩ (fun hHeld => ?_)
          refine wpAnyH_take (i := 0) (v := ?_) rfl (by kernel_rfl) (by kernel_rfl) (by kernel_rfl) (fun _ _ _ h => h) (Or.inl ⟨by rfl, ?_⟩) (by assumption) ?_
          rotate_left 1
          · (intro w hSw; (try dsimp only at hSw); go_simp) <;> with_reducible rfl
          try simp only [Act.put, List.getElem_toArray, List.getElem_cons_zero, List.setIfInBounds_toArray, List.set_cons_zero, List.set_cons_succ]
          refine wpAnyH_take (i := 1) (v := ?_) rfl (by kernel_rfl) (by kernel_rfl) (by kernel_rfl) (fun _ _ _ h => h) (Or.inl ⟨by rfl, ?_⟩) (by assumption) ?_
          rotate_left 1
          · (intro w hSw; (try dsimp only at hSw); go_simp) <;> with_reducible rfl
          try simp only [Act.put, List.getElem_toArray, List.getElem_cons_zero, List.getElem_cons_succ, List.setIfInBounds_toArray, List.set_cons_zero, List.set_cons_succ]
          refine wpAnyH_take (i := 2) (v := ?_) rfl (by kernel_rfl) (by kernel_rfl) (by kernel_rfl) (fun _ _ _ h => h) (Or.inl ⟨by rfl, ?_⟩) (by assumption) ?_
          rotate_left 1
          · (intro w hSw; (try dsimp only at hSw); go_simp) <;> with_reducible rfl
          try simp only [Act.put, List.getElem_toArray, List.getElem_cons_zero, List.getElem_cons_succ, List.setIfInBounds_toArray, List.set_cons_zero, List.set_cons_succ]
          refine wpAnyH_take (i := 3) (v := ?_) rfl (by kernel_rfl) (by kernel_rfl) (by kernel_rfl) (fun _ _ _ h => h) (Or.inl ⟨by rfl, ?_⟩) (by assumption) ?_
          rotate_left 1
          · (intro w hSw; (try dsimp only at hSw); go_simp) <;> with_reducible rfl
          try simp only [Act.put, List.getElem_toArray, List.getElem_cons_zero, List.getElem_cons_succ, List.setIfInBounds_toArray, List.set_cons_zero, List.set_cons_succ]
          refine wpAnyH_take (i := 4) (v := ?_) rfl (by kernel_rfl) (by kernel_rfl) (by kernel_rfl) (fun _ _ _ h => h) (Or.inl ⟨by rfl, ?_⟩) (by assumption) ?_
          rotate_left 1
          · (intro w hSw; (try dsimp only at hSw); go_simp) <;> with_reducible rfl
          try simp only [Act.put, List.getElem_toArray, List.getElem_cons_zero, List.getElem_cons_succ, List.setIfInBounds_toArray, List.set_cons_zero, List.set_cons_succ]
          refine wpAnyH_take (i := 5) (v := ?_) rfl (by kernel_rfl) (by kernel_rfl) (by kernel_rfl) (fun _ _ _ h => h) (Or.inl ⟨by rfl, ?_⟩) (by assumption) ?_
          rotate_left 1
          · (intro w hSw; (try dsimp only at hSw); go_simp) <;> with_reducible rfl
          try simp only [Act.put, List.getElem_toArray, List.getElem_cons_zero, List.getElem_cons_succ, List.setIfInBounds_toArray, List.set_cons_zero, List.set_cons_succ]
          refine wpAnyH_take (i := 6) (v := ?_) rfl (by kernel_rfl) (by kernel_rfl) (by kernel_rfl) (fun _ _ _ h => h) (Or.inl ⟨by rfl, ?_⟩) (by assumption) ?_
          rotate_left 1
          · (intro w hSw; (try dsimp only at hSw); go_simp) <;> with_reducible rfl
          try simp only [Act.put, List.getElem_toArray, List.getElem_cons_zero, List.getElem_cons_succ, List.setIfInBounds_toArray, List.set_cons_zero, List.set_cons_succ]
          refine wpAnyH_take (i := 7) (v := ?_) rfl (by kernel_rfl) (by kernel_rfl) (by kernel_rfl) (fun _ _ _ h => h) (Or.inl ⟨by rfl, ?_⟩) (by assumption) ?_
          rotate_left 1
          · (intro w hSw; (try dsimp only at hSw); go_simp) <;> with_reducible rfl
          try simp only [Act.put, List.getElem_toArray, List.getElem_cons_zero, List.getElem_cons_succ, List.setIfInBounds_toArray, List.set_cons_zero, List.set_cons_succ]
          refine wpAnyH_take (i := 9) (v := ?_) rfl (by kernel_rfl) (by kernel_rfl) (by kernel_rfl) (fun _ _ _ h => h) (Or.inl ⟨by rfl, ?_⟩) (by assumption) ?_
          rotate_left 1
          · (intro w hSw; (try dsimp only at hSw); go_simp) <;> with_reducible rfl
          try simp only [Act.put, List.getElem_toArray, List.getElem_cons_zero, List.getElem_cons_succ, List.setIfInBounds_toArray, List.set_cons_zero, List.set_cons_succ]
          refine wpAnyH_take (i := 10) (v := ?_) rfl (by kernel_rfl) (by kernel_rfl) (by kernel_rfl) (fun _ _ _ h => h) (Or.inl ⟨by rfl, ?_⟩) (by assumption) ?_
          rotate_left 1
          · (intro w hSw; (try dsimp only at hSw); go_simp) <;> with_reducible rfl
          try simp only [Act.put, List.getElem_toArray, List.getElem_cons_zero, List.getElem_cons_succ, List.setIfInBounds_toArray, List.set_cons_zero, List.set_cons_succ]
          refine wpAnyH_take (i := 11) (v := ?_) rfl (by kernel_rfl) (by kernel_rfl) (by kernel_rfl) (fun _ _ _ h => h) (Or.inl ⟨by rfl, ?_⟩) (by assumption) ?_
          rotate_left 1
          · (intro w hSw; (try dsimp only at hSw); go_simp) <;> with_reducible rfl
          try simp only [Act.put, List.getElem_toArray, List.getElem_cons_zero, List.getElem_cons_succ, List.setIfInBounds_toArray, List.set_cons_zero, List.set_cons_succ]
          refine wpAnyH_take (i := 12) (v := ?_) rfl (by kernel_rfl) (by kernel_rfl) (by kernel_rfl) (fun _ _ _ h => h) (Or.inl ⟨by rfl, ?_⟩) (by assumption) ?_
          rotate_left 1
          · (intro w hSw; (try dsimp only at hSw); go_simp) <;> with_reducible rfl
          try simp only [Act.put, List.getElem_toArray, List.getElem_cons_zero, List.getElem_cons_succ, List.setIfInBounds_toArray, List.set_cons_zero, List.set_cons_succ]
          refine wpAnyH_take (i := 13) (v := ?_) rfl (by kernel_rfl) (by kernel_rfl) (by kernel_rfl) (fun _ _ _ h => h) (Or.inl ⟨by rfl, ?_⟩) (by assumption) ?_
          rotate_left 1
          · (intro w hSw; (try dsimp only at hSw); go_simp) <;> with_reducible rfl
          try simp only [Act.put, List.getElem_toArray, List.getElem_cons_zero, List.getElem_cons_succ, List.setIfInBounds_toArray, List.set_cons_zero, List.set_cons_succ]
          refine wpAnyH_take (i := 14) (v := ?_) rfl (by kernel_rfl) (by kernel_rfl) (by kernel_rfl) (fun _ _ _ h => h) (Or.inl ⟨by rfl, ?_⟩) (by assumption) ?_
          rotate_left 1
          · (intro w hSw; (try dsimp only at hSw); go_simp) <;> with_reducible rfl
          try simp only [Act.put, List.getElem_toArray, List.getElem_cons_zero, List.getElem_cons_succ, List.setIfInBounds_toArray, List.set_cons_zero, List.set_cons_succ]
          refine wpAnyH_take (i := 15) (v := ?_) rfl (by kernel_rfl) (by kernel_rfl) (by kernel_rfl) (fun _ _ _ h => h) (Or.inl ⟨by rfl, ?_⟩) (by assumption) ?_
          rotate_left 1
          · (intro w hSw; (try dsimp only at hSw); go_simp) <;> with_reducible rfl
          try simp only [Act.put, List.getElem_toArray, List.getElem_cons_zero, List.getElem_cons_succ, List.setIfInBounds_toArray, List.set_cons_zero, List.set_cons_succ]
          refine wpAnyH_ready (rs := [8]) (by kernel_rfl) (by simp) ?_
          refine AllReadyH.cons rfl (fun K hK => ?_) AllReadyH.nil
          go_simp
          go_at_call 22
          refine HC.out.mono ?_
          rintro e w6 ⟨rfl, hN6⟩
          have hp6 := HL.out.new_ hN6
          have m6 := hp6.c6
          have m4 := hp6.c4
          obtain ⟨t0, t1, t2⟩ := HP.out
          have q1 := (ch_cell hN6 (block_lt_of_cell t1)).trans t1
          have q2 := (ch_cell hN6 (block_lt_of_cell t2)).trans t2
          clear t0 t1 t2
          dsimp only
          refine hK.out _ _ ⟨m6, q1, m4, q2⟩ (fun hHeld6 => ?_)
          clear hK K hHeld
          try simp only [Act.put, List.getElem_toArray, List.getElem_cons_zero, List.getElem_cons_succ, List.setIfInBounds_toArray, List.set_cons_zero, List.set_cons_succ]
          refine wpAnyH_take (i := 16) (v := ?_) rfl (by kernel_rfl) (by kernel_rfl) (by kernel_rfl) (fun _ _ _ h => h) (Or.inl ⟨by rfl, ?_⟩) (by assumption) ?_
          rotate_left 1
          · (intro w hSw; (try dsimp only at hSw); go_simp) <;> with_reducible rfl
          try simp only [Act.put, List.getElem_toArray, List.getElem_cons_zero, List.getElem_cons_succ, List.setIfInBounds_toArray, List.set_cons_zero, List.set_cons_succ]
          refine wpAnyH_take (i := 17) (v := ?_) rfl (by kernel_rfl) (by kernel_rfl) (by kernel_rfl) (fun _ _ _ h => h) (Or.inl ⟨by rfl, ?_⟩) (by assumption) ?_
          rotate_left 1
          · (intro w hSw; (try dsimp only at hSw); go_simp) <;> with_reducible rfl
          try simp only [Act.put, List.getElem_toArray, List.getElem_cons_zero, List.getElem_cons_succ, List.setIfInBounds_toArray, List.set_cons_zero, List.set_cons_succ]
          refine wpAnyH_take (i := 18) (v := ?_) rfl (by kernel_rfl) (by kernel_rfl) (by kernel_rfl) (fun _ _ _ h => h) (Or.inl ⟨by rfl, ?_⟩) (by assumption) ?_
          rotate_left 1
          · (intro w hSw; (try dsimp only at hSw); go_simp) <;> with_reducible rfl
          try simp only [Act.put, List.getElem_toArray, List.getElem_cons_zero, List.getElem_cons_succ, List.setIfInBounds_toArray, List.set_cons_zero, List.set_cons_succ]
          refine wpAnyH_take (i := 19) (v := undef) rfl (by kernel_rfl) (by kernel_rfl) (by kernel_rfl) (fun _ _ _ h => h) (Or.inr ⟨by rfl, rfl⟩) (by assumption) ?_
          try simp only [Act.put, List.getElem_toArray, List.getElem_cons_zero, List.getElem_cons_succ, List.setIfInBounds_toArray, List.set_cons_zero, List.set_cons_succ]
          refine wpAnyH_take (i := 20) (v := undef) rfl (by kernel_rfl) (by kernel_rfl) (by kernel_rfl) (fun _ _ _ h => h) (Or.inr ⟨by rfl, rfl⟩) (by assumption) ?_
          try simp only [Act.put, List.getElem_toArray, List.getElem_cons_zero, List.getElem_cons_succ, List.setIfInBounds_toArray, List.set_cons_zero, List.set_cons_succ]
          refine wpAnyH_take (i := 21) (v := undef) rfl (by kernel_rfl) (by kernel_rfl) (by kernel_rfl) (fun _ _ _ h => h) (Or.inr ⟨by rfl, rfl⟩) (by assumption) ?_
          try simp only [Act.put, List.getElem_toArray, List.getElem_cons_zero, List.getElem_cons_succ, List.setIfInBounds_toArray, List.set_cons_zero, List.set_cons_succ]
          refine wpAnyH_take (i := 22) (v := undef) rfl (by kernel_rfl) (by kernel_rfl) (by kernel_rfl) (fun _ _ _ h => h) (Or.inr ⟨by rfl, rfl⟩) (by assumption) ?_
          try simp only [Act.put, List.getElem_toArray, List.getElem_cons_zero, List.getElem_cons_succ, List.setIfInBounds_toArray, List.set_cons_zero, List.set_cons_succ]
          refine wpAnyH_take (i := 23) (v := undef) rfl (by kernel_rfl) (by kernel_rfl) (by kernel_rfl) (fun _ _ _ h => h) (Or.inr ⟨by rfl, rfl⟩) (by assumption) ?_
          try simp only [Act.put, List.getElem_toArray, List.getElem_cons_zero, List.getElem_cons_succ, List.setIfInBounds_toArray, List.set_cons_zero, List.set_cons_succ]
          refine wpAnyH_take (i := 24) (v := undef) rfl (by kernel_rfl) (by kernel_rfl) (by kernel_rfl) (fun _ _ _ h => h) (Or.inr ⟨by rfl, rfl⟩) (by assumption) ?_
          try simp only [Act.put, List.getElem_toArray, List.getElem_cons_zero, List.getElem_cons_succ, List.setIfInBounds_toArray, List.set_cons_zero, List.set_cons_succ]
          refine wpAnyH_take (i := 25) (v := undef) rfl (by kernel_rfl) (by kernel_rfl) (by kernel_rfl) (fun _ _ _ h => h) (Or.inr ⟨by rfl, rfl⟩) (by assumption) ?_
          try simp only [Act.put, List.getElem_toArray, List.getElem_cons_zero, List.getElem_cons_succ, List.setIfInBounds_toArray, List.set_cons_zero, List.set_cons_succ]
          refine wpAnyH_take (i := 26) (v := undef) rfl (by kernel_rfl) (by kernel_rfl) (by kernel_rfl) (fun _ _ _ h => h) (Or.inr ⟨by rfl, rfl⟩) (by assumption) ?_
          try simp only [Act.put, List.getElem_toArray, List.getElem_cons_zero, List.getElem_cons_succ, List.setIfInBounds_toArray, List.set_cons_zero, List.set_cons_succ]
          refine wpAnyH_take (i := 27) (v := undef) rfl (by kernel_rfl) (by kernel_rfl) (by kernel_rfl) (fun _ _ _ h => h) (Or.inr ⟨by rfl, rfl⟩) (by assumption) ?_
          try simp only [Act.put, List.getElem_toArray, List.getElem_cons_zero, List.getElem_cons_succ, List.setIfInBounds_toArray, List.set_cons_zero, List.set_cons_succ]
          refine wpAnyH_take (i := 28) (v := undef) rfl (by kernel_rfl) (by kernel_rfl) (by kernel_rfl) (fun _ _ _ h => h) (Or.inr ⟨by rfl, rfl⟩) (by assumption) ?_
          try simp only [Act.put, List.getElem_toArray, List.getElem_cons_zero, List.getElem_cons_succ, List.setIfInBounds_toArray, List.set_cons_zero, List.set_cons_succ]
          refine wpAnyH_take (i := 29) (v := undef) rfl (by kernel_rfl) (by kernel_rfl) (by kernel_rfl) (fun _ _ _ h => h) (Or.inr ⟨by rfl, rfl⟩) (by assumption) ?_
          try simp only [Act.put, List.getElem_toArray, List.getElem_cons_zero, List.getElem_cons_succ, List.setIfInBounds_toArray, List.set_cons_zero, List.set_cons_succ]
          refine wpAnyH_take (i := 30) (v := undef) rfl (by kernel_rfl) (by kernel_rfl) (by kernel_rfl) (fun _ _ _ h => h) (Or.inr ⟨by rfl, rfl⟩) (by assumption) ?_
          try simp only [Act.put, List.getElem_toArray, List.getElem_cons_zero, List.getElem_cons_succ, List.setIfInBounds_toArray, List.set_cons_zero, List.set_cons_succ]
          refine wpAnyH_take (i := 31) (v := ?_) rfl (by kernel_rfl) (by kernel_rfl) (by kernel_rfl) (fun _ _ _ h => h) (Or.inl ⟨by rfl, ?_⟩) (by assumption) ?_
          rotate_left 1
          · (intro w hSw; (try dsimp only at hSw); go_simp) <;> with_reducible rfl
          try simp only [Act.put, List.getElem_toArray, List.getElem_cons_zero, List.getElem_cons_succ, List.setIfInBounds_toArray, List.set_cons_zero, List.set_cons_succ]
          refine wpAnyH_done (by kernel_rfl) ?_ _
          have HL6 := Lib.hid (HLL.out.new_ hN6)
          have HF := Lib.hid (show RTook B b s ks W va vl j w (.returned (.slice A3 j c3)) w6 from ⟨A3, c3, _, rfl, HL6.out.own, HL6.out.rp, HL6.out.ch⟩)
          clear hN6 hp6 HLL HL HC p0 p1 p2 d6 d4 HL6
          go_wp2_with fail
          go_ret
          exact HF.out
        · have hd1 : decide (xr < S) = true := by simpa using hS
          have hd2 : decide (xc ≤ s.applied) = false := by have := hstop rfl; simp; omega
          clear hgo hstop hS
          go_wp2_with fail
          go_region_held3 (fun w' => w'.cell? ⟨b, 6, none⟩ = some (.slice (some ⟨g, off, none⟩) (r + 1) cap) ∧ w'.cell? ⟨g, off + 1, none⟩ = some (.int .i64 xr) ∧ w'.cell? ⟨b, 4, none⟩ = some (.int .i64 s.applied) ∧ w'.cell? ⟨g, off + 2, none⟩ = some (.int .i64 xc)) (first | exact ⟨d6, p1, d4, p2⟩ | exact ⟨m6, q1, m4, q2⟩)
            (first
              | (go_at_call 22; refine HC.out.mono ?_; rintro e w6 ⟨rfl, hN6⟩; have hp6 := HL.out.new_ hN6; have m6 := hp6.c6; have m4 := hp6.c4; obtain ⟨t0, t1, t2⟩ := HP.out; have q0 := (ch_cell hN6 (block_lt_of_cell t0)).trans t0; have q1 := (ch_cell hN6 (block_lt_of_cell t1)).trans t1; have q2 := (ch_cell hN6 (block_lt_of_cell t2)).trans t2; clear t0 t1 t2))
          have HL6 := Lib.hid (HLL.out.new_ hN6)
          have HF := Lib.hid (show RTook B b s ks W va vl j w (.returned (.slice A3 j c3)) w6 from ⟨A3, c3, _, rfl, HL6.out.own, HL6.out.rp, HL6.out.ch⟩)
          clear hN6 hp6 HLL HL HC p0 p1 p2 d6 d4 HL6
          go_wp2_with fail
          go_ret
          exact HF.out
end Go.Proofs.Ytdbbnkibdibpkab

