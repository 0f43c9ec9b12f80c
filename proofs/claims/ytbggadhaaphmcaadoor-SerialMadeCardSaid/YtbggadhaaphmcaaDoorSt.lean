/- plain, Step: the program's. -/
import Derived.Test.YtbggadhaaphmcaaDoorNr
import Derived.Deep.RegionHeld3
import Derived.Deep.DeepCutAuto
namespace Go.Proofs.YtbggadhaaphmcaaDoor
open Go.RowKit Go.Sort
set_option linter.unusedVariables false

/-- A result that is told as the normal one: no text where there is none. -/
def norm (v : ByteArray) (h : Bool) : Res := if h then some v else none
theorem norm_of (r : Res) : norm (vOf r) (hOf r) = r := by cases r <;> rfl
theorem plain_same (v : ByteArray) (h : Bool) (hn : h = false → v = ⟨#[]⟩) (w : World) : Calls Tryd.prog 74 #[.agg #[.string v, .bool h]] w fun e w' => e = .returned (.agg #[.string v, .bool h]) ∧ NewW w w' := by
  cases h
  · obtain rfl := hn rfl
    go_enter Tryd.func74, Tryd.ntmps74
    go_wp2_with fail
    exact bodyPost_ret (v := .agg #[.string ⟨#[]⟩, .bool false]) (by simp [results, Tryd.results74, go_sem]) rfl ⟨rfl, ((Ch.refl _ w).alloc _).alloc _⟩
  · clear hn
    go_enter Tryd.func74, Tryd.ntmps74
    go_wp2_with fail
    exact bodyPost_ret (v := .agg #[.string v, .bool true]) (by simp [results, Tryd.results74, go_sem]) rfl ⟨rfl, ((Ch.refl _ w).alloc _).alloc _⟩
theorem res_norm (r : Res) : hOf r = false → vOf r = ⟨#[]⟩ := by cases r <;> simp [hOf, vOf, emp]
theorem plain_any (v : ByteArray) (h : Bool) (w : World) : Calls Tryd.prog 74 #[.agg #[.string v, .bool h]] w fun e w' => e = .returned (.agg #[.string (vOf (norm v h)), .bool (hOf (norm v h))]) ∧ NewW w w' := by
  cases h
  · go_enter Tryd.func74, Tryd.ntmps74
    go_wp2_with fail
    exact bodyPost_ret (v := .agg #[.string ⟨#[]⟩, .bool false]) (by simp [results, Tryd.results74, go_sem]) rfl ⟨rfl, ((Ch.refl _ w).alloc _).alloc _⟩
  · go_enter Tryd.func74, Tryd.ntmps74
    go_wp2_with fail
    exact bodyPost_ret (v := .agg #[.string v, .bool true]) (by simp [results, Tryd.results74, go_sem]) rfl ⟨rfl, ((Ch.refl _ w).alloc _).alloc _⟩
/-- The five blocks that a step makes: the operation, the two results that came, the two that go. -/
structure SB (w w' : World) (b : Nat) (cs : Array Value) (HV : ByteArray) (HB : Bool) (LV : ByteArray) (LB : Bool) (x y : Value × Value) : Prop where
  nw : NewW w w'
  hb : w.heap.size ≤ b
  b0 : Blk w' b 41 cs
  b1 : Blk w' (b + 1) 45 #[.string HV, .bool HB]
  b2 : Blk w' (b + 1 + 1) 45 #[.string LV, .bool LB]
  b3 : Blk w' (b + 1 + 1 + 1) 45 #[x.1, x.2]
  b4 : Blk w' (b + 1 + 1 + 1 + 1) 45 #[y.1, y.2]
section
variable {w w' w'' : World} {b : Nat} {cs : Array Value} {HV LV : ByteArray} {HB LB : Bool} {x y : Value × Value}
theorem SB.drew (h : SB w w' b cs HV HB LV LB x y) : SB w w'.drew b cs HV HB LV LB x y := ⟨h.nw.drew, h.hb, h.b0, h.b1, h.b2, h.b3, h.b4⟩
theorem SB.drewN (h : SB w w' b cs HV HB LV LB x y) (n : Nat) : SB w (w'.drewN n) b cs HV HB LV LB x y := ⟨h.nw.drewN n, h.hb, h.b0, h.b1, h.b2, h.b3, h.b4⟩
theorem SB.new_ (h : SB w w' b cs HV HB LV LB x y) (hc : NewW w' w'') : SB w w'' b cs HV HB LV LB x y :=
  ⟨h.nw.trans' hc, h.hb, h.b0.ch hc (fun h => h), h.b1.ch hc (fun h => h), h.b2.ch hc (fun h => h), h.b3.ch hc (fun h => h), h.b4.ch hc (fun h => h)⟩
theorem SB.set1 (h : SB w w' b cs HV HB LV LB x y) : SB w ((w'.setCell ⟨b + 1, 0, none⟩ (.string HV)).setCell ⟨b + 1, 1, none⟩ (.bool HB)) b cs HV HB LV LB x y := by
  have hb := h.hb
  have e := (h.b1.set_ 0 (.string HV)).set_ 1 (.bool HB)
  refine ⟨(h.nw.setCell (.inr (by dsimp only; omega)) _).setCell (.inr (by dsimp only; omega)) _, h.hb, ?_, e, ?_, ?_, ?_⟩
  · exact (h.b0.far (by dsimp only; omega) _).far (by dsimp only; omega) _
  · exact (h.b2.far (by dsimp only; omega) _).far (by dsimp only; omega) _
  · exact (h.b3.far (by dsimp only; omega) _).far (by dsimp only; omega) _
  · exact (h.b4.far (by dsimp only; omega) _).far (by dsimp only; omega) _
theorem SB.set2 (h : SB w w' b cs HV HB LV LB x y) : SB w ((w'.setCell ⟨b + 1 + 1, 0, none⟩ (.string LV)).setCell ⟨b + 1 + 1, 1, none⟩ (.bool LB)) b cs HV HB LV LB x y := by
  have hb := h.hb
  have e := (h.b2.set_ 0 (.string LV)).set_ 1 (.bool LB)
  refine ⟨(h.nw.setCell (.inr (by dsimp only; omega)) _).setCell (.inr (by dsimp only; omega)) _, h.hb, ?_, ?_, e, ?_, ?_⟩
  · exact (h.b0.far (by dsimp only; omega) _).far (by dsimp only; omega) _
  · exact (h.b1.far (by dsimp only; omega) _).far (by dsimp only; omega) _
  · exact (h.b3.far (by dsimp only; omega) _).far (by dsimp only; omega) _
  · exact (h.b4.far (by dsimp only; omega) _).far (by dsimp only; omega) _
theorem SB.set3 (h : SB w w' b cs HV HB LV LB x y) (u v : Value) : SB w ((w'.setCell ⟨b + 1 + 1 + 1, 0, none⟩ u).setCell ⟨b + 1 + 1 + 1, 1, none⟩ v) b cs HV HB LV LB (u, v) y := by
  have hb := h.hb
  have e := (h.b3.set_ 0 u).set_ 1 v
  refine ⟨(h.nw.setCell (.inr (by dsimp only; omega)) _).setCell (.inr (by dsimp only; omega)) _, h.hb, ?_, ?_, ?_, e, ?_⟩
  · exact (h.b0.far (by dsimp only; omega) _).far (by dsimp only; omega) _
  · exact (h.b1.far (by dsimp only; omega) _).far (by dsimp only; omega) _
  · exact (h.b2.far (by dsimp only; omega) _).far (by dsimp only; omega) _
  · exact (h.b4.far (by dsimp only; omega) _).far (by dsimp only; omega) _
theorem SB.set4 (h : SB w w' b cs HV HB LV LB x y) (u v : Value) : SB w ((w'.setCell ⟨b + 1 + 1 + 1 + 1, 0, none⟩ u).setCell ⟨b + 1 + 1 + 1 + 1, 1, none⟩ v) b cs HV HB LV LB x (u, v) := by
  have hb := h.hb
  have e := (h.b4.set_ 0 u).set_ 1 v
  refine ⟨(h.nw.setCell (.inr (by dsimp only; omega)) _).setCell (.inr (by dsimp only; omega)) _, h.hb, ?_, ?_, ?_, ?_, e⟩
  · exact (h.b0.far (by dsimp only; omega) _).far (by dsimp only; omega) _
  · exact (h.b1.far (by dsimp only; omega) _).far (by dsimp only; omega) _
  · exact (h.b2.far (by dsimp only; omega) _).far (by dsimp only; omega) _
  · exact (h.b3.far (by dsimp only; omega) _).far (by dsimp only; omega) _
/-- The cells that the walk reads. -/
theorem SB.cells {K N : Int} {key val : ByteArray} (h : SB w w' b #[.int .i64 K, .string key, .string val, .int .i64 N] HV HB LV LB x y) :
    w'.cell? ⟨b, 0, none⟩ = some (.int .i64 K) ∧ w'.cell? ⟨b, 2, none⟩ = some (.string val) ∧ w'.cell? ⟨b, 3, none⟩ = some (.int .i64 N) ∧
    w'.cell? ⟨b + 1, 0, none⟩ = some (.string HV) ∧ w'.cell? ⟨b + 1, 1, none⟩ = some (.bool HB) ∧ w'.cell? ⟨b + 1 + 1, 0, none⟩ = some (.string LV) ∧ w'.cell? ⟨b + 1 + 1, 1, none⟩ = some (.bool LB) ∧
    w'.cell? ⟨b + 1 + 1 + 1, 0, none⟩ = some x.1 ∧ w'.cell? ⟨b + 1 + 1 + 1, 1, none⟩ = some x.2 ∧ w'.cell? ⟨b + 1 + 1 + 1 + 1, 0, none⟩ = some y.1 ∧ w'.cell? ⟨b + 1 + 1 + 1 + 1, 1, none⟩ = some y.2 :=
  ⟨by rw [h.b0.cell]; rfl, by rw [h.b0.cell]; rfl, by rw [h.b0.cell]; rfl, by rw [h.b1.cell]; rfl, by rw [h.b1.cell]; rfl, by rw [h.b2.cell]; rfl, by rw [h.b2.cell]; rfl, by rw [h.b3.cell]; rfl, by rw [h.b3.cell]; rfl, by rw [h.b4.cell]; rfl, by rw [h.b4.cell]; rfl⟩
theorem SB.free (h : SB w w' b cs HV HB LV LB x y) : (∀ i, w'.frozen? ⟨b + 1, i, none⟩ = false) ∧ (∀ i, w'.frozen? ⟨b + 1 + 1, i, none⟩ = false) ∧ (∀ i, w'.frozen? ⟨b + 1 + 1 + 1, i, none⟩ = false) ∧ (∀ i, w'.frozen? ⟨b + 1 + 1 + 1 + 1, i, none⟩ = false) :=
  ⟨h.b1.frozen, h.b2.frozen, h.b3.frozen, h.b4.frozen⟩
end
theorem sb_begin (w : World) (cs : Array Value) (HV LV : ByteArray) (HB LB : Bool) :
    SB w (((((w.alloc (.cells cs 41)).alloc (.cells #[.string HV, .bool HB] 45)).alloc (.cells #[.string LV, .bool LB] 45)).alloc (.cells #[.string ⟨#[]⟩, .bool false] 45)).alloc (.cells #[.string ⟨#[]⟩, .bool false] 45)) w.heap.size cs HV HB LV LB (.string ⟨#[]⟩, .bool false) (.string ⟨#[]⟩, .bool false) := by
  refine ⟨((((((Ch.refl _ w).alloc _).alloc _).alloc _).alloc _).alloc _), Nat.le_refl _, ?_, ?_, ?_, ?_, ?_⟩
  · exact ((((Blk.new w 41 cs).alloc _).alloc _).alloc _).alloc _
  · have := Blk.new (w.alloc (.cells cs 41)) 45 #[.string HV, .bool HB]
    rw [World.size_alloc] at this
    exact ((this.alloc _).alloc _).alloc _
  · have := Blk.new ((w.alloc (.cells cs 41)).alloc (.cells #[.string HV, .bool HB] 45)) 45 #[.string LV, .bool LB]
    rw [World.size_alloc, World.size_alloc] at this
    exact (this.alloc _).alloc _
  · have := Blk.new (((w.alloc (.cells cs 41)).alloc (.cells #[.string HV, .bool HB] 45)).alloc (.cells #[.string LV, .bool LB] 45)) 45 #[.string ⟨#[]⟩, .bool false]
    rw [World.size_alloc, World.size_alloc, World.size_alloc] at this
    exact this.alloc _
  · have := Blk.new ((((w.alloc (.cells cs 41)).alloc (.cells #[.string HV, .bool HB] 45)).alloc (.cells #[.string LV, .bool LB] 45)).alloc (.cells #[.string ⟨#[]⟩, .bool false] 45)) 45 #[.string ⟨#[]⟩, .bool false]
    rw [World.size_alloc, World.size_alloc, World.size_alloc, World.size_alloc] at this
    exact this
set_option maxRecDepth 100000 in
set_option maxHeartbeats 2000000 in
theorem Step_any (o : OpD) (h1 : 1 ≤ o.k) (h5 : o.k ≤ 5) (has last : Res) {w : World} (hE : Env w) (hv : (vOf has).size ≤ 1000) :
    Calls Tryd.prog 54 #[.agg #[.int .i64 o.k, .string o.key, .string o.val, .int .i64 o.n], .agg #[.string (vOf has), .bool (hOf has)], .agg #[.string (vOf last), .bool (hOf last)]] w fun e w' =>
      e = .returned (.tuple #[.agg #[.string (vOf (stepW o has last)), .bool (hOf (stepW o has last))], .agg #[.string (vOf (stepR o has last)), .bool (hOf (stepR o has last))]]) ∧ NewW w w' := by
  have HP1 := Lib.hid (res_norm has)
  have HP2 := Lib.hid (res_norm last)
  obtain ⟨K, key, val, N⟩ := o
  dsimp only at h1 h5
  generalize hx1 : vOf has = HV at *
  generalize hx2 : hOf has = HB at *
  generalize hx3 : vOf last = LV at *
  generalize hx4 : hOf last = LB at *
  have HX1 := Lib.hid hx1
  have HX2 := Lib.hid hx2
  have HX3 := Lib.hid hx3
  have HX4 := Lib.hid hx4
  clear hx1 hx2 hx3 hx4
  have HE := Lib.hid hE
  clear hE
  have HSB := Lib.hid (sb_begin w #[.int .i64 K, .string key, .string val, .int .i64 N] HV LV HB LB)
  go_enter Tryd.func54, Tryd.ntmps54
  go_upto_region 1 with (fail)
  generalize (((((w.alloc (.cells #[.int .i64 K, .string key, .string val, .int .i64 N] 41)).alloc (.cells #[.string HV, .bool HB] 45)).alloc (.cells #[.string LV, .bool LB] 45)).alloc (.cells #[.string ⟨#[]⟩, .bool false] 45)).alloc (.cells #[.string ⟨#[]⟩, .bool false] 45)) = w5 at *
  generalize w.heap.size = b at *
  go_cut [] (fun wx => SB w wx b #[.int .i64 K, .string key, .string val, .int .i64 N] HV HB LV LB (.string ⟨#[]⟩, .bool false) (.string ⟨#[]⟩, .bool false))
  case first =>
    have c := HSB.out.cells
    obtain ⟨_, _, _, k0, k1, k2, k3, _⟩ := c
    go_region_with ((go_at_call 74; refine (plain_same _ _ (by first | exact HP1.out | exact HP2.out) _).mono ?_; rintro e wa ⟨rfl, hNa⟩; (first
      | (have hSa := HSB.out.new_ hNa; obtain ⟨_, _, _, k0, k1, k2, k3, _⟩ := hSa.cells; obtain ⟨f1, f2, _, _⟩ := hSa.free)
      | (have hSa := HSB.out.drew.new_ hNa; obtain ⟨_, _, _, k0, k1, k2, k3, _⟩ := hSa.cells; obtain ⟨f1, f2, _, _⟩ := hSa.free)
      | (have hSb := hSa.new_ hNa; obtain ⟨_, _, _, k0, k1, k2, k3, _⟩ := hSb.cells; obtain ⟨f1, f2, _, _⟩ := hSb.free))))
    all_goals
      go_wp2_with fail
      go_meet
      first
        | exact hSb.set1.set2
        | exact hSb.set2.set1
  case rest =>
    have hS := hcut
    obtain ⟨c0, c2, c3, k0, k1, k2, k3, r0, r1, r2, r3⟩ := hS.cells
    obtain ⟨_, _, f3, f4⟩ := hS.free
    have HS := Lib.hid hS
    clear hcut hS HSB
    rcases (by omega : K = 1 ∨ K = 2 ∨ K = 3 ∨ K = 4 ∨ K = 5) with rfl | rfl | rfl | rfl | rfl
    · go_wp2_with fail
      go_region
      all_goals
        have hF := ((HS.out.set3 (.string ⟨#[]⟩) (.bool false)).set4 (.string HV) (.bool HB)).drew
        obtain ⟨_, _, _, _, _, _, _, g0, g1, g2, g3⟩ := hF.cells
        clear c0 c2 c3 k0 k1 k2 k3 r0 r1 r2 r3 f3 f4
        go_wp2_with fail
        refine bodyPost_ret (v := .tuple #[.agg #[(.string ⟨#[]⟩), (.bool false)], .agg #[(.string HV), (.bool HB)]]) (by simp [results, Tryd.results54, go_sem, g0, g1, g2, g3]) rfl ⟨?_, hF.nw⟩
        rw [← HX1.out, ← HX2.out]; rfl
    · go_wp2_with fail
      go_region
      all_goals
        have hF := ((HS.out.set3 (.string val) (.bool true)).set4 (.string HV) (.bool HB)).drew
        obtain ⟨_, _, _, _, _, _, _, g0, g1, g2, g3⟩ := hF.cells
        clear c0 c2 c3 k0 k1 k2 k3 r0 r1 r2 r3 f3 f4
        go_wp2_with fail
        refine bodyPost_ret (v := .tuple #[.agg #[(.string val), (.bool true)], .agg #[(.string HV), (.bool HB)]]) (by simp [results, Tryd.results54, go_sem, g0, g1, g2, g3]) rfl ⟨?_, hF.nw⟩
        rw [← HX1.out, ← HX2.out]; rfl
    · go_wp2_with fail
      go_region
      all_goals
        have hF := ((HS.out.set3 (.string ⟨#[]⟩) (.bool false)).set4 (.string HV) (.bool HB)).drew
        obtain ⟨_, _, _, _, _, _, _, g0, g1, g2, g3⟩ := hF.cells
        clear c0 c2 c3 k0 k1 k2 k3 r0 r1 r2 r3 f3 f4
        go_wp2_with fail
        refine bodyPost_ret (v := .tuple #[.agg #[(.string ⟨#[]⟩), (.bool false)], .agg #[(.string HV), (.bool HB)]]) (by simp [results, Tryd.results54, go_sem, g0, g1, g2, g3]) rfl ⟨?_, hF.nw⟩
        rw [← HX1.out, ← HX2.out]; rfl
    · go_wp2_with fail
      go_region
      all_goals
        have hF := ((HS.out.set3 (.string LV) (.bool LB)).set4 (.string HV) (.bool HB)).drew
        obtain ⟨_, _, _, _, _, _, _, g0, g1, g2, g3⟩ := hF.cells
        clear c0 c2 c3 k0 k1 k2 k3 r0 r1 r2 r3 f3 f4
        go_wp2_with fail
        refine bodyPost_ret (v := .tuple #[.agg #[(.string LV), (.bool LB)], .agg #[(.string HV), (.bool HB)]]) (by simp [results, Tryd.results54, go_sem, g0, g1, g2, g3]) rfl ⟨?_, hF.nw⟩
        rw [← HX1.out, ← HX2.out, ← HX3.out, ← HX4.out]; rfl
    · have HNU := Lib.hid (fun w' (hc : NewW w w') => Number_any HV hv (HE.out.new_ hc))
      have HB2 := Lib.hid (numR_bound HV)
      obtain ⟨NH, hNH⟩ : ∃ NH, numR HV = NH := ⟨_, rfl⟩
      rw [hNH] at HNU HB2
      have hb2 := HB2.out
      have hb3 := clamp_bound N
      have hwr : IntKind.i64.wrap (NH + clampI N) = NH + clampI N := IntWalk.i64_in _ ⟨by omega, by omega⟩
      have HSM := Lib.hid (show sumOf ⟨5, key, val, N⟩ has = clampI (NH + clampI N) by unfold sumOf; rw [HX1.out, hNH])
      obtain ⟨S, hS⟩ : ∃ S, clampI (NH + clampI N) = S := ⟨_, rfl⟩
      have hb4 := clamp_bound (NH + clampI N)
      have HCL := Lib.hid (fun w' => clamp_any (NH + clampI N) w')
      have HCN := Lib.hid (fun w' => clamp_any N w')
      rw [hS] at HSM HCL hb4
      obtain ⟨CN, hCN⟩ : ∃ CN, clampI N = CN := ⟨_, rfl⟩
      rw [hCN] at hwr HCL HCN hb3
      have HTX := Lib.hid (fun w' (hc : NewW w w') => Text_any S (by omega) (by omega) (HE.out.new_ hc))
      clear hNH hCN hS
      go_wp2_with fail
      go_region_held3 (fun w' => w'.cell? ⟨b + 1, 0, none⟩ = some (.string HV) ∧ w'.cell? ⟨b, 3, none⟩ = some (.int .i64 N)) (first
          | (exact ⟨(HS.out.new_ hNa).cells.2.2.2.1, (HS.out.new_ hNa).cells.2.2.1⟩)
          | (exact ⟨(HS.out.drew.new_ hNa).cells.2.2.2.1, (HS.out.drew.new_ hNa).cells.2.2.1⟩)
          | (exact ⟨HS.out.cells.2.2.2.1, HS.out.cells.2.2.1⟩))
        (first
          | (go_at_call 25; (first | refine (HNU.out _ HS.out.nw).mono ?_ | refine (HNU.out _ HS.out.nw.drew).mono ?_ | refine (HNU.out _ (HS.out.nw.drewN _)).mono ?_); rintro e wa ⟨rfl, hNa⟩)
          | (go_at_call_of 61 (Value.int .i64 N); refine (HCN.out _).mono ?_; rintro e wb ⟨rfl, rfl⟩)
          | (go_at_call 61; refine (HCL.out _).mono ?_; rintro e wb ⟨rfl, rfl⟩))
      all_goals
        first
          | have HS1 := Lib.hid (HS.out.new_ hNa)
          | have HS1 := Lib.hid (HS.out.drew.new_ hNa)
        clear c0 c2 c3 k0 k1 k2 k3 r0 r1 r2 r3 f3 f4 hNa
        go_wp2_with fail
        refine (HTX.out _ HS1.out.nw).mono ?_
        rintro e w2 ⟨rfl, hN⟩
        dsimp only
        have HS2 := Lib.hid (HS1.out.new_ hN)
        have HT0 := Lib.hid (show (5 : Int) = 5 ∧ sumOf ⟨5, key, val, N⟩ has = S from ⟨rfl, HSM.out⟩)
        obtain ⟨T, hT⟩ : ∃ T, txt S = T := ⟨_, rfl⟩
        rw [hT]
        have HT := Lib.hid hT
        clear hN hT HTX HCL HCN HNU hwr
        have HS3 := Lib.hid (HS2.out.new_ ((Ch.refl _ w2).alloc (.cells #[.string T, .bool true] 45)))
        have HBN := Lib.hid (Blk.new w2 45 #[.string T, .bool true])
        have l3 := HS2.out.b3.lt
        have l4 := HS2.out.b4.lt
        go_upto_region 14 with (fail)
        generalize w2.alloc (.cells #[.string T, .bool true] 45) = w3 at *
        generalize w2.heap.size = tb at *
        obtain ⟨_, _, f3, f4⟩ := HS3.out.free
        obtain ⟨_, _, _, _, _, _, _, r0, r1, r2, r3⟩ := HS3.out.cells
        have q3 : tb ≠ b + 1 + 1 + 1 := by omega
        have q4 : tb ≠ b + 1 + 1 + 1 + 1 := by omega
        have p3 : b + 1 + 1 + 1 ≠ tb := by omega
        have p4 : b + 1 + 1 + 1 + 1 ≠ tb := by omega
        have t0 := HBN.out.cell 0
        have t1 := HBN.out.cell 1
        go_region
        all_goals
          have hF := ((HS3.out.set3 (.string T) (.bool true)).set4 (.string T) (.bool true)).drew
          obtain ⟨_, _, _, _, _, _, _, g0, g1, g2, g3⟩ := hF.cells
          clear f3 f4 t0 t1 r0 r1 r2 r3
          go_wp2_with fail
          refine bodyPost_ret (v := .tuple #[.agg #[.string T, .bool true], .agg #[.string T, .bool true]]) (by simp [results, Tryd.results54, go_sem, g0, g1, g2, g3]) rfl ⟨?_, hF.nw⟩
          have e1 : stepW ⟨5, key, val, N⟩ has last = some T := by unfold stepW; simp only [HT0.out.2, HT.out]; rfl
          have e2 : stepR ⟨5, key, val, N⟩ has last = some T := by unfold stepR; simp only [HT0.out.2, HT.out]; rfl
          rw [e1, e2]
          rfl
end Go.Proofs.YtbggadhaaphmcaaDoor
