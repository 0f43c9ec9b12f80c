/- Run: the program's. -/
import Derived.Test.YtbggadhaaphmcaaDoorAl
import Derived.Test.YtbggadhaaphmcaaDoorSt
namespace Go.Proofs.YtbggadhaaphmcaaDoor
open Go.RowKit Go.Maps Go.Sort Go.Shelf
set_option linter.unusedVariables false

/-- No text that a state holds is long. -/
structure SmS (s : Rs) : Prop where
  f : ∀ k, (vOf (s.f k)).size ≤ 32
  last : (vOf s.last).size ≤ 32
def Sm (f : Has) : Prop := ∀ k, (vOf (f k)).size ≤ 32
theorem txt_size (n : Int) (h0 : -1125899906842624 ≤ n) (h1 : n ≤ 1125899906842624) : (txt n).size ≤ 32 := by
  rw [← size_len, txt_data]
  have := itoa_len (n := n) (by omega) (by omega)
  omega
theorem emp_size : emp.size ≤ 32 := by decide
theorem ok_kind {o : OpD} (h : okB o = true) (h6 : o.k ≠ 6) : 1 ≤ o.k ∧ o.k ≤ 5 ∧ 0 < o.key.size ∧ o.key.size ≤ 16 ∧ (o.k = 2 → o.val.size ≤ 32) := by
  unfold okB at h
  have d6 : (o.k == 6) = false := by simpa using h6
  rw [d6, Bool.false_or] at h
  simp only [Bool.and_eq_true, Bool.or_eq_true, beq_iff_eq, decide_eq_true_eq] at h
  obtain ⟨h1, h2, h3⟩ := h
  refine ⟨by omega, by omega, h2, h3, fun e => by omega⟩
theorem sm_step {s : Rs} (h : SmS s) {o : OpD} (ho : okB o = true) (h6 : o.k ≠ 6) : SmS (stepS s o) := by
  obtain ⟨k1, k5, _, _, kv⟩ := ok_kind ho h6
  have hf := h.f o.key.data.toList
  have hW : (vOf (stepW o (s.f o.key.data.toList) s.last)).size ≤ 32 := by
    unfold stepW
    split
    · rename_i e; exact kv e
    split
    · exact h.last
    split
    · have := clamp_bound (numR (vOf (s.f o.key.data.toList)) + clampI o.n)
      exact txt_size _ this.1 this.2
    · exact emp_size
  have hR : (vOf (stepR o (s.f o.key.data.toList) s.last)).size ≤ 32 := by
    unfold stepR
    split
    · have := clamp_bound (numR (vOf (s.f o.key.data.toList)) + clampI o.n)
      exact txt_size _ this.1 this.2
    split
    · exact hf
    · exact emp_size
  refine ⟨fun k => ?_, hR⟩
  unfold stepS
  dsimp only
  split
  · unfold putF
    split
    · exact hW
    · exact h.f k
  · exact h.f k
theorem sm_zero : Sm none0 := fun k => emp_size
theorem sm_runS {f : Has} (h : Sm f) : ∀ (l : List OpD), (∀ o ∈ l, okB o = true ∧ o.k ≠ 6) → SmS (runS f l) := by
  intro l
  have key : ∀ (l : List OpD) (s : Rs), SmS s → (∀ o ∈ l, okB o = true ∧ o.k ≠ 6) → SmS (l.foldl stepS s) := by
    intro l
    induction l with
    | nil => intro s hs _; exact hs
    | cons o r ih =>
      intro s hs ho
      rw [List.foldl_cons]
      exact ih _ (sm_step hs (ho o (by simp)).1 (ho o (by simp)).2) (fun x hx => ho x (by simp [hx]))
  exact fun ho => key l ⟨f, none, []⟩ ⟨h, emp_size⟩ ho
theorem good_ops {l : List OpD} (h : goodB l = true) : ∀ o ∈ l, okB o = true ∧ o.k ≠ 6 := by
  simp only [goodB, Bool.and_eq_true, beq_iff_eq] at h
  intro o ho
  refine ⟨?_, fun e => ?_⟩
  · have h1 := h.1
    unfold rightE at h1
    split at h1
    · cases h1
    · split at h1
      · rename_i _ ha; exact List.all_eq_true.1 ha o ho
      · cases h1
  · have h2 := h.2
    unfold abortB at h2
    simp only [Bool.not_eq_true', List.any_eq_false, beq_iff_eq] at h2
    exact h2 o ho e
theorem sm_run {f : Has} (h : Sm f) (l : List OpD) : Sm (runF f l) := by
  unfold runF
  split
  · rename_i hg
    exact (sm_runS h l (good_ops hg)).f
  · exact h
theorem right_zero {l : List OpD} (h : rightE l = 0) : l.length ≤ 16 ∧ ∀ o ∈ l, okB o = true := by
  unfold rightE at h
  split at h
  · cases h
  · rename_i h1
    split at h
    · rename_i h2; exact ⟨by omega, fun o ho => List.all_eq_true.1 h2 o ho⟩
    · cases h
theorem good_not_right {l : List OpD} (h : rightE l ≠ 0) : goodB l = false := by
  unfold goodB
  have : (rightE l == 0) = false := by simpa using h
  rw [this]; rfl
theorem good_abort {l : List OpD} {o : OpD} (h : o ∈ l) (h6 : o.k = 6) : goodB l = false := by
  unfold goodB abortB
  have : l.any (fun o => o.k == 6) = true := List.any_eq_true.2 ⟨o, h, by simpa using h6⟩
  rw [this]; simp
theorem good_all {l : List OpD} (h : rightE l = 0) (ha : ∀ o ∈ l, o.k ≠ 6) : goodB l = true := by
  unfold goodB abortB
  have : l.any (fun o => o.k == 6) = false := List.any_eq_false.2 fun o ho => by simpa using ha o ho
  rw [this, h]; rfl
theorem res_info : (Tryd.prog.info? 45).map (fun i => (i.zero, i.size, i.bytes)) = some (some (.agg #[.string ⟨#[]⟩, .bool false]), 2, 24) := by kernel_rfl
theorem own_nil {w : World} {B size : Nat} {e : TypeId} : w.ownsRow B e size (.slice none 0 0) 0 [] := ⟨by simp, .inl ⟨rfl, rfl⟩⟩
/-- What holds at the head of Run's loop. -/
structure RL (w wr : World) (mb lb n : Nat) (f : Has) (l : List OpD) (k : Nat) (ov : Value) : Prop where
  mp : ∃ D, MP wr mb (n + k) D (runS f (l.take k)).f
  lbk : Blk wr lb 45 #[.string (vOf (runS f (l.take k)).last), .bool (hOf (runS f (l.take k)).last)]
  out : wr.ownsRow (lb + 1) 45 2 ov k (flatR (runS f (l.take k)).out)
  nw : NewW w wr
  noab : ∀ o ∈ l.take k, o.k ≠ 6
structure RunP (w0 w : World) (pb n : Nat) (f : Has) (l : List OpD) (e : Ending) (w' : World) : Prop where
  res : ∃ A c, e = .returned (.tuple #[.slice A (runO f l).length c, .bool (goodB l)]) ∧ w'.ownsRow w.heap.size 45 2 (.slice A (runO f l).length c) (runO f l).length (flatR (runO f l))
  km : KM w0 pb (n + 16) (runF f l) w'
  ch : Ch (fun g => g = pb) w w'
theorem runp_bad {w0 w w' : World} {pb n : Nat} {f : Has} {l : List OpD} (h : KM w0 pb n f w) (hb : goodB l = false) (hN : NewW w w') : RunP w0 w pb n f l (.returned (.tuple #[.slice none 0 0, .bool false])) w' := by
  obtain ⟨r1, r2⟩ := run_bad (f := f) hb
  refine ⟨⟨none, 0, by rw [r1, hb]; rfl, by rw [r1]; exact own_nil⟩, ?_, hN.mono fun _ h => h.elim⟩
  rw [r2]
  obtain ⟨mb, D, hm⟩ := (h.new_ hN).pm
  exact ⟨⟨mb, D, hm.blk, hm.mp.mono (by omega), hm.pB, hm.mB⟩, (h.new_ hN).below⟩
theorem runp_good {w0 w wr : World} {pb mb lb n : Nat} {f : Has} {l : List OpD} {A : Option Addr} {c : Nat} (h : KM w0 pb n f w) (hr : rightE l = 0) (hmb : w.heap.size ≤ mb) (hlb : w.heap.size ≤ lb) (hL : RL w wr mb lb n f l l.length (.slice A l.length c)) :
    RunP w0 w pb n f l (.returned (.tuple #[.slice A l.length c, .bool true])) (wr.setCell ⟨pb, 0, none⟩ (.map (some mb))) := by
  have ho := hL.noab
  have hmp := hL.mp
  have hout := hL.out
  rw [List.take_length] at ho hmp hout
  have hg := good_all hr ho
  obtain ⟨r1, r2⟩ := run_good (f := f) hg
  have hlen := runS_len f l
  have h16 := (right_zero hr).1
  obtain ⟨mb0, D0, hm⟩ := (h.new_ hL.nw).pm
  obtain ⟨D, hD⟩ := hmp
  obtain ⟨_, _, hm0⟩ := h.pm
  have hpl := hm0.blk.lt
  have hc : Ch (fun g => g = pb) wr (wr.setCell ⟨pb, 0, none⟩ (.map (some mb))) := (Ch.refl (fun g => g = pb) wr).setCell (p := ⟨pb, 0, none⟩) (.inl rfl) _
  refine ⟨⟨A, c, by rw [r1, hlen, hg], ?_⟩, ⟨⟨mb, D, ?_, ?_, hm.pB, Nat.le_trans h.size hmb⟩, ?_⟩, (hL.nw.mono fun _ h => h.elim).trans' hc⟩
  · rw [r1, hlen]
    refine own_mono (own_ch hout hc (fun g hg e => ?_)) (show w.heap.size ≤ lb + 1 by omega)
    subst e
    have := (own_lt hout hg).1
    omega
  · exact hm.blk.set_ 0 (.map (some mb))
  · rw [r2]
    exact (hD.mono (by omega)).ch hc (fun e => by omega)
  · exact Ch.below (h.new_ hL.nw).below hc (fun g hg => by rw [hg]; exact hm.pB) (h.new_ hL.nw).below.size
theorem rl_next {w wr w' : World} {mb lb n : Nat} {f : Has} {l : List OpD} {k : Nat} {o : OpD} {v' : Value} (ho : l[k]? = some o) (h6 : o.k ≠ 6) (hna : ∀ o ∈ l.take k, o.k ≠ 6)
    (hmp : ∃ D, MP w' mb (n + (k + 1)) D (stepS (runS f (l.take k)) o).f)
    (hlb : Blk w' lb 45 #[.string (vOf (stepR o ((runS f (l.take k)).f o.key.data.toList) (runS f (l.take k)).last)), .bool (hOf (stepR o ((runS f (l.take k)).f o.key.data.toList) (runS f (l.take k)).last))])
    (hout : w'.ownsRow (lb + 1) 45 2 v' (k + 1) (flatR (runS f (l.take k)).out ++ [.string (vOf (stepR o ((runS f (l.take k)).f o.key.data.toList) (runS f (l.take k)).last)), .bool (hOf (stepR o ((runS f (l.take k)).f o.key.data.toList) (runS f (l.take k)).last))]))
    (hN : NewW w w') : RL w w' mb lb n f l (k + 1) v' := by
  have e := runS_take f ho
  refine ⟨by rw [e]; exact hmp, by rw [e]; exact hlb, ?_, hN, fun x hx => ?_⟩
  · rw [e]
    unfold stepS
    dsimp only
    rw [flatR_snoc]
    exact hout
  · rw [List.take_succ_eq_append_getElem (lt_of_some ho), List.mem_append, List.mem_singleton] at hx
    rcases hx with hx | hx
    · exact hna x hx
    · have := lt_of_some ho
      rw [List.getElem?_eq_getElem this] at ho
      injection ho with ho
      rw [hx, ho]; exact h6
set_option maxRecDepth 100000 in
set_option maxHeartbeats 8000000 in
theorem Run_any {w0 w : World} {pb n m c : Nat} {f : Has} {A : Option Addr} {l : List OpD} (h : KM w0 pb n f w) (hn : n ≤ 100000) (hE : Env w) (hs : Sm f) (hO : Ops w A m l) :
    Calls Tryd.prog 18 #[.pointer (some ⟨pb, 0, none⟩), .slice A m c] w (RunP w0 w pb n f l) := by
  have hm := hO.1
  have HH := Lib.hid h
  have HO := Lib.hid hO
  have HML := Lib.hid hm
  have HE := Lib.hid hE
  have HSM := Lib.hid hs
  have HRI := Lib.hid (Right_any (c := c) hO)
  by_cases hr : rightE l = 0
  case neg =>
    have HB := Lib.hid (good_not_right hr)
    generalize rightE l = R at *
    have d : (R != 0) = true := by simpa using hr
    clear h hO hm hE hs hr
    go_enter Tryd.func18, Tryd.ntmps18
    go_wp2_with fail
    refine HRI.out.mono ?_
    rintro e w1 ⟨rfl, hN⟩
    dsimp only
    have HN := Lib.hid hN
    clear hN HRI
    go_wp2_with fail
    go_ret2
    exact runp_bad HH.out HB.out HN.out
  case pos =>
    have HR0 := Lib.hid hr
    rw [hr] at HRI
    have hm16 : m ≤ 16 := by have := (right_zero hr).1; omega
    have hmI : (m : Int) ≤ 16 := by omega
    have HOK := Lib.hid (right_zero hr).2
    clear hO hm hE hs hr h
    go_enter Tryd.func18, Tryd.ntmps18
    go_wp2_with fail
    refine HRI.out.mono ?_
    rintro e w1 ⟨rfl, hN⟩
    dsimp only
    have HN1 := Lib.hid hN
    obtain ⟨mb0, D0, hm1⟩ := (HH.out.new_ hN).pm
    have c0 := hm1.c0
    have HCL := Lib.hid (AnyW.maps_Clone_owns Tryd.cloneM 9 RH mb0 n D0 w1 hm1.mp.map)
    have HAT := Lib.hid hm1.mp
    clear hN HRI hm1
    go_wp2_with fail
    refine HCL.out.mono ?_
    rintro e w2 ⟨rfl, hown, _, hb⟩
    dsimp only
    have hs1 := HN1.out.size
    have HMB := Lib.hid (show w.heap.size ≤ w1.heap.size from hs1)
    have HN2 := Lib.hid (HN1.out.trans' (Ch.of_below hb fun k hk _ => hk))
    have HMP := Lib.hid (show MP w2 w1.heap.size n D0 f from ⟨hown, HAT.out.at_, HAT.out.has⟩)
    have HLB := Lib.hid (show w.heap.size ≤ w2.heap.size from HN2.out.size)
    have HRL := Lib.hid (show RL w (w2.alloc (.cells #[.string ⟨#[]⟩, .bool false] 45)) w1.heap.size w2.heap.size n f l 0 (.slice none 0 0) from
      ⟨⟨D0, (HMP.out.new_ ((Ch.refl _ w2).alloc _))⟩, Blk.new w2 45 #[.string ⟨#[]⟩, .bool false], own_nil, HN2.out.alloc _, by simp⟩)
    clear hown hb HAT HCL HMP c0 hs1
    generalize w1.heap.size = mb at *
    go_upto_region 6 with (fail)
    generalize w2.alloc (.cells #[.string ⟨#[]⟩, .bool false] 45) = w3 at *
    generalize w2.heap.size = lb at *
    clear HN1 HN2
    go_wp2_with fail
    go_loopw [7, 27] (fun ov i wr => ∃ k : Nat, k ≤ m ∧ i = .int .i64 k ∧ RL w wr mb lb n f l k ov) (fun _ i _ => m - (intOf i).toNat)
    case atStart => exact ⟨0, by omega, rfl, HRL.out⟩
    case round =>
      obtain ⟨k, hk, rfl, hL⟩ := hrel
      obtain ⟨A7, q7, rfl⟩ := own_form hL.out
      by_cases hlt : k < m
      case neg =>
        obtain rfl : k = m := by omega
        obtain ⟨mb1, D1, hm2⟩ := (HH.out.new_ hL.nw).pm
        have c0 := hm2.c0
        have f0 := hm2.blk.frozen 0
        have hml := HML.out
        subst hml
        have HF := Lib.hid (runp_good HH.out HR0.out HMB.out HLB.out hL)
        clear hL hm2 hlt hk HRL
        go_wp2_with fail
        go_ret2
        exact HF.out
      case pos =>
        obtain ⟨o, ho⟩ := some_of_lt (show k < l.length by rw [HML.out]; exact hlt)
        obtain ⟨b, off, rfl, x0, x1, x2, x3⟩ := (HO.out.new_ hL.nw).at_ ho
        have hok := HOK.out o (mem_of_some ho)
        have HHO := Lib.hid ho
        have HGA := Lib.hid (fun h6 => good_abort (mem_of_some ho) h6)
        have HNX := Lib.hid (fun h6 w' v' => rl_next (w := w) (wr := wr) (w' := w') (mb := mb) (lb := lb) (n := n) (f := f) (v' := v') ho h6 hL.noab)
        have hsm := sm_runS HSM.out (l.take k) (fun x hx => ⟨HOK.out x (List.mem_of_mem_take hx), hL.noab x hx⟩)
        obtain ⟨D, hmp⟩ := hL.mp
        have HNW := Lib.hid hL.nw
        have hlbk := hL.lbk
        have HOU := Lib.hid hL.out
        have HOK1 := Lib.hid hok
        generalize hst : runS f (l.take k) = s at *
        have HWA := Lib.hid (fun w' => writes_any o w')
        obtain ⟨K, key, val, N⟩ := o
        dsimp only at x0 x1 x2 x3 hlbk
        by_cases h6 : K = 6
        · subst h6
          have HNB := Lib.hid (hL.nw.alloc (.cells #[.int .i64 6, .string key, .string val, .int .i64 N] 41))
          have HB := Lib.hid (HGA.out rfl)
          clear hL hmp hlbk hsm ho hok hst HNX HWA HOU HRL
          go_wp2_with fail
          go_ret2
          exact runp_bad HH.out HB.out HNB.out
        have d6 : (K == 6) = false := by simpa using h6
        obtain ⟨k1, k5, kz, ks, _⟩ := ok_kind hok h6
        dsimp only at k1 k5 kz ks
        have HN' := Lib.hid (HNX.out h6)
        have HSS := Lib.hid hsm
        -- the step
        have HST := Lib.hid (fun w' (hc : NewW w w') => Step_any ⟨K, key, val, N⟩ k1 k5 (s.f key.data.toList) s.last (HE.out.new_ hc) (Nat.le_trans (hsm.f _) (by omega)))
        dsimp only at HST HWA
        have hlk := (hmp.new_ ((Ch.refl _ wr).alloc (.cells #[.int .i64 K, .string key, .string val, .int .i64 N] 41))).look (key := key) (by unfold maxLen; omega)
        have l0 := (hlbk.alloc (.cells #[.int .i64 K, .string key, .string val, .int .i64 N] 41)).cell 0
        have l1 := (hlbk.alloc (.cells #[.int .i64 K, .string key, .string val, .int .i64 N] 41)).cell 1
        have HBX := Lib.hid (Blk.new wr 41 #[.int .i64 K, .string key, .string val, .int .i64 N])
        have HNB := Lib.hid (hL.nw.alloc (.cells #[.int .i64 K, .string key, .string val, .int .i64 N] 41))
        have HCB := Lib.hid ((Ch.refl (fun _ => False) wr).alloc (.cells #[.int .i64 K, .string key, .string val, .int .i64 N] 41))
        have HMP := Lib.hid hmp
        have HLK := Lib.hid hlbk
        have hbl := HOU.out
        have HKS := Lib.hid (show key.size ≤ 16 from ks)
        have HH6 := Lib.hid h6
        -- names for the results
        obtain ⟨WV, hWV⟩ : ∃ WV, stepW ⟨K, key, val, N⟩ (s.f key.data.toList) s.last = WV := ⟨_, rfl⟩
        obtain ⟨RV, hRV⟩ : ∃ RV, stepR ⟨K, key, val, N⟩ (s.f key.data.toList) s.last = RV := ⟨_, rfl⟩
        obtain ⟨B, hB⟩ : ∃ B, wrB ⟨K, key, val, N⟩ = B := ⟨_, rfl⟩
        have HSF := Lib.hid (show (stepS s ⟨K, key, val, N⟩).f = if B then putF s.f key.data.toList WV else s.f by unfold stepS; dsimp only; rw [hB, hWV])
        rw [hWV, hRV] at HST
        rw [hB] at HWA
        dsimp only at HN'
        rw [hRV] at HN'
        clear hWV hRV hB hL hmp hlbk hsm ho hok hst HNX HRL HGA kz ks h6 hbl
        generalize hv1 : vOf (s.f key.data.toList) = V1 at *
        generalize hv2 : hOf (s.f key.data.toList) = V2 at *
        generalize hv3 : vOf s.last = V3 at *
        generalize hv4 : hOf s.last = V4 at *
        clear hv1 hv2 hv3 hv4
        go_wp2_with fail
        refine (HST.out _ HNB.out).mono ?_
        rintro e w4 ⟨rfl, hN4⟩
        dsimp only
        have HC4 := Lib.hid (HCB.out.trans' hN4)
        have y := HBX.out.ch hN4 (fun h => h)
        have y0 := y.cell 0
        have y1 := y.cell 1
        have y2 := y.cell 2
        have y3 := y.cell 3
        clear x0 x1 x2 x3 l0 l1 hlk HST hN4 HBX HNB HCB
        have HBW := Lib.hid ((Blk.new w4 45 #[.string (vOf WV), .bool (hOf WV)]).alloc (.cells #[.string (vOf RV), .bool (hOf RV)] 45))
        have HBR := Lib.hid (show Blk ((w4.alloc (.cells #[.string (vOf WV), .bool (hOf WV)] 45)).alloc (.cells #[.string (vOf RV), .bool (hOf RV)] 45)) (w4.heap.size + 1) 45 #[.string (vOf RV), .bool (hOf RV)] by
          have := Blk.new (w4.alloc (.cells #[.string (vOf WV), .bool (hOf WV)] 45)) 45 #[.string (vOf RV), .bool (hOf RV)]
          rwa [World.size_alloc] at this)
        have HC5 := Lib.hid ((HC4.out.alloc (.cells #[.string (vOf WV), .bool (hOf WV)] 45)).alloc (.cells #[.string (vOf RV), .bool (hOf RV)] 45))
        have HY := Lib.hid ((y.alloc (.cells #[.string (vOf WV), .bool (hOf WV)] 45)).alloc (.cells #[.string (vOf RV), .bool (hOf RV)] 45))
        have hlbw : lb < w4.heap.size := by
          have h1 := HLK.out.lt
          have h2 := HC4.out.size
          omega
        clear y HC4
        generalize wr.heap.size = xb at *
        obtain ⟨RT, hRT⟩ : ∃ RT, vOf RV = RT := ⟨_, rfl⟩
        obtain ⟨RB, hRB⟩ : ∃ RB, hOf RV = RB := ⟨_, rfl⟩
        rw [hRT, hRB] at HBW HBR HC5 HY HN' ⊢
        clear hRT hRB
        go_upto_region 12 with (fail)
        generalize ((w4.alloc (.cells #[.string (vOf WV), .bool (hOf WV)] 45)).alloc (.cells #[.string RT, .bool RB] 45)) = w5 at *
        clear y0 y1 y2 y3
        generalize w4.heap.size = wb at *
        have y0 := HY.out.cell 0
        have y1 := HY.out.cell 1
        have y2 := HY.out.cell 2
        have y3 := HY.out.cell 3
        go_wp2_with fail
        refine (HWA.out _).mono ?_
        rintro e w6 ⟨rfl, hN6⟩
        dsimp only
        have HC6 := Lib.hid (HC5.out.trans' hN6)
        have HY6 := Lib.hid (HY.out.ch hN6 (fun h => h))
        have HW6 := Lib.hid (HBW.out.ch hN6 (fun h => h))
        have HR6 := Lib.hid (HBR.out.ch hN6 (fun h => h))
        clear y0 y1 y2 y3 hN6 HY HBW HBR HC5
        have y0 := HY6.out.cell 0
        have y1 := HY6.out.cell 1
        have y2 := HY6.out.cell 2
        have y3 := HY6.out.cell 3
        have v0 := HW6.out.cell 0
        have v1 := HW6.out.cell 1
        have r0 := HR6.out.cell 0
        have r1 := HR6.out.cell 1
        cases B
        · go_wp2_with fail
          refine (HWA.out _).mono ?_
          rintro e w7 ⟨rfl, hN7⟩
          dsimp only
          have HCX := Lib.hid (HC6.out.trans' hN7)
          have HRX := Lib.hid (HR6.out.ch hN7 (fun h => h))
          have HLX := Lib.hid (HLK.out.ch HCX.out (fun h => h))
          have HOX := Lib.hid (own_ch HOU.out HCX.out (fun _ _ h => h))
          have HMX := Lib.hid (show ∃ D, MP w7 mb (n + (k + 1)) D (stepS s ⟨K, key, val, N⟩).f from ⟨D, by rw [HSF.out]; exact (HMP.out.new_ HCX.out).mono (by omega)⟩)
          clear hN7 HC6 HY6 HW6 HR6
          have t0 := HRX.out.cell 0
          have t1 := HRX.out.cell 1
          have g0 := HLX.out.cell 0
          have g1 := HLX.out.cell 1
          have f0 := HLX.out.frozen 0
          have f1 := HLX.out.frozen 1
          have hlw := HLX.out.lt
          have hrw := HRX.out.lt
          have hne : lb ≠ wb + 1 := by omega
          have hne' : wb + 1 ≠ lb := by omega
          have HBA := Lib.hid ((HLX.out.set_ 0 (.string RT)).set_ 1 (.bool RB))
          have HCS := Lib.hid (((Ch.refl (fun g => g = lb) w7).setCell (p := ⟨lb, 0, none⟩) (.inl rfl) (.string RT)).setCell (p := ⟨lb, 1, none⟩) (.inl rfl) (.bool RB))
          have HRS := Lib.hid (HRX.out.ch HCS.out hne')
          obtain ⟨i1, hi1, hy0, hy1, hy2⟩ := info_parts res_info
          clear y0 y1 y2 y3 v0 v1 r0 r1
          go_upto_region 17 with (fail)
          generalize ((w7.setCell ⟨lb, 0, none⟩ (.string RT)).setCell ⟨lb, 1, none⟩ (.bool RB)) = wz at *
          clear t0 t1 g0 g1 f0 f1 hrw hne hne'
          have t0 := HRS.out.cell 0
          have t1 := HRS.out.cell 1
          have HOZ := Lib.hid (own_ch HOX.out HCS.out (fun g hg e => by have := (own_lt HOX.out hg).1; omega))
          have hzs := HCS.out.size
          go_wp2_with (first
            | (at_builtin
               refine wpList_append_any _ rfl (.tmp 62) (.tmp 64) _ rfl (lb + 1) 45 i1 _ 2 24 Tryd.underlying34 hi1 hy0 hy1 hy2 rfl (by omega) _ k (flatR s.out) rfl
                 (own_ch HOZ.out ((Ch.refl (fun _ => False) _).alloc _) (fun _ _ h => h)) (wz.heap.size + 1) (some ⟨wz.heap.size, 0, none⟩) 1 1 [.string RT, .bool RB] rfl (reads_new wz 45 #[.string RT, .bool RB] 1 2 rfl) (by simp [Value.oneCell']) (by simp only [maxLen]; omega) (by omega) (by simp; omega) ?_
               intro v8 w8 hown8 hg8 hat8
               have HOA := Lib.hid hown8
               have HG8 := Lib.hid hg8
               clear hown8 hg8 hat8))
          have HCA := Lib.hid ((Ch.refl (fun _ => False) wz).alloc (.cells #[.string RT, .bool RB] 45))
          have HCG := Lib.hid (Ch.of_grown HG8.out)
          have hlne : ¬ (Value.slice A7 k q7).ownBlock = some lb := fun hg => by have := (own_lt HOZ.out hg).1; omega
          have hX : RL w w8 mb lb n f l (k + 1) v8 := by
            refine HN'.out w8 v8 ?_ ?_ HOA.out ?_
            · obtain ⟨D2, hD2⟩ := HMX.out
              have q1 := hD2.ch HCS.out (fun e => map_blk hD2.map HLX.out e)
              have q2 := q1.new_ HCA.out
              exact ⟨D2, q2.ch HCG.out (fun e => map_row q2.map (own_ch HOZ.out HCA.out (fun _ _ h => h)) e)⟩
            · have hb := HBA.out
              exact (hb.ch HCA.out (fun h => h)).ch HCG.out hlne
            · have hlo := HLB.out
              have h1 : NewW w wz := (HNW.out.trans' HCX.out).trans HCS.out (fun g hg => .inr (by omega))
              exact (h1.trans' HCA.out).trans HCG.out (fun g hg => .inr (by have := (own_lt HOZ.out hg).1; omega))
          exact ⟨⟨k + 1, by omega, by go_num, hX⟩, by simp [intOf]; omega⟩
        · cases WV
          · go_wp2_with fail
            refine (HWA.out _).mono ?_
            rintro e w7 ⟨rfl, hN7⟩
            dsimp only
            have HY7 := Lib.hid (HY6.out.ch hN7 (fun h => h))
            have HC7 := Lib.hid (HC6.out.trans' hN7)
            have HR7 := Lib.hid (HR6.out.ch hN7 (fun h => h))
            have z1 := HY7.out.cell 1
            have hmp7 := HMP.out.new_ HC7.out
            have hmap7 := hmp7.map
            have hkey : keyOf Tryd.prog 9 (.string key) = some (.string key.data.toList) := WideMaps.keyOf_string_mk Tryd.underlying9 (by have := HKS.out; unfold maxLen; omega)
            have HMP7 := Lib.hid hmp7
            clear hN7 hmp7 y0 y1 y2 y3 v0 v1 r0 r1
            go_upto_region 16 with (first
              | (at_delete
                 refine wpList_delete_own _ rfl (.tmp 58) (.tmp 60) 92 9 rfl 45 keyed9 Tryd.underlying92 RH mb (n + k) D rfl hmap7 (.string key) (.string key.data.toList) rfl hkey ?_
                 intro w8 hown8 ht8
                 have HO8 := Lib.hid hown8
                 have HT8 := Lib.hid ht8.grown
                 clear hown8 ht8))
            have HCX := Lib.hid ((HC7.out.mono (fun _ h => h.elim) : Ch (fun g => mb = g) wr w7).trans' ((Ch.of_grown HT8.out).mono (fun g hg => Option.some.inj hg)))
            have HRX := Lib.hid (HR7.out.grown HT8.out (fun e => by injection e with e; exact map_blk HMP7.out.map HR7.out e.symm))
            have HLX := Lib.hid ((HLK.out.ch HC7.out (fun h => h)).grown HT8.out (fun e => by injection e with e; exact map_blk HMP7.out.map (HLK.out.ch HC7.out (fun h => h)) e.symm))
            have HOX := Lib.hid (own_ch (own_ch HOU.out HC7.out (fun _ _ h => h)) (Ch.of_grown HT8.out) (fun g hg e => by injection e with e; subst e; exact map_row HMP7.out.map (own_ch HOU.out HC7.out (fun _ _ h => h)) hg))
            have HMX := Lib.hid (show ∃ D, MP w8 mb (n + (k + 1)) D (stepS s ⟨K, key, val, N⟩).f from ⟨_, by rw [HSF.out]; exact (HMP7.out.del HO8.out).mono (by omega)⟩)
            clear HC6 HY6 HW6 HR6 HY7 z1
            have t0 := HRX.out.cell 0
            have t1 := HRX.out.cell 1
            have g0 := HLX.out.cell 0
            have g1 := HLX.out.cell 1
            have f0 := HLX.out.frozen 0
            have f1 := HLX.out.frozen 1
            have hlw := HLX.out.lt
            have hrw := HRX.out.lt
            have hne : lb ≠ wb + 1 := by omega
            have hne' : wb + 1 ≠ lb := by omega
            have HBA := Lib.hid ((HLX.out.set_ 0 (.string RT)).set_ 1 (.bool RB))
            have HCS := Lib.hid (((Ch.refl (fun g => g = lb) w8).setCell (p := ⟨lb, 0, none⟩) (.inl rfl) (.string RT)).setCell (p := ⟨lb, 1, none⟩) (.inl rfl) (.bool RB))
            have HRS := Lib.hid (HRX.out.ch HCS.out hne')
            obtain ⟨i1, hi1, hy0, hy1, hy2⟩ := info_parts res_info
            go_upto_region 17 with (fail)
            generalize ((w8.setCell ⟨lb, 0, none⟩ (.string RT)).setCell ⟨lb, 1, none⟩ (.bool RB)) = wz at *
            clear t0 t1 g0 g1 f0 f1 hrw hne hne'
            have t0 := HRS.out.cell 0
            have t1 := HRS.out.cell 1
            have HOZ := Lib.hid (own_ch HOX.out HCS.out (fun g hg e => by have := (own_lt HOX.out hg).1; omega))
            have hzs := HCS.out.size
            go_wp2_with (first
              | (at_builtin
                 refine wpList_append_any _ rfl (.tmp 62) (.tmp 64) _ rfl (lb + 1) 45 i1 _ 2 24 Tryd.underlying34 hi1 hy0 hy1 hy2 rfl (by omega) _ k (flatR s.out) rfl
                   (own_ch HOZ.out ((Ch.refl (fun _ => False) _).alloc _) (fun _ _ h => h)) (wz.heap.size + 1) (some ⟨wz.heap.size, 0, none⟩) 1 1 [.string RT, .bool RB] rfl (reads_new wz 45 #[.string RT, .bool RB] 1 2 rfl) (by simp [Value.oneCell']) (by simp only [maxLen]; omega) (by omega) (by simp; omega) ?_
                 intro v8 w8 hown8 hg8 hat8
                 have HOA := Lib.hid hown8
                 have HG8 := Lib.hid hg8
                 clear hown8 hg8 hat8))
            have HCA := Lib.hid ((Ch.refl (fun _ => False) wz).alloc (.cells #[.string RT, .bool RB] 45))
            have HCG := Lib.hid (Ch.of_grown HG8.out)
            have hlne : ¬ (Value.slice A7 k q7).ownBlock = some lb := fun hg => by have := (own_lt HOZ.out hg).1; omega
            have hX : RL w w8 mb lb n f l (k + 1) v8 := by
              refine HN'.out w8 v8 ?_ ?_ HOA.out ?_
              · obtain ⟨D2, hD2⟩ := HMX.out
                have q1 := hD2.ch HCS.out (fun e => map_blk hD2.map HLX.out e)
                have q2 := q1.new_ HCA.out
                exact ⟨D2, q2.ch HCG.out (fun e => map_row q2.map (own_ch HOZ.out HCA.out (fun _ _ h => h)) e)⟩
              · have hb := HBA.out
                exact (hb.ch HCA.out (fun h => h)).ch HCG.out hlne
              · have hlo := HLB.out
                have hmo := HMB.out
                have h1 : NewW w wz := (HNW.out.trans HCX.out (fun g hg => .inr (by omega))).trans HCS.out (fun g hg => .inr (by omega))
                exact (h1.trans' HCA.out).trans HCG.out (fun g hg => .inr (by have := (own_lt HOZ.out hg).1; omega))
            exact ⟨⟨k + 1, by omega, by go_num, hX⟩, by simp [intOf]; omega⟩
          · have hmp7 := HMP.out.new_ HC6.out
            have hmap7 := hmp7.map
            have hkey : keyOf Tryd.prog 9 (.string key) = some (.string key.data.toList) := WideMaps.keyOf_string_mk Tryd.underlying9 (by have := HKS.out; unfold maxLen; omega)
            rename_i WT
            have HMP7 := Lib.hid hmp7
            clear hmp7
            go_upto_region 16 with (first
              | (at_mapUpdate
                 refine wpList_mapUpdate_own _ rfl (.tmp 51) (.tmp 53) (.tmp 54) 92 rfl 9 45 keyed9 Tryd.underlying92 RH mb (n + k) D rfl hmap7 (by unfold maxLen; omega) (.string key) (.agg #[.string (vOf (some WT)), .bool (hOf (some WT))]) (.string key.data.toList) rfl rfl hkey (.held (.agg #[.string WT, .bool true])) [] rfl ?_
                 intro w8 hown8 ht8
                 have HO8 := Lib.hid hown8
                 have HT8 := Lib.hid ht8
                 clear hown8 ht8))
            have HCX := Lib.hid ((HC6.out.mono (fun _ h => h.elim) : Ch (fun g => mb = g) wr w6).trans' ((Ch.of_grown HT8.out).mono (fun g hg => Option.some.inj hg)))
            have HRX := Lib.hid (HR6.out.grown HT8.out (fun e => by injection e with e; exact map_blk HMP7.out.map HR6.out e.symm))
            have HLX := Lib.hid ((HLK.out.ch HC6.out (fun h => h)).grown HT8.out (fun e => by injection e with e; exact map_blk HMP7.out.map (HLK.out.ch HC6.out (fun h => h)) e.symm))
            have HOX := Lib.hid (own_ch (own_ch HOU.out HC6.out (fun _ _ h => h)) (Ch.of_grown HT8.out) (fun g hg e => by injection e with e; subst e; exact map_row HMP7.out.map (own_ch HOU.out HC6.out (fun _ _ h => h)) hg))
            have HMX := Lib.hid (show ∃ D, MP w8 mb (n + (k + 1)) D (stepS s ⟨K, key, val, N⟩).f from ⟨_, by rw [HSF.out]; exact HMP7.out.put HO8.out⟩)
            clear HC6 HY6 HW6 HR6
            have t0 := HRX.out.cell 0
            have t1 := HRX.out.cell 1
            have g0 := HLX.out.cell 0
            have g1 := HLX.out.cell 1
            have f0 := HLX.out.frozen 0
            have f1 := HLX.out.frozen 1
            have hlw := HLX.out.lt
            have hrw := HRX.out.lt
            have hne : lb ≠ wb + 1 := by omega
            have hne' : wb + 1 ≠ lb := by omega
            have HBA := Lib.hid ((HLX.out.set_ 0 (.string RT)).set_ 1 (.bool RB))
            have HCS := Lib.hid (((Ch.refl (fun g => g = lb) w8).setCell (p := ⟨lb, 0, none⟩) (.inl rfl) (.string RT)).setCell (p := ⟨lb, 1, none⟩) (.inl rfl) (.bool RB))
            have HRS := Lib.hid (HRX.out.ch HCS.out hne')
            obtain ⟨i1, hi1, hy0, hy1, hy2⟩ := info_parts res_info
            clear y0 y1 y2 y3 v0 v1 r0 r1
            go_upto_region 17 with (fail)
            generalize ((w8.setCell ⟨lb, 0, none⟩ (.string RT)).setCell ⟨lb, 1, none⟩ (.bool RB)) = wz at *
            clear t0 t1 g0 g1 f0 f1 hrw hne hne'
            have t0 := HRS.out.cell 0
            have t1 := HRS.out.cell 1
            have HOZ := Lib.hid (own_ch HOX.out HCS.out (fun g hg e => by have := (own_lt HOX.out hg).1; omega))
            have hzs := HCS.out.size
            go_wp2_with (first
              | (at_builtin
                 refine wpList_append_any _ rfl (.tmp 62) (.tmp 64) _ rfl (lb + 1) 45 i1 _ 2 24 Tryd.underlying34 hi1 hy0 hy1 hy2 rfl (by omega) _ k (flatR s.out) rfl
                   (own_ch HOZ.out ((Ch.refl (fun _ => False) _).alloc _) (fun _ _ h => h)) (wz.heap.size + 1) (some ⟨wz.heap.size, 0, none⟩) 1 1 [.string RT, .bool RB] rfl (reads_new wz 45 #[.string RT, .bool RB] 1 2 rfl) (by simp [Value.oneCell']) (by simp only [maxLen]; omega) (by omega) (by simp; omega) ?_
                 intro v8 w8 hown8 hg8 hat8
                 have HOA := Lib.hid hown8
                 have HG8 := Lib.hid hg8
                 clear hown8 hg8 hat8))
            have HCA := Lib.hid ((Ch.refl (fun _ => False) wz).alloc (.cells #[.string RT, .bool RB] 45))
            have HCG := Lib.hid (Ch.of_grown HG8.out)
            have hlne : ¬ (Value.slice A7 k q7).ownBlock = some lb := fun hg => by have := (own_lt HOZ.out hg).1; omega
            have hX : RL w w8 mb lb n f l (k + 1) v8 := by
              refine HN'.out w8 v8 ?_ ?_ HOA.out ?_
              · obtain ⟨D2, hD2⟩ := HMX.out
                have q1 := hD2.ch HCS.out (fun e => map_blk hD2.map HLX.out e)
                have q2 := q1.new_ HCA.out
                exact ⟨D2, q2.ch HCG.out (fun e => map_row q2.map (own_ch HOZ.out HCA.out (fun _ _ h => h)) e)⟩
              · have hb := HBA.out
                exact (hb.ch HCA.out (fun h => h)).ch HCG.out hlne
              · have hlo := HLB.out
                have hmo := HMB.out
                have h1 : NewW w wz := (HNW.out.trans HCX.out (fun g hg => .inr (by omega))).trans HCS.out (fun g hg => .inr (by omega))
                exact (h1.trans' HCA.out).trans HCG.out (fun g hg => .inr (by have := (own_lt HOZ.out hg).1; omega))
            exact ⟨⟨k + 1, by omega, by go_num, hX⟩, by simp [intOf]; omega⟩
end Go.Proofs.YtbggadhaaphmcaaDoor
