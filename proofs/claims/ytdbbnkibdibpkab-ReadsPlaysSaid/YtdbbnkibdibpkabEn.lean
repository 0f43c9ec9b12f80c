/- ReadsEnd: the law's walk. -/
import Derived.Test.YtdbbnkibdibpkabFix
import Derived.Test.YtdbbnkibdibpkabLaw
import Derived.OpenShut
import Derived.Deep.DeepCutAuto
namespace Go.Proofs.Ytdbbnkibdibpkab
open Go.RowKit Go.ChangeShapes Go.WideShapes
set_option linter.unusedVariables false

/-- A slice of acts: kind, two numbers. -/
def ActAt (w : World) (b off i : Nat) (K X Y : Int) : Prop :=
  w.cell? ⟨b, off + i * 3, none⟩ = some (.int .u8 K) ∧ w.cell? ⟨b, off + i * 3 + 1, none⟩ = some (.int .i64 X) ∧ w.cell? ⟨b, off + i * 3 + 2, none⟩ = some (.int .i64 Y)
def Acts (w : World) (A : Option Addr) (n : Nat) : Prop :=
  n ≤ maxLen ∧ (0 < n → ∃ b off, A = some ⟨b, off, none⟩ ∧ b < w.heap.size ∧ ∀ i, i < n → ∃ (K X Y : Int), 0 ≤ K ∧ K ≤ 255 ∧ (Lit.int .i64 X).wf = true ∧ (Lit.int .i64 Y).wf = true ∧ ActAt w b off i K X Y)
theorem ActAt.below {w0 w : World} {b off i : Nat} {K X Y : Int} (h : ActAt w0 b off i K X Y) (hb : Below w0.heap.size w0 w) (hlt : b < w0.heap.size) : ActAt w b off i K X Y :=
  ⟨(hb.cell hlt).trans h.1, (hb.cell hlt).trans h.2.1, (hb.cell hlt).trans h.2.2⟩

/-- What the law keeps at a round's head. -/
structure EI (w : World) (b me kn m : Nat) (commit : Int) (s : RS) (W : List Rdg) (v : Value) (wr : World) : Prop where
  kr : Kr w b s W v wr
  fine : Fine s W
  self : s.self = me
  n : s.n = kn
  com : commit = s.commit
  r1 : s.rounds ≤ m
section
variable {w wr w2 : World} {b me kn m : Nat} {cm : Int} {s : RS} {W : List Rdg} {v v2 : Value}
theorem EI.alloc (h : EI w b me kn m cm s W v wr) (o : Obj) : Kr w b s W v (wr.alloc o) := (h.kr.new_ ((Ch.refl _ _).alloc o)).1
theorem EI.same (h : EI w b me kn m cm s W v wr) (hk : Kr w b s W v2 w2) : EI w b me kn (m + 1) cm s W v2 w2 := ⟨hk, h.fine, h.self, h.n, h.com, by have := h.r1; omega⟩
theorem EI.committed (h : EI w b me kn m cm s W v wr) (x : Int) (hk : Kr w b (commitS s x) W v w2) : EI w b me kn (m + 1) (if commitE s x = 0 then x else cm) (commitS s x) W v w2 := by
  have hs : (commitS s x).self = s.self ∧ (commitS s x).n = s.n ∧ (commitS s x).rounds = s.rounds ∧ (commitS s x).commit = if commitE s x = 0 then x else s.commit := by
    unfold commitS commitE
    split
    · simp
    split
    · simp
    · simp
  refine ⟨hk, fine_commit h.fine x, hs.1.trans h.self, hs.2.1.trans h.n, ?_, by rw [hs.2.2.1]; have := h.r1; omega⟩
  rw [hs.2.2.2, h.com]
theorem EI.apply (h : EI w b me kn m cm s W v wr) (x : Int) (hk : Kr w b (applyS s x) W v w2) : EI w b me kn (m + 1) cm (applyS s x) W v w2 := by
  have hs : (applyS s x).self = s.self ∧ (applyS s x).n = s.n ∧ (applyS s x).rounds = s.rounds ∧ (applyS s x).commit = s.commit := by
    unfold applyS
    split
    · simp
    split
    · simp
    · simp
  exact ⟨hk, fine_apply h.fine x, hs.1.trans h.self, hs.2.1.trans h.n, h.com.trans hs.2.2.2.symm, by rw [hs.2.2.1]; have := h.r1; omega⟩
theorem EI.asked (h : EI w b me kn m cm s W v wr) (id : Int) (hk : Kr w b s (askW s W id) v2 w2) : EI w b me kn (m + 1) cm s (askW s W id) v2 w2 := by
  refine ⟨hk, ?_, h.self, h.n, h.com, by have := h.r1; omega⟩
  unfold askW
  split
  · exact fine_more h.fine id
  · exact h.fine
theorem EI.beat (h : EI w b me kn m cm s W v wr) (hk : Kr w b (beatS s) W v w2) : EI w b me kn (m + 1) cm (beatS s) W v w2 :=
  ⟨hk, fine_beat h.fine, h.self, h.n, h.com, by have := h.r1; show s.rounds + 1 ≤ _; omega⟩
theorem EI.ack (h : EI w b me kn m cm s W v wr) (x y : Int) (hk : Kr w b (ackSS s x y) W v w2) : EI w b me kn (m + 1) cm (ackSS s x y) W v w2 := by
  by_cases he : ackE s x y = 0
  · have e : ackSS s x y = ackS s x.toNat y := by unfold ackSS; rw [if_pos he]
    rw [e] at hk ⊢
    have hy : y ≤ s.rounds := by
      unfold ackE at he
      split at he
      · omega
      split at he
      · omega
      · omega
    exact ⟨hk, fine_ackS h.fine _ y hy, h.self, h.n, h.com, by have := h.r1; show s.rounds ≤ _; omega⟩
  · have e : ackSS s x y = s := by unfold ackSS; rw [if_neg he]
    rw [e] at hk ⊢
    exact h.same hk
theorem EI.dropped (h : EI w b me kn m cm s W v wr) (k : Nat) (hk : Kr w b s (W.drop k) v2 w2) : EI w b me kn (m + 1) cm s (W.drop k) v2 w2 :=
  ⟨hk, fine_drop h.fine k, h.self, h.n, h.com, by have := h.r1; omega⟩
end
/-- Behind the last round: so many nodes answered. -/
structure EA (w : World) (b me kn j : Nat) (R : Int) (s0 s : RS) (W : List Rdg) (v : Value) (wr : World) : Prop where
  kr : Kr w b s W v wr
  self : s.self = me
  n : s.n = kn
  rounds : s.rounds = R
  com : s.commit = s0.commit
  app : s.applied = s0.applied
  done : ∀ i, i < kn → i < j ∨ i = me → s.ans i = R
  le : ∀ i, i < kn → s.ans i ≤ R
theorem EA.ack {w wr w2 : World} {b me kn j : Nat} {R : Int} {s0 s : RS} {W : List Rdg} {v : Value} (h : EA w b me kn j R s0 s W v wr) (hj : j < kn) (hm : j ≠ me) (hR : 1 ≤ R) (hk : Kr w b (ackSS s j R) W v w2) :
    ackE s j R = 0 ∧ EA w b me kn (j + 1) R s0 (ackSS s j R) W v w2 := by
  have e0 : ackE s j R = 0 := by
    unfold ackE
    rw [if_neg (by rw [h.n, h.self]; omega), if_neg (by rw [h.rounds]; omega)]
  have e : ackSS s j R = ackS s j R := by unfold ackSS; rw [if_pos e0]; simp
  rw [e] at hk ⊢
  refine ⟨e0, hk, h.self, h.n, h.rounds, h.com, h.app, fun i hi hd => ?_, fun i hi => ?_⟩
  · show upd s.ans j (max (s.ans j) R) i = R
    unfold upd
    split
    · have := h.le j hj; omega
    · exact h.done i hi (by omega)
  · show upd s.ans j (max (s.ans j) R) i ≤ R
    unfold upd
    split
    · have := h.le j hj; omega
    · exact h.le i hi
theorem EA.skip {w wr : World} {b me kn : Nat} {R : Int} {s0 s : RS} {W : List Rdg} {v : Value} (h : EA w b me kn me R s0 s W v wr) : EA w b me kn (me + 1) R s0 s W v wr :=
  ⟨h.kr, h.self, h.n, h.rounds, h.com, h.app, fun i hi hd => h.done i hi (by omega), h.le⟩

set_option maxRecDepth 100000 in
set_option maxHeartbeats 8000000 in
theorem end_walk (a c : Int) (A : Option Addr) (n cc : Nat) (w : World) (ha0 : 0 ≤ a) (ha1 : a ≤ 255) (hc0 : 0 ≤ c) (hc1 : c ≤ 255) (hA : Acts w A n) :
    Calls Try.prog 5 #[.int .u8 a, .int .u8 c, .slice A n cc] w fun e w' => e = .returned (.bool true) ∧ Below w.heap.size w w' := by
  have hfx := Lib.hid (fixed_any w)
  have hmax : (n : Int) ≤ 9223372036854775807 := by have := hA.1; unfold maxLen at this; omega
  have hAA := Lib.hid hA
  clear hA
  by_cases hn : 100 < n
  · go_enter Try.func5, Try.ntmps5
    go_wp2_with (go_at_call 6; (with_reducible refine (hfx.out).mono ?_); rintro e w1 ⟨rfl, hb⟩; have hB := Lib.hid hb; clear hb)
    go_ret
    exact ⟨rfl, hB.out⟩
  · have hn' : n ≤ 100 := by omega
    clear hn
    obtain ⟨kn, hkn⟩ : ∃ kn : Nat, 1 + c % 7 = kn := ⟨(1 + c % 7).toNat, by omega⟩
    have hk1 : 1 ≤ kn := by omega
    have hk7 : kn ≤ 7 := by omega
    obtain ⟨me, hme⟩ : ∃ me : Nat, a % (kn : Int) = me := ⟨(a % (kn : Int)).toNat, by have := Int.emod_nonneg a (show (kn : Int) ≠ 0 by omega); omega⟩
    have hmk : me < kn := by have := Int.emod_lt_of_pos a (show 0 < (kn : Int) by omega); omega
    have HKN := Lib.hid hkn
    have HME := Lib.hid hme
    clear hkn hme
    go_enter Try.func5, Try.ntmps5
    go_wp2_with (go_at_call 6; (with_reducible refine (hfx.out).mono ?_); rintro e w1 ⟨rfl, hb⟩; have hB := Lib.hid hb; clear hb)
    rw [HKN.out, HME.out]
    refine (k_new w1 hB.out me kn hk1 hk7 hmk).mono ?_
    rintro e w2 ⟨rfl, hk, -⟩
    dsimp only
    have k0 := Lib.hid hk
    clear hk HKN HME
    generalize w1.heap.size = b at *
    go_wp2_with fail
    go_loopw [10, 34] (fun cm i w' => ∃ (m : Nat) (commit : Int) (s : RS) (W : List Rdg) (v : Value), m ≤ n ∧ i = .int .i64 m ∧ cm = .int .i64 commit ∧ EI w b me kn m commit s W v w') (fun _ i _ => n - (intOf i).toNat)
    case atStart => exact ⟨0, 0, _, _, _, by omega, rfl, rfl, k0.out, fine_fresh me kn _ (fun _ => rfl), rfl, rfl, rfl, Int.le_refl 0⟩
    case round =>
      clear k0 hB hfx
      obtain ⟨m, commit, s, W, v, hm, rfl, rfl, hI⟩ := hrel
      have HI := Lib.hid hI
      clear hI
      by_cases hlt : m < n
      · obtain ⟨b0, off, rfl, hb0', hc⟩ := hAA.out.2 (by omega)
        obtain ⟨K, X, Y, hK0, hK1, wX, wY, hact⟩ := hc m hlt
        have hact := hact.below HI.out.kr.below hb0'
        obtain ⟨c0, c1, c2⟩ := hact
        clear hc hAA wX wY
        have BX := Lib.hid (Blk.new wr 32 #[.int .u8 K, .int .i64 X, .int .i64 Y])
        have KA := Lib.hid (HI.out.alloc (.cells #[.int .u8 K, .int .i64 X, .int .i64 Y] 32))
        go_upto_region 12 with (fail)
        clear c0 c1 c2
        generalize wr.alloc (.cells #[.int .u8 K, .int .i64 X, .int .i64 Y] 32) = wb at *
        generalize wr.heap.size = g at *
        have e0 : wb.cell? ⟨g, 0, none⟩ = some (.int .u8 K) := by rw [BX.out.cell]; rfl
        have e1 : wb.cell? ⟨g, 1, none⟩ = some (.int .i64 X) := by rw [BX.out.cell]; rfl
        have e2 : wb.cell? ⟨g, 2, none⟩ = some (.int .i64 Y) := by rw [BX.out.cell]; rfl
        have hq : K % 9 = 0 ∨ K % 9 = 1 ∨ K % 9 = 2 ∨ K % 9 = 3 ∨ K % 9 = 4 ∨ K % 9 = 5 ∨ K % 9 = 6 ∨ K % 9 = 7 ∨ K % 9 = 8 := by omega
        rcases hq with hq | hq | hq | hq | hq | hq | hq | hq | hq
        · by_cases hE : commitE s X = 0
          · have hC := k_commit KA.out X
            rw [hE] at hC
            have HC := Lib.hid hC
            have HE := Lib.hid hE
            clear hC hE
            go_wp2_with fail
            refine HC.out.mono ?_
            rintro e w2 ⟨rfl, hK, hKp⟩
            dsimp only
            have HK := Lib.hid hK
            have f1 : w2.cell? ⟨g, 1, none⟩ = some (.int .i64 X) := by rw [(hKp _ _ _ (by decide) (by decide) BX.out).cell]; rfl
            clear hK hKp HC
            go_wp2_with fail
            have hE := HI.out.committed X HK.out
            rw [if_pos HE.out] at hE
            exact ⟨⟨m + 1, _, _, _, _, by omega, by go_num, rfl, hE⟩, by simp [intOf]; omega⟩
          · have HE := Lib.hid hE
            have hd : (commitE s X == 0) = false := by simpa using hE
            have HC := Lib.hid (k_commit KA.out X)
            clear hE
            generalize hEE : commitE s X = E at *
            have HEE := Lib.hid hEE
            clear hEE
            go_wp2_with fail
            refine HC.out.mono ?_
            rintro e w2 ⟨rfl, hK, hKp⟩
            dsimp only
            have HK := Lib.hid hK
            clear hK hKp HC
            go_wp2_with fail
            have hE := HI.out.committed X HK.out
            rw [HEE.out, if_neg HE.out] at hE
            exact ⟨⟨m + 1, _, _, _, _, by omega, by go_num, rfl, hE⟩, by simp [intOf]; omega⟩
        · have HC := Lib.hid (k_apply KA.out X)
          go_wp2_with fail
          refine HC.out.mono ?_
          rintro e w2 ⟨rfl, hK, hKp⟩
          dsimp only
          have HK := Lib.hid hK
          clear hK hKp HC
          go_wp2_with fail
          exact ⟨⟨m + 1, _, _, _, _, by omega, by go_num, rfl, HI.out.apply X HK.out⟩, by simp [intOf]; omega⟩
        · have HC := Lib.hid (k_ask KA.out X)
          go_wp2_with fail
          refine HC.out.mono ?_
          rintro e w2 ⟨rfl, v2, hK, hKp⟩
          dsimp only
          have HK := Lib.hid hK
          clear hK hKp HC
          go_wp2_with fail
          exact ⟨⟨m + 1, _, _, _, _, by omega, by go_num, rfl, HI.out.asked X HK.out⟩, by simp [intOf]; omega⟩
        · have HC := Lib.hid (k_ask KA.out X)
          go_wp2_with fail
          refine HC.out.mono ?_
          rintro e w2 ⟨rfl, v2, hK, hKp⟩
          dsimp only
          have HK := Lib.hid hK
          clear hK hKp HC
          go_wp2_with fail
          exact ⟨⟨m + 1, _, _, _, _, by omega, by go_num, rfl, HI.out.asked X HK.out⟩, by simp [intOf]; omega⟩
        · have HC := Lib.hid (k_beat KA.out HI.out.fine.r0 (by have := HI.out.r1; omega))
          go_wp2_with fail
          refine HC.out.mono ?_
          rintro e w2 ⟨rfl, hK, hKp⟩
          dsimp only
          have HK := Lib.hid hK
          clear hK hKp HC
          go_wp2_with fail
          exact ⟨⟨m + 1, _, _, _, _, by omega, by go_num, rfl, HI.out.beat HK.out⟩, by simp [intOf]; omega⟩
        · have HC := Lib.hid (k_ack KA.out X Y)
          go_wp2_with fail
          refine HC.out.mono ?_
          rintro e w2 ⟨rfl, hK, hKp⟩
          dsimp only
          have HK := Lib.hid hK
          clear hK hKp HC
          go_wp2_with fail
          exact ⟨⟨m + 1, _, _, _, _, by omega, by go_num, rfl, HI.out.ack X Y HK.out⟩, by simp [intOf]; omega⟩
        · have HC := Lib.hid (k_ack KA.out X Y)
          go_wp2_with fail
          refine HC.out.mono ?_
          rintro e w2 ⟨rfl, hK, hKp⟩
          dsimp only
          have HK := Lib.hid hK
          clear hK hKp HC
          go_wp2_with fail
          exact ⟨⟨m + 1, _, _, _, _, by omega, by go_num, rfl, HI.out.ack X Y HK.out⟩, by simp [intOf]; omega⟩
        · have HC := Lib.hid (k_ready KA.out)
          go_wp2_with fail
          refine HC.out.mono ?_
          rintro e w2 ⟨A1, q1, v2, rfl, hO, hK, hKp⟩
          dsimp only
          have HK := Lib.hid hK
          clear hK hKp HC hO
          go_wp2_with fail
          exact ⟨⟨m + 1, _, _, _, _, by omega, by go_num, rfl, HI.out.dropped _ HK.out⟩, by simp [intOf]; omega⟩
        · go_wp2_with fail
          exact ⟨⟨m + 1, _, _, _, _, by omega, by go_num, rfl, HI.out.same KA.out⟩, by simp [intOf]; omega⟩
      · obtain rfl : m = n := by omega
        clear hlt hm hAA
        obtain ⟨R, hR⟩ : ∃ R, s.rounds + 1 = R := ⟨_, rfl⟩
        have hR1 : 1 ≤ R := by have := HI.out.fine.r0; omega
        have hwt := Lib.hid (k_waiting HI.out.kr)
        have hbt := k_beat HI.out.kr HI.out.fine.r0 (by have := HI.out.r1; omega)
        rw [hR] at hbt
        have HBT := Lib.hid hbt
        have HRR := Lib.hid hR
        clear hbt hR
        go_wp2_with fail
        refine hwt.out.mono ?_
        rintro e w2 ⟨rfl, rfl⟩
        dsimp only
        go_wp2_with fail
        refine HBT.out.mono ?_
        rintro e w2 ⟨rfl, hK, hKp⟩
        dsimp only
        have hea : EA w b me kn 0 R s (beatS s) W v w2 := ⟨hK, HI.out.self, HI.out.n, HRR.out, rfl, rfl, fun i hi hd => by
            have hi2 : i = s.self := by have := HI.out.self; omega
            subst hi2
            show upd s.ans s.self (s.rounds + 1) s.self = R
            unfold upd; rw [if_pos rfl]; exact HRR.out, fun i hi => by
            have := (fine_beat HI.out.fine).ans i (by show i < s.n; rw [HI.out.n]; exact hi)
            have h2 : (beatS s).rounds = R := HRR.out
            omega⟩
        have HEA := Lib.hid hea
        clear hK hKp hwt HBT hea
        go_wp2_with fail
        go_loopw [86] (fun i w' => ∃ (j : Nat) (s' : RS), j ≤ kn ∧ i = .int .i64 j ∧ EA w b me kn j R s s' W v w') (fun i _ => kn - (intOf i).toNat)
        case atStart => exact ⟨0, _, by omega, rfl, HEA.out⟩
        case round =>
          obtain ⟨j, s', hj, rfl, hE⟩ := hrel
          have HE := Lib.hid hE
          clear hE HEA
          by_cases hlt : j < kn
          · by_cases hjm : j = me
            · subst hjm
              have hd : ((j : Int) != (j : Int)) = false := by simp
              go_wp2_with fail
              exact ⟨⟨j + 1, s', by omega, by go_num, HE.out.skip⟩, by simp [intOf]; omega⟩
            · have hd : ((j : Int) != (me : Int)) = true := by simp; omega
              have hak := k_ack HE.out.kr j R
              have he0 : ackE s' j R = 0 := by
                unfold ackE
                rw [if_neg (by rw [HE.out.n, HE.out.self]; omega), if_neg (by rw [HE.out.rounds]; omega)]
              rw [he0] at hak
              have HAK := Lib.hid hak
              have HJM := Lib.hid hjm
              clear hak he0 hjm
              go_wp2_with fail
              refine HAK.out.mono ?_
              rintro e w3 ⟨rfl, hK, hKp⟩
              dsimp only
              have HK := Lib.hid hK
              clear hK hKp HAK
              go_wp2_with fail
              exact ⟨⟨j + 1, ackSS s' j R, by omega, by go_num, (HE.out.ack hlt HJM.out hR1 HK.out).2⟩, by simp [intOf]; omega⟩
          · obtain rfl : j = kn := by omega
            clear hlt hj
            have hcm : commit = s'.commit := HI.out.com.trans HE.out.com.symm
            have hap := k_apply HE.out.kr commit
            have hce : applyE s' commit = 0 := by
              have h1 := HI.out.fine.app
              have h2 := HI.out.fine.app0
              have h3 := HE.out.app
              have h4 := HE.out.com
              unfold applyE
              rw [if_neg (by omega), if_neg (by omega)]
            have hcs : applyS s' commit = { s' with applied := commit } := by
              have h1 := HI.out.fine.app
              have h2 := HI.out.fine.app0
              have h3 := HE.out.app
              have h4 := HE.out.com
              unfold applyS
              rw [if_neg (by omega), if_neg (by omega)]
            rw [hce, hcs] at hap
            have hall : ∀ i, i < ({ s' with applied := commit } : RS).n → ({ s' with applied := commit } : RS).ans i = ({ s' with applied := commit } : RS).rounds := fun i hi => by
              show s'.ans i = s'.rounds
              rw [HE.out.rounds]
              have hi' : i < s'.n := hi
              exact HE.out.done i (by rw [← HE.out.n]; exact hi') (.inl (by rw [← HE.out.n]; exact hi'))
            have hn1 : 1 ≤ ({ s' with applied := commit } : RS).n := by show 1 ≤ s'.n; rw [HE.out.n]; exact hk1
            have hsu : sureOf { s' with applied := commit } = R := (sure_all _ _ hn1 hall).trans HE.out.rounds
            have hrd : readyK { s' with applied := commit } W = W.length := ready_all hn1 hall fun x hx => by
              have h1 := HI.out.fine.row x hx
              have h2 := HE.out.rounds
              have h3 := HRR.out
              have h4 := HI.out.com
              exact ⟨by show x.2.1 < s'.rounds; omega, by show x.2.2 ≤ commit; omega⟩
            have hrd0 : readyK { s' with applied := commit } [] = 0 := ready_all hn1 hall (by simp)
            have HAP := Lib.hid hap
            have HSU := Lib.hid hsu
            have HRD := Lib.hid hrd
            have HRD0 := Lib.hid hrd0
            generalize ({ s' with applied := commit } : RS) = sf at *
            clear hap hsu hrd hrd0 hcm hce hcs hall hn1
            go_wp2_with fail
            refine HAP.out.mono ?_
            rintro e w3 ⟨rfl, hK, hKp⟩
            dsimp only
            have hS := k_sure hK
            rw [HSU.out] at hS
            have HS := Lib.hid hS
            clear hK hKp hS HAP
            go_wp2_with fail
            refine HS.out.mono ?_
            rintro e w4 ⟨rfl, hK, hKp⟩
            dsimp only
            have hS2 := k_ready hK
            rw [HRD.out, List.drop_length] at hS2
            have HS2 := Lib.hid hS2
            clear hK hKp hS2 HS
            go_wp2_with fail
            refine HS2.out.mono ?_
            rintro e w5 ⟨A5, q5, v5, rfl, hO5, hK, hKp⟩
            dsimp only
            have HW := Lib.hid (k_waiting hK)
            have hS3 := k_ready hK
            rw [HRD0.out] at hS3
            have HS3 := Lib.hid hS3
            clear hK hKp hS3 hO5 HS2
            go_wp2_with fail
            refine HW.out.mono ?_
            rintro e w6 ⟨rfl, rfl⟩
            dsimp only
            go_wp2_with fail
            refine HS3.out.mono ?_
            rintro e w7 ⟨A7, q7, v7, rfl, hO7, hK, hKp⟩
            dsimp only
            have HB := Lib.hid hK.below
            clear hK hKp hO7 HS3
            go_wp2_with fail
            go_ret
            exact ⟨rfl, HB.out⟩
end Go.Proofs.Ytdbbnkibdibpkab
