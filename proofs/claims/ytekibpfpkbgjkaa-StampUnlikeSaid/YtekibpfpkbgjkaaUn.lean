/- The main walk of kissinggatelaw29.StampUnlike. -/
import Derived.Test.YtekibpfpkbgjkaaWalks
import Derived.Test.YtekibpfpkbgjkaaLibMap
import Derived.Deep.RegionHeld3
import Derived.Deep.DeepCutAuto
namespace Go.Proofs.Ytekibpfpkbgjkaa
open Go.RowKit Go.Maps
set_option linter.unusedVariables false

/-- A slice of deeds: node, time, tell. -/
def Deeds (w : World) (A : Option Addr) (n : Nat) : Prop :=
  n ≤ maxLen ∧ (0 < n → ∃ b off, A = some ⟨b, off, none⟩ ∧ b < w.heap.size ∧ ∀ i, i < n → ∃ (N now : Int) (t : Bool), 0 ≤ N ∧ N ≤ 255 ∧ w.cell? ⟨b, off + i * 3, none⟩ = some (.int .u8 N) ∧
    w.cell? ⟨b, off + i * 3 + 1, none⟩ = some (.int .i64 now) ∧ w.cell? ⟨b, off + i * 3 + 2, none⟩ = some (.bool t))

def ptr (blk : Nat → Nat) (j : Nat) : Value := .pointer (some ⟨blk j, 0, none⟩)

/-- So many sources are made. -/
def Made (w wr : World) (N m : Nat) (v : Value) (blk : Nat → Nat) : Prop :=
  wr.ownsRow w.heap.size 24 1 v m ((List.range m).map (ptr blk)) ∧ (∀ j, j < m → Src wr (blk j) j N 0 0 ∧ w.heap.size ≤ blk j) ∧ (∀ i j, i < m → j < m → blk i = blk j → i = j) ∧ Below w.heap.size w wr

theorem ptr_info : (Try.prog.info? 24).map (fun i => (i.zero, i.size, i.bytes)) = some (some (.pointer none), 1, 8) := by kernel_rfl
theorem int_info : (Try.prog.info? 3).map (fun i => (i.zero, i.size, i.bytes)) = some (some (.int .i64 0), 1, 8) := by kernel_rfl

/-- What is so at the head of each round of the deeds. -/
def URel (w wr : World) (N fb mb : Nat) (sv : Value) (blk : Nat → Nat) (k : Nat) (last : Int) : Prop :=
  ∃ (beh tk : Nat → Int) (D : DataW Unit) (f : Int → Int),
    (∀ j, j < N → Src wr (blk j) j N (beh j) (tk j) ∧ 0 ≤ beh j ∧ beh j ≤ last + 1 ∧ 0 ≤ tk j ∧ tk j ≤ k) ∧
    wr.ownsRow w.heap.size 24 1 sv N ((List.range N).map (ptr blk)) ∧
    wr.ownsRow w.heap.size 3 1 (.slice (some ⟨fb, 0, none⟩) N N) N ((List.range N).map fun j => .int .i64 (beh j)) ∧
    IMap Try.prog 3 3 wr mb k D f ∧ (∀ x, f x ≠ 0 → ∃ j : Nat, j < N ∧ x % (N : Int) = j ∧ x < beh j) ∧ 0 ≤ last ∧ last ≤ 1099511627776 ∧ Below w.heap.size w wr

theorem fam_far {S : Nat → Prop} {w w' : World} {b : Nat} {node nodes behind taken : Int} (h : Src w b node nodes behind taken) (hc : Ch S w w') (hb : ¬ S b) : Src w' b node nodes behind taken := Blk.ch h hc hb

theorem range_snoc_ptr (blk : Nat → Nat) (k b : Nat) : (List.range k).map (ptr blk) ++ [.pointer (some ⟨b, 0, none⟩)] = (List.range (k + 1)).map (ptr fun j => if j = k then b else blk j) := by
  rw [List.range_succ, List.map_append]
  congr 1
  · apply List.map_congr_left
    intro j hj
    have : j ≠ k := by have := List.mem_range.1 hj; omega
    simp [ptr, this]
  · simp [ptr]

theorem made_step {w wr w2 w3 : World} {N k c1 : Nat} {A1 : Option Addr} {v3 : Value} {blk : Nat → Nat} {o : Obj} (hO : wr.ownsRow w.heap.size 24 1 (.slice A1 k c1) k ((List.range k).map (ptr blk)))
    (hS : ∀ j, j < k → Src wr (blk j) j N 0 0 ∧ w.heap.size ≤ blk j) (hI : ∀ i j, i < k → j < k → blk i = blk j → i = j) (hb : Below w.heap.size w wr)
    (c2 : Ch (fun _ => False) wr w2) (s2 : Src w2 wr.heap.size k N 0 0)
    (h3 : w3.ownsRow w.heap.size 24 1 v3 (k + 1) ((List.range k).map (ptr blk) ++ [.pointer (some ⟨wr.heap.size, 0, none⟩)])) (g3 : (w2.alloc o).grownBy w3 (Value.slice A1 k c1).ownBlock) :
    ∃ blk, Made w w3 N (k + 1) v3 blk := by
  have cc : Ch (fun x => (Value.slice A1 k c1).ownBlock = some x) wr w3 := ((c2.mono (by simp)).alloc o).grown g3 (fun x hx => .inl hx)
  have nlt : ∀ j, j < k → blk j < wr.heap.size := fun j hj => (hS j hj).1.lt
  have s3 : Src w3 wr.heap.size k N 0 0 := Blk.grown (Blk.alloc s2 o) g3 (fun e => by
    have := hO.lt _ e.symm
    omega)
  refine ⟨fun j => if j = k then wr.heap.size else blk j, ?_, fun j hj => ?_, fun i j hi hj e => ?_, ?_⟩
  · rw [← range_snoc_ptr]; exact h3
  · by_cases h : j = k
    · subst h
      simp only [if_pos]
      exact ⟨s3, hb.size⟩
    · simp only [if_neg h]
      have hj' : j < k := by omega
      refine ⟨fam_far (hS j hj').1 cc (fun e => own_blk_ne hO (hS j hj').1 (by decide) e), (hS j hj').2⟩
  · by_cases h1 : i = k
    · by_cases h2 : j = k
      · omega
      · have := nlt j (by omega)
        simp only [if_pos h1, if_neg h2] at e
        omega
    · by_cases h2 : j = k
      · have := nlt i (by omega)
        simp only [if_neg h1, if_pos h2] at e
        omega
      · simp only [if_neg h1, if_neg h2] at e
        exact hI i j (by omega) (by omega) e
  · exact Ch.below hb cc (fun x hx => (hO.lt x hx).1) hb.size

theorem src_map_ne {w : World} {b : Nat} {node nodes behind taken : Int} (h : Src w b node nodes behind taken) {mb n : Nat} {D : DataW Unit} {f : Int → Int} (hm : IMap Try.prog 3 3 w mb n D f) : mb ≠ b := map_blk_ne hm.1 h

theorem map_const_int (k : Nat) : (madeCells (Value.int .i64 0).cells (k * 1)).toList = (List.range k).map fun _ => Value.int .i64 0 := by
  have h : (Value.int .i64 0).cells = #[.int .i64 0] := rfl
  rw [h, toList_madeCells_one, Nat.mul_one]
  simp [List.map_const']

/-- A family's turn at i: one source has turned, all others stay. -/
theorem fam_turn {wr w4 w5 : World} {N : Nat} {blk : Nat → Nat} {beh tk : Nat → Int} {last last' : Int} {k i : Nat} (hI : ∀ i j, i < N → j < N → blk i = blk j → i = j)
    (hS : ∀ j, j < N → Src wr (blk j) j N (beh j) (tk j) ∧ 0 ≤ beh j ∧ beh j ≤ last + 1 ∧ 0 ≤ tk j ∧ tk j ≤ k) (c4 : Ch (fun _ => False) wr w4) (hi : i < N)
    {b' t' : Int} (c5 : Ch (fun x => some (blk i) = some x) w4 w5) (s5 : Src w5 (blk i) i N b' t') (hb0 : 0 ≤ b') (hb1 : b' ≤ last' + 1) (hl : last ≤ last') (ht0 : 0 ≤ t') (ht1 : t' ≤ k + 1) :
    ∀ j, j < N → Src w5 (blk j) j N ((fun j => if j = i then b' else beh j) j) ((fun j => if j = i then t' else tk j) j) ∧ 0 ≤ (fun j => if j = i then b' else beh j) j ∧ (fun j => if j = i then b' else beh j) j ≤ last' + 1 ∧ 0 ≤ (fun j => if j = i then t' else tk j) j ∧ (fun j => if j = i then t' else tk j) j ≤ (k + 1 : Nat) := by
  intro j hj
  by_cases h : j = i
  · subst h
    simp only [if_pos]
    exact ⟨s5, hb0, hb1, ht0, by omega⟩
  · simp only [if_neg h]
    obtain ⟨h1, h2, h3, h4, h5⟩ := hS j hj
    refine ⟨fam_far (fam_far h1 c4 (by simp)) c5 (fun e => h (hI i j hi hj (by injection e)).symm), h2, by omega, h4, by omega⟩

theorem own_blk {w : World} {base : Nat} {e : TypeId} {size g n cap : Nat} {xs : List Value} (h : w.ownsRow base e size (.slice (some ⟨g, 0, none⟩) n cap) n xs) : ∃ cur, Blk w g e cur := by
  rcases h.2 with ⟨h1, _⟩ | ⟨g', cap', cur, h1, _, hh, _⟩
  · cases h1
  · injection h1 with h1
    injection h1 with h1
    injection h1 with h1
    subst h1
    exact ⟨cur, hh⟩

/-- A round's end: the source at i has turned, its floor with it; what is told of the map is f'. -/
theorem urel_mk {w wr w4 w5 w7 : World} {N fb mb m sg sc i : Nat} {blk : Nat → Nat} {beh tk : Nat → Int} {last last' b' t' : Int} {D D' : DataW Unit} {f f' : Int → Int}
    (hI : ∀ i j, i < N → j < N → blk i = blk j → i = j) (hge : ∀ j, j < N → w.heap.size ≤ blk j) (hfb : w.heap.size ≤ fb) (hmb : w.heap.size ≤ mb) (hi : i < N)
    (hS : ∀ j, j < N → Src wr (blk j) j N (beh j) (tk j) ∧ 0 ≤ beh j ∧ beh j ≤ last + 1 ∧ 0 ≤ tk j ∧ tk j ≤ m) (c4 : Ch (fun _ => False) wr w4)
    (O4 : w4.ownsRow w.heap.size 24 1 (.slice (some ⟨sg, 0, none⟩) N sc) N ((List.range N).map (ptr blk)))
    (F4 : w4.ownsRow w.heap.size 3 1 (.slice (some ⟨fb, 0, none⟩) N N) N ((List.range N).map fun j => .int .i64 (beh j)))
    (M4 : IMap Try.prog 3 3 w4 mb m D f) (b4 : Below w.heap.size w w4)
    (c5 : Ch (fun x => some (blk i) = some x) w4 w5) (s5 : Src w5 (blk i) i N b' t') (hb0 : 0 ≤ b') (hb1 : b' ≤ last' + 1) (hl : last ≤ last') (hl0 : 0 ≤ last) (hl1 : last' ≤ 1099511627776) (ht0 : 0 ≤ t') (ht1 : t' ≤ m + 1)
    (c7 : Ch (fun x => x = fb ∨ x = mb) w5 w7) (F7 : w7.ownsRow w.heap.size 3 1 (.slice (some ⟨fb, 0, none⟩) N N) N ((List.range N).map fun j => .int .i64 (if j = i then b' else beh j)))
    (M7 : IMap Try.prog 3 3 w7 mb (m + 1) D' f') (hf : ∀ x, f' x ≠ 0 → ∃ j : Nat, j < N ∧ x % (N : Int) = j ∧ x < (if j = i then b' else beh j)) :
    URel w w7 N fb mb (.slice (some ⟨sg, 0, none⟩) N sc) blk (m + 1) last' := by
  have s4 : ∀ j, j < N → Src w4 (blk j) j N (beh j) (tk j) := fun j hj => fam_far (hS j hj).1 c4 (by simp)
  have n1 : ∀ j, j < N → fb ≠ blk j := fun j hj e => own_blk_ne F4 (s4 j hj) (by decide) (by simp [Value.ownBlock, e])
  have n2 : ∀ j, j < N → mb ≠ blk j := fun j hj => src_map_ne (s4 j hj) M4
  obtain ⟨cf, hcf⟩ := own_blk F4
  have n3 : sg ≠ fb := fun e => own_blk_ne O4 hcf (by decide) (by simp [Value.ownBlock, e])
  have n4 : sg ≠ mb := fun e => own_map_ne M4.1 O4 (by simp [Value.ownBlock, e])
  have n5 : sg ≠ blk i := fun e => own_blk_ne O4 (s4 i hi) (by decide) (by simp [Value.ownBlock, e])
  have ft := fam_turn (last' := last') hI hS c4 hi c5 s5 hb0 hb1 hl ht0 ht1
  refine ⟨fun j => if j = i then b' else beh j, fun j => if j = i then t' else tk j, D', f', fun j hj => ?_, ?_, F7, M7, hf, by omega, hl1, ?_⟩
  · obtain ⟨h1, h2, h3, h4, h5⟩ := ft j hj
    exact ⟨fam_far h1 c7 (by have := n1 j hj; have := n2 j hj; omega), h2, h3, h4, h5⟩
  · exact own_ch (own_ch O4 c5 (by intro x hx e; simp [Value.ownBlock] at hx; injection e with e; omega)) c7 (by intro x hx e; simp [Value.ownBlock] at hx; omega)
  · have b5 := Ch.below b4 c5 (by intro x e; injection e with e; have := hge i hi; omega) b4.size
    exact Ch.below b5 c7 (by intro x e; omega) b5.size

theorem map_range_set_int (g : Nat → Int) (n i : Nat) (u : Int) : ((List.range n).map fun j => Value.int .i64 (g j)).set i (.int .i64 u) = (List.range n).map fun j => Value.int .i64 (if j = i then u else g j) := by
  rw [map_range_set]
  apply List.map_congr_left
  intro j _
  by_cases h : j = i <;> simp [h]

theorem aft_parts (node nodes behind now : Int) (h0 : 0 ≤ node) (h1 : node < nodes) (hn : 0 ≤ now) : ∃ t, aft node nodes behind now / nodes = t ∧ aft node nodes behind now % nodes = node ∧ now ≤ t := by
  have key : ∃ t, aft node nodes behind now = t * nodes + node ∧ now ≤ t := by
    unfold aft
    by_cases h : 0 < behind
    · exact ⟨_, by rw [if_pos h], Int.le_max_left _ _⟩
    · exact ⟨_, by rw [if_neg h], Int.le_refl _⟩
  obtain ⟨t, ht, hnt⟩ := key
  have := (Int.ediv_emod_unique (a := aft node nodes behind now) (r := node) (q := t) (show 0 < nodes by omega)).2 ⟨by rw [ht, Int.mul_comm]; omega, h0, h1⟩
  exact ⟨t, this.1, this.2, hnt⟩

theorem aft_ge (node nodes behind now : Int) (h0 : 0 ≤ node) (h1 : node < nodes) (hb : 0 ≤ behind) (hn : 0 ≤ now) : behind ≤ aft node nodes behind now := by
  unfold aft
  by_cases hl : 0 < behind
  · rw [if_pos hl]
    have hm : ((behind - 1) / nodes + 1) * nodes ≤ max now ((behind - 1) / nodes + 1) * nodes := Int.mul_le_mul_of_nonneg_right (Int.le_max_right _ _) (by omega)
    have h2 : (behind - 1) / nodes * nodes + (behind - 1) % nodes = behind - 1 := Int.ediv_mul_add_emod _ nodes
    have h3 : (behind - 1) % nodes < nodes := Int.emod_lt_of_pos _ (by omega)
    have h4 : ((behind - 1) / nodes + 1) * nodes = (behind - 1) / nodes * nodes + nodes := by rw [Int.add_mul, Int.one_mul]
    omega
  · rw [if_neg hl]
    have := Int.mul_nonneg hn (show 0 ≤ nodes by omega)
    omega

theorem aft_small (node nodes behind now : Int) (h0 : 0 ≤ node) (h1 : node < nodes) (h2 : nodes ≤ 7) (hb1 : behind ≤ 549755813888) (hn : 0 ≤ now) (hn1 : now < 68719476736) : aft node nodes behind now ≤ 1099511627776 := by
  have m1 : now * nodes ≤ 68719476736 * 7 := Int.mul_le_mul (by omega) h2 (by omega) (by omega)
  unfold aft
  by_cases hl : 0 < behind
  · rw [if_pos hl]
    have h3 : (behind - 1) / nodes * nodes + (behind - 1) % nodes = behind - 1 := Int.ediv_mul_add_emod _ nodes
    have h5 : 0 ≤ (behind - 1) % nodes := Int.emod_nonneg _ (by omega)
    have h4 : ((behind - 1) / nodes + 1) * nodes = (behind - 1) / nodes * nodes + nodes := by rw [Int.add_mul, Int.one_mul]
    by_cases hm : now ≤ (behind - 1) / nodes + 1
    · rw [Int.max_eq_right hm]; omega
    · rw [Int.max_eq_left (by omega)]; omega
  · rw [if_neg hl]; omega

theorem law3 : Keyed Try.prog 3 := int_keyed Try.underlying3
theorem zero3 (w : World) : (zeroValue 3).run Try.prog w = .ok (.int .i64 0) w := by kernel_rfl

theorem of_at (x n t r : Int) (ht : x / n = t) (hr : x % n = r) (h0 : 0 ≤ x) (h1 : x ≤ 1099511627776) (n0 : 1 ≤ n) (n1 : n ≤ 7) (w : World) :
    Calls Try.prog 15 #[.int .i64 x, .int .i64 n] w fun e w' => e = .returned (.tuple #[.int .i64 t, .int .i64 r, .int .i64 0]) ∧ ∃ k, w' = w.drewN k := by
  have := of_in x n h0 h1 n0 n1 w
  rwa [ht, hr] at this

set_option maxRecDepth 100000 in
set_option maxHeartbeats 8000000 in
theorem unlike_main (a : Int) (A : Option Addr) (n c : Nat) (w : World) (ha0 : 0 ≤ a) (ha1 : a ≤ 255) (hA : Deeds w A n) (hn : n ≤ 100) :
    Calls Try.prog 4 #[.int .u8 a, .slice A n c] w fun e w' => e = .returned (.bool true) ∧ Below w.heap.size w w' := by
  obtain ⟨i0, hi0, hz0, hz1, hz2⟩ := info_parts ptr_info
  obtain ⟨i1, hi1, hy0, hy1, hy2⟩ := info_parts int_info
  have hmm := @run_makeMap Try.prog
  have HA := Lib.hid hA; clear hA
  obtain ⟨N, hN⟩ : ∃ N : Nat, 1 + a % 7 = (N : Int) := ⟨(1 + a % 7).toNat, by omega⟩
  have hN0 : 1 ≤ N := by omega
  have hN7 : N ≤ 7 := by omega
  go_enter Try.func4, Try.ntmps4
  go_wp2_with fail
  refine (fixed_true _).mono ?_
  rintro e w1 ⟨rfl, b1⟩
  go_wp2_with fail
  go_loopw [6, 29] (fun s i wr => ∃ k : Nat, k ≤ N ∧ i = .int .i64 k ∧ ∃ blk, Made w wr N k s blk) (fun _ i _ => N - (intOf i).toNat)
  case atStart => exact ⟨0, Nat.zero_le _, rfl, fun _ => 0, World.ownsRow_nil _ _ _ _, fun j h => by omega, fun i j h => by omega, b1⟩
  case round =>
    obtain ⟨k, hk, rfl, blk, ho, hs, hinj, hb⟩ := hrel
    by_cases hlt : k < N
    · obtain ⟨A1, c1, rfl⟩ := own_form ho
      have HO := Lib.hid ho; clear ho
      have HS := Lib.hid hs; clear hs
      have HI := Lib.hid hinj; clear hinj
      go_wp2_with fail
      refine (new_in k N (by omega) (by omega) (by omega) _).mono ?_
      rintro e w2 ⟨rfl, hw2⟩
      have s2 : Src w2 wr.heap.size k N 0 0 := by rw [hw2]; exact Blk.new _ _ _
      have c2 : Ch (fun _ => False) wr w2 := by rw [hw2]; exact (Ch.refl _ _).alloc _
      have b2 : Below w.heap.size w w2 := Ch.below hb c2 (by simp) hb.size
      have o2 := Lib.hid (own_ch HO.out c2 (by simp))
      clear hw2
      go_wp2_with (first
        | (at_builtin
           refine wpList_append_any _ rfl (.tmp 32) (.tmp 36) _ rfl w.heap.size 24 i0 _ 1 8 Try.underlying39 hi0 hz0 hz1 hz2 rfl (by omega) (.slice A1 k c1) k ((List.range k).map (ptr blk)) rfl
             (o2.out.alloc _) (w2.heap.size + 1) (some ⟨w2.heap.size, 0, none⟩) 1 1 [.pointer (some ⟨wr.heap.size, 0, none⟩)] rfl (reads_one _ _ _) (by simp [Value.oneCell']) (by simp only [maxLen]; omega) (by omega) (by have := b2.size; simp; omega) ?_
           intro v3 w3 hown3 hg3 hat3
           have HO3 := Lib.hid hown3; clear hown3
           have H3 := Lib.hid hat3; clear hat3))
      have HM := made_step (N := N) HO.out HS.out HI.out hb c2 s2 HO3.out hg3
      go_roundw
      case rel => exact ⟨k + 1, by omega, by go_num, HM⟩
      case measure => simp [intOf]; omega
    · have hkN : k = N := by omega
      subst hkN
      clear hlt hk
      obtain ⟨sg, sc, rfl, hsg, hsl⟩ := ho.form (by omega)
      have HO := Lib.hid ho; clear ho
      have HS := Lib.hid hs; clear hs
      have HI := Lib.hid hinj; clear hinj
      go_wp2_with (first
        | (at_make
           refine wpList_make_full _ rfl _ _ 27 rfl w.heap.size 3 i1 (.int .i64 0) 1 Try.underlying27 hi1 hy0 hy1 _ _ _ _ k rfl rfl rfl rfl (by rw [hy2]; omega) (by unfold maxLen; omega) (by have := hb.size; simp; omega) ?_
           intro w3 hown3 hg3
           have HO3 := Lib.hid hown3; clear hown3))
      have c3 : Ch (fun _ => False) wr w3 := ((Ch.refl _ _).alloc (.map #[] 0)).grown hg3 (fun x hx => by cases hx)
      have b3 := Ch.below hb c3 (by simp) hb.size
      have m3 : IMap Try.prog 3 3 w3 wr.heap.size 0 (.map []) (fun _ => 0) := (imap_made wr Try.prog 3 3).ch (Ch.of_grown hg3) (by simp)
      have e3 : (wr.alloc (.map #[] 0)).heap.size = wr.heap.size + 1 := by simp
      have HR : Hid (URel w w3 k (wr.heap.size + 1) wr.heap.size (.slice (some ⟨sg, 0, none⟩) k sc) blk 0 0) := Lib.hid ⟨fun _ => 0, fun _ => 0, _, _,
        fun j hj => ⟨fam_far (HS.out j hj).1 c3 (by simp), by simp, by simp, by simp, by simp⟩, own_ch HO.out c3 (by simp), by have h := HO3.out; rw [map_const_int, e3] at h; exact h, m3, fun x hx => absurd rfl hx, by omega, by omega, b3⟩
      clear e3
      have hge : Hid (∀ j, j < k → w.heap.size ≤ blk j) := Lib.hid fun j hj => (HS.out j hj).2
      have hbm := hb.size
      clear m3 c3 b3 HO HS HO3 hg3
      have hfm : w.heap.size ≤ wr.heap.size + 1 := by omega
      generalize wr.heap.size + 1 = fb at *
      generalize wr.heap.size = mb at *
      clear hb
      go_loopw [10, 44] (fun l i wr => ∃ (m : Nat) (last : Int), m ≤ n ∧ i = .int .i64 m ∧ l = .int .i64 last ∧ URel w wr k fb mb (.slice (some ⟨sg, 0, none⟩) k sc) blk m last) (fun _ i _ => n - (intOf i).toNat)
      case atStart => exact ⟨0, 0, Nat.zero_le _, rfl, rfl, HR.out⟩
      case round =>
        clear HR
        rename_i wr0 _ _ _
        obtain ⟨m, last, hm, rfl, rfl, beh, tk, D, f, hS, hO, hF, hM, hf, hl0, hl1, hb⟩ := hrel
        by_cases hlt : m < n
        · obtain ⟨_, hac⟩ := HA.out
          obtain ⟨b0, off, rfl, hblt, hc⟩ := hac (by omega)
          obtain ⟨Nd, now, t, hd0, hd1, e0, e1, e2⟩ := hc m hlt
          have k0 := (hb.cell (p := ⟨b0, off + m * 3, none⟩) hblt).trans e0
          have k1 := (hb.cell (p := ⟨b0, off + m * 3 + 1, none⟩) hblt).trans e1
          have k2 := (hb.cell (p := ⟨b0, off + m * 3 + 2, none⟩) hblt).trans e2
          have hr0 : 0 ≤ Nd % (k : Int) := Int.emod_nonneg _ (by omega)
          have hr1 : Nd % (k : Int) < k := Int.emod_lt_of_pos _ (by omega)
          obtain ⟨i, hi⟩ : ∃ i : Nat, Nd % (k : Int) = i := ⟨(Nd % (k : Int)).toNat, by omega⟩
          rw [hi] at hr0 hr1
          have hik : i < k := by omega
          have hkz : ¬ (k : Int) = 0 := by omega
          clear hac hc e0 e1 e2 hr0 hr1
          have HS := Lib.hid hS; clear hS
          have HO := Lib.hid hO; clear hO
          have HF := Lib.hid hF; clear hF
          have HM := Lib.hid hM; clear hM
          have Hf := Lib.hid hf; clear hf
          cases t
          · go_upto_region 18 with (fail)
            have hbox := Blk.new wr 42 #[.int .u8 Nd, .int .i64 now, .bool false]
            have c4 : Ch (fun _ => False) wr (wr.alloc (.cells #[.int .u8 Nd, .int .i64 now, .bool false] 42)) := (Ch.refl _ _).alloc _
            have O4 := Lib.hid (own_ch HO.out c4 (by simp))
            have F4 := Lib.hid (own_ch HF.out c4 (by simp))
            have M4 := Lib.hid (HM.out.ch c4 (by simp))
            have b4 := Ch.below hb c4 (by simp) hb.size
            clear HO HF HM hb k0 k1 k2
            generalize wr.alloc (.cells #[.int .u8 Nd, .int .i64 now, .bool false] 42) = w4 at *
            generalize wr.heap.size = ab at *
            have d0 := hbox.cell 0
            have d1 := hbox.cell 1
            have d2 := hbox.cell 2
            simp at d0 d1 d2
            have g0 := O4.out.cellAt i (by omega)
            have g1 := F4.out.cellAt i (by omega)
            have q1 := F4.out.frozenAt i
            simp [hik, ptr] at g0 g1
            obtain ⟨hs0, hs1, hs2, hs3, hs4⟩ := HS.out i hik
            have s4 := fam_far hs0 c4 (by simp)
            clear hs0

            go_wp2_with fail
            have s4d : Src w4.drew (blk i) i k (beh i) (tk i) := s4
            have O4d : w4.drew.ownsRow w.heap.size 24 1 (.slice (some ⟨sg, 0, none⟩) k sc) k ((List.range k).map (ptr blk)) := O4.out
            have F4d : w4.drew.ownsRow w.heap.size 3 1 (.slice (some ⟨fb, 0, none⟩) k k) k ((List.range k).map fun j => .int .i64 (beh j)) := F4.out
            have M4d : IMap Try.prog 3 3 w4.drew mb m D f := M4.out
            have HO4d := Lib.hid O4d
            clear g1 q1 d0 d2
            by_cases hx : now < 0 ∨ 1099511627776 < now
            · have hR : nextR i k (beh i) (tk i) now = ⟨0, 1, beh i, tk i⟩ := by unfold nextR; rw [if_pos hx]
              have HW := Lib.hid (next_at i k (beh i) (tk i) now _ _ _ _ hR (by omega) (by omega) (by omega) (by omega) (by omega) hs3 (by omega) (blk i))
              clear hR
              rcases hx with hx | hx
              · go_region_held3 (fun w' => w'.cell? ⟨sg, i, none⟩ = some (.pointer (some ⟨blk i, 0, none⟩)) ∧ w'.cell? ⟨ab, 1, none⟩ = some (.int .i64 now)) (first | exact ⟨g0, d1⟩ | exact ⟨r0, r1⟩)
                  (first
                    | (go_at_call 10; refine (HW.out _ s4d).mono ?_; rintro e w5 ⟨rfl, s5, g5⟩; have c5 := Ch.of_grown g5; have r1 := ((hbox.drew.ch c5 (by intro e; injection e with e; exact hbox.ne_ s4 (by decide) e.symm)).cell 1); have r0 := (own_ch O4d c5 (by intro x hx e; exact own_blk_ne O4.out s4 (by decide) (hx.trans e.symm))).cellAt i (by omega); simp at r1; simp [hik, ptr] at r0))
                have F5 := Lib.hid (own_ch F4d c5 (by intro x hx e; exact own_blk_ne F4.out s4 (by decide) (hx.trans e.symm)))
                have M5 := Lib.hid (M4d.ch c5 (by intro e; injection e with e; exact src_map_ne s4 M4.out e.symm))
                go_wp2_with fail
                go_roundw
                case rel =>
                  refine ⟨m + 1, last, by omega, by go_num, rfl, ?_⟩
                  have F6 : w5.ownsRow w.heap.size 3 1 (.slice (some ⟨fb, 0, none⟩) k k) k ((List.range k).map fun j => .int .i64 (if j = i then beh i else beh j)) := by
                    have h := F5.out
                    have e : (fun j => Value.int .i64 (if j = i then beh i else beh j)) = fun j => Value.int .i64 (beh j) := by
                      funext j; split
                      · rename_i e; rw [e]
                      · rfl
                    rw [e]; exact h
                  exact urel_mk (D' := D) (f' := f) HI.out hge.out hfm hbm hik HS.out c4.drew O4d F4d M4d b4.drew c5 s5 (by omega) (by omega) (by omega) hl0 hl1 hs3 (by omega) (Ch.refl _ _) F6
                    (M5.out.mono (by omega)) (fun x hx => by
                      obtain ⟨j, h1, h2, h3⟩ := Hf.out x hx
                      refine ⟨j, h1, h2, ?_⟩
                      split
                      · rename_i e; subst e; exact h3
                      · exact h3)
                case measure => simp [intOf]; omega
              · go_region_held3 (fun w' => w'.cell? ⟨sg, i, none⟩ = some (.pointer (some ⟨blk i, 0, none⟩)) ∧ w'.cell? ⟨ab, 1, none⟩ = some (.int .i64 now)) (first | exact ⟨g0, d1⟩ | exact ⟨r0, r1⟩)
                  (first
                    | (go_at_call 10; refine (HW.out _ s4d).mono ?_; rintro e w5 ⟨rfl, s5, g5⟩; have c5 := Ch.of_grown g5; have r1 := ((hbox.drew.ch c5 (by intro e; injection e with e; exact hbox.ne_ s4 (by decide) e.symm)).cell 1); have r0 := (own_ch O4d c5 (by intro x hx e; exact own_blk_ne O4.out s4 (by decide) (hx.trans e.symm))).cellAt i (by omega); simp at r1; simp [hik, ptr] at r0))
                have F5 := Lib.hid (own_ch F4d c5 (by intro x hx e; exact own_blk_ne F4.out s4 (by decide) (hx.trans e.symm)))
                have M5 := Lib.hid (M4d.ch c5 (by intro e; injection e with e; exact src_map_ne s4 M4.out e.symm))
                have hx2 : ¬ now < 68719476736 := by omega
                go_wp2_with fail
                go_roundw
                case rel =>
                  refine ⟨m + 1, last, by omega, by go_num, rfl, ?_⟩
                  have F6 : w5.ownsRow w.heap.size 3 1 (.slice (some ⟨fb, 0, none⟩) k k) k ((List.range k).map fun j => .int .i64 (if j = i then beh i else beh j)) := by
                    have h := F5.out
                    have e : (fun j => Value.int .i64 (if j = i then beh i else beh j)) = fun j => Value.int .i64 (beh j) := by
                      funext j; split
                      · rename_i e; rw [e]
                      · rfl
                    rw [e]; exact h
                  exact urel_mk (D' := D) (f' := f) HI.out hge.out hfm hbm hik HS.out c4.drew O4d F4d M4d b4.drew c5 s5 (by omega) (by omega) (by omega) hl0 hl1 hs3 (by omega) (Ch.refl _ _) F6
                    (M5.out.mono (by omega)) (fun x hx => by
                      obtain ⟨j, h1, h2, h3⟩ := Hf.out x hx
                      refine ⟨j, h1, h2, ?_⟩
                      split
                      · rename_i e; subst e; exact h3
                      · exact h3)
                case measure => simp [intOf]; omega
            · have x0 : 0 ≤ now := by omega
              have x1 : now ≤ 1099511627776 := by omega
              by_cases hX : 1099511627776 < aft i k (beh i) now
              · have hR : nextR i k (beh i) (tk i) now = ⟨0, 7, beh i, tk i⟩ := by unfold nextR; rw [if_neg hx, if_pos hX]
                have HW := Lib.hid (next_at i k (beh i) (tk i) now _ _ _ _ hR (by omega) (by omega) (by omega) (by omega) (by omega) hs3 (by omega) (blk i))
                have hsm : ¬ now < 68719476736 ∨ ¬ last < 549755813888 := by
                  by_cases h1 : now < 68719476736
                  · by_cases h2 : last < 549755813888
                    · have := aft_small i k (beh i) now (by omega) (by omega) (by omega) (by omega) x0 h1
                      omega
                    · exact .inr h2
                  · exact .inl h1
                clear hR hX hx
                by_cases h1 : now < 68719476736
                · have h2 : ¬ last < 549755813888 := by omega
                  clear hsm
                  go_region_held3 (fun w' => w'.cell? ⟨sg, i, none⟩ = some (.pointer (some ⟨blk i, 0, none⟩)) ∧ w'.cell? ⟨ab, 1, none⟩ = some (.int .i64 now)) (first | exact ⟨g0, d1⟩ | exact ⟨r0, r1⟩)
                    (first
                      | (go_at_call 10; refine (HW.out _ s4d).mono ?_; rintro e w5 ⟨rfl, s5, g5⟩; have c5 := Ch.of_grown g5; have r1 := ((hbox.drew.ch c5 (by intro e; injection e with e; exact hbox.ne_ s4 (by decide) e.symm)).cell 1); have r0 := (own_ch O4d c5 (by intro x hx e; exact own_blk_ne O4.out s4 (by decide) (hx.trans e.symm))).cellAt i (by omega); simp at r1; simp [hik, ptr] at r0))
                  have F5 := Lib.hid (own_ch F4d c5 (by intro x hx e; exact own_blk_ne F4.out s4 (by decide) (hx.trans e.symm)))
                  have M5 := Lib.hid (M4d.ch c5 (by intro e; injection e with e; exact src_map_ne s4 M4.out e.symm))
                  go_wp2_with fail
                  go_roundw
                  case rel =>
                    refine ⟨m + 1, last, by omega, by go_num, rfl, ?_⟩
                    have F6 : w5.ownsRow w.heap.size 3 1 (.slice (some ⟨fb, 0, none⟩) k k) k ((List.range k).map fun j => .int .i64 (if j = i then beh i else beh j)) := by
                      have h := F5.out
                      have e : (fun j => Value.int .i64 (if j = i then beh i else beh j)) = fun j => Value.int .i64 (beh j) := by
                        funext j; split
                        · rename_i e; rw [e]
                        · rfl
                      rw [e]; exact h
                    exact urel_mk (D' := D) (f' := f) HI.out hge.out hfm hbm hik HS.out c4.drew O4d F4d M4d b4.drew c5 s5 (by omega) (by omega) (by omega) hl0 hl1 hs3 (by omega) (Ch.refl _ _) F6
                      (M5.out.mono (by omega)) (fun x hx => by
                        obtain ⟨j, h1, h2, h3⟩ := Hf.out x hx
                        refine ⟨j, h1, h2, ?_⟩
                        split
                        · rename_i e; subst e; exact h3
                        · exact h3)
                  case measure => simp [intOf]; omega
                · clear hsm
                  go_region_held3 (fun w' => w'.cell? ⟨sg, i, none⟩ = some (.pointer (some ⟨blk i, 0, none⟩)) ∧ w'.cell? ⟨ab, 1, none⟩ = some (.int .i64 now)) (first | exact ⟨g0, d1⟩ | exact ⟨r0, r1⟩)
                    (first
                      | (go_at_call 10; refine (HW.out _ s4d).mono ?_; rintro e w5 ⟨rfl, s5, g5⟩; have c5 := Ch.of_grown g5; have r1 := ((hbox.drew.ch c5 (by intro e; injection e with e; exact hbox.ne_ s4 (by decide) e.symm)).cell 1); have r0 := (own_ch O4d c5 (by intro x hx e; exact own_blk_ne O4.out s4 (by decide) (hx.trans e.symm))).cellAt i (by omega); simp at r1; simp [hik, ptr] at r0))
                  have F5 := Lib.hid (own_ch F4d c5 (by intro x hx e; exact own_blk_ne F4.out s4 (by decide) (hx.trans e.symm)))
                  have M5 := Lib.hid (M4d.ch c5 (by intro e; injection e with e; exact src_map_ne s4 M4.out e.symm))
                  go_wp2_with fail
                  go_roundw
                  case rel =>
                    refine ⟨m + 1, last, by omega, by go_num, rfl, ?_⟩
                    have F6 : w5.ownsRow w.heap.size 3 1 (.slice (some ⟨fb, 0, none⟩) k k) k ((List.range k).map fun j => .int .i64 (if j = i then beh i else beh j)) := by
                      have h := F5.out
                      have e : (fun j => Value.int .i64 (if j = i then beh i else beh j)) = fun j => Value.int .i64 (beh j) := by
                        funext j; split
                        · rename_i e; rw [e]
                        · rfl
                      rw [e]; exact h
                    exact urel_mk (D' := D) (f' := f) HI.out hge.out hfm hbm hik HS.out c4.drew O4d F4d M4d b4.drew c5 s5 (by omega) (by omega) (by omega) hl0 hl1 hs3 (by omega) (Ch.refl _ _) F6
                      (M5.out.mono (by omega)) (fun x hx => by
                        obtain ⟨j, h1, h2, h3⟩ := Hf.out x hx
                        refine ⟨j, h1, h2, ?_⟩
                        split
                        · rename_i e; subst e; exact h3
                        · exact h3)
                  case measure => simp [intOf]; omega
              · have hR : nextR i k (beh i) (tk i) now = ⟨aft i k (beh i) now, 0, aft i k (beh i) now + 1, tk i + 1⟩ := by unfold nextR; rw [if_neg hx, if_neg hX]
                have HW := Lib.hid (next_at i k (beh i) (tk i) now _ _ _ _ hR (by omega) (by omega) (by omega) (by omega) (by omega) hs3 (by omega) (blk i))
                obtain ⟨T, hT, hI2, hnT⟩ := aft_parts i k (beh i) now (by omega) (by omega) x0
                have hge2 := aft_ge i k (beh i) now (by omega) (by omega) hs1 x0
                have hX1 : aft i k (beh i) now ≤ 1099511627776 := by omega
                clear hR hX hx
                generalize aft (i : Int) (k : Int) (beh i) now = X at *
                have HOF := Lib.hid (fun w => of_at X k T i hT hI2 (by omega) hX1 (by omega) (by omega) w)
                have hfX : f X = 0 := by
                  rcases Classical.em (f X = 0) with h | h
                  · exact h
                  · obtain ⟨j, h1, h2, h3⟩ := Hf.out X h
                    rw [hI2] at h2
                    have : j = i := by omega
                    subst this
                    omega
                have HfX := Lib.hid hfX
                have HI2 := Lib.hid hI2
                have nX : ¬ X < beh i := by omega
                have nT : ¬ T < now := by omega
                clear hfX hI2 hT
                go_region_held3 (fun w' => w'.cell? ⟨sg, i, none⟩ = some (.pointer (some ⟨blk i, 0, none⟩)) ∧ w'.cell? ⟨ab, 1, none⟩ = some (.int .i64 now)) (first | exact ⟨g0, d1⟩ | exact ⟨r0, r1⟩)
                  (first
                    | (go_at_call 10; refine (HW.out _ s4d).mono ?_; rintro e w5 ⟨rfl, s5, g5⟩; have c5 := Ch.of_grown g5; have r1 := ((hbox.drew.ch c5 (by intro e; injection e with e; exact hbox.ne_ s4 (by decide) e.symm)).cell 1); have r0 := (own_ch O4d c5 (by intro x hx e; exact own_blk_ne O4.out s4 (by decide) (hx.trans e.symm))).cellAt i (by omega); simp at r1; simp [hik, ptr] at r0))
                have F5 := Lib.hid (own_ch F4d c5 (by intro x hx e; exact own_blk_ne F4.out s4 (by decide) (hx.trans e.symm)))
                have M5 := Lib.hid (M4d.ch c5 (by intro e; injection e with e; exact src_map_ne s4 M4.out e.symm))
                go_wp2_with fail
                refine (HOF.out _).mono ?_
                rintro e w6 ⟨rfl, kk, hw6⟩
                have s6 : Src w6 (blk i) i k (X + 1) (tk i + 1) := by rw [hw6]; exact s5.drewN kk
                have c6 : Ch (fun x => some (blk i) = some x) w4.drew w6 := by rw [hw6]; exact c5.drewN kk
                have F6 : Hid (w6.ownsRow w.heap.size 3 1 (.slice (some ⟨fb, 0, none⟩) k k) k ((List.range k).map fun j => .int .i64 (beh j))) := by rw [hw6]; exact F5.out
                have M6 : Hid (IMap Try.prog 3 3 w6 mb m D f) := by rw [hw6]; exact M5.out
                have r2 : w6.cell? ⟨ab, 1, none⟩ = some (.int .i64 now) := by rw [hw6]; simpa using r1
                have g3 := F6.out.cellAt i (by omega)
                simp [hik] at g3
                obtain ⟨cf, hcf⟩ := own_blk F6.out
                have hwf : (Lit.int .i64 X).wf = true := WalkArith.wf_i64 (by omega)
                have HWF := Lib.hid hwf
                clear hwf hw6 r0 r1 g0 d1
                go_wp2_with (first
                  | (at_lookup
                     refine wpList_lookup_own_int _ rfl _ _ 40 rfl 3 3 .i64 law3 Try.underlying40 Try.underlying3 (zero3 _) mb m _ rfl M6.out.1 _ _ rfl (keyOf_int_mk Try.underlying3 HWF.out) ?_
                     intro cc hat hwc
                     have hcc := M6.out.at_ hat
                     rw [HfX.out] at hcc
                     subst hcc
                     clear hat hwc)
                  | (at_mapUpdate
                     refine wpList_mapUpdate_own _ rfl _ _ _ 40 rfl 3 3 law3 Try.underlying40 _ mb m _ rfl M6.out.1 (by unfold maxLen; omega) _ _ _ rfl rfl (keyOf_int_mk Try.underlying3 HWF.out) _ [] (plainElem_int Try.underlying3 (by decide)) ?_
                     intro w7 hown7 hg7
                     have c7 := Ch.of_grown hg7
                     have M7 := Lib.hid (M6.out.put hown7)
                     have F7 := Lib.hid (own_ch F6.out c7 (by intro x hx e; exact own_map_ne M6.out.1 F6.out (hx.trans e.symm)))
                     have g4 := F7.out.cellAt i (by omega)
                     have q4 := F7.out.frozenAt i
                     simp [hik] at g4
                     clear hown7 hg7))
                go_roundw
                case rel =>
                  refine ⟨m + 1, _, by omega, by go_num, rfl, ?_⟩
                  have c8 : Ch (fun x => x = fb) w7 (w7.setCell ⟨fb, i, none⟩ (.int .i64 (X + 1))) := Ch.setCell (Ch.refl (fun x => x = fb) _) (p := ⟨fb, i, none⟩) (.inl rfl) _
                  have F8 := (F7.out.stored i (.int .i64 (X + 1))).1
                  rw [map_range_set_int] at F8
                  have cc : Ch (fun x => x = fb ∨ x = mb) w6 (w7.setCell ⟨fb, i, none⟩ (.int .i64 (X + 1))) := Ch.trans' (c7.mono (fun x hx => .inr (by injection hx with hx; exact hx.symm))) (c8.mono fun x hx => .inl hx)
                  exact urel_mk (last := last) HI.out hge.out hfm hbm hik HS.out c4.drew O4d F4d M4d b4.drew c6 s6 (by omega) (by split <;> omega) (by split <;> omega) hl0 (by split <;> omega) (by omega) (by omega) cc F8
                    (M7.out.ch c8 (fun e => map_blk_ne M6.out.1 hcf e)) (fun x hx => by
                      by_cases hxX : x = X
                      · subst hxX
                        exact ⟨i, hik, HI2.out, by rw [if_pos rfl]; omega⟩
                      · simp only [if_neg hxX] at hx
                        obtain ⟨j, h1, h2, h3⟩ := Hf.out x hx
                        refine ⟨j, h1, h2, ?_⟩
                        split
                        · rename_i e; subst e; omega
                        · exact h3)
                case measure => simp [intOf]; omega
          · go_upto_region 18 with (fail)
            have hbox := Blk.new wr 42 #[.int .u8 Nd, .int .i64 now, .bool true]
            have c4 : Ch (fun _ => False) wr (wr.alloc (.cells #[.int .u8 Nd, .int .i64 now, .bool true] 42)) := (Ch.refl _ _).alloc _
            have O4 := Lib.hid (own_ch HO.out c4 (by simp))
            have F4 := Lib.hid (own_ch HF.out c4 (by simp))
            have M4 := Lib.hid (HM.out.ch c4 (by simp))
            have b4 := Ch.below hb c4 (by simp) hb.size
            clear HO HF HM hb k0 k1 k2
            generalize wr.alloc (.cells #[.int .u8 Nd, .int .i64 now, .bool true] 42) = w4 at *
            generalize wr.heap.size = ab at *
            have d0 := hbox.cell 0
            have d1 := hbox.cell 1
            have d2 := hbox.cell 2
            simp at d0 d1 d2
            have g0 := O4.out.cellAt i (by omega)
            have g1 := F4.out.cellAt i (by omega)
            have q1 := F4.out.frozenAt i
            simp [hik, ptr] at g0 g1
            obtain ⟨hs0, hs1, hs2, hs3, hs4⟩ := HS.out i hik
            have s4 := fam_far hs0 c4 (by simp)
            clear hs0

            have hE : sawE last = 0 := by unfold sawE; rw [if_neg (by omega)]
            have hB : sawB (beh i) last = last + 1 := by unfold sawB; rw [if_neg (by omega)]; split <;> omega
            have HW := Lib.hid (saw_at i k (beh i) (tk i) last 0 (last + 1) hE hB (by omega) (by omega) (blk i))
            clear hE hB
            go_wp2_with fail
            refine (HW.out _ s4).mono ?_
            rintro e w5 ⟨rfl, s5, g5⟩
            have c5 := Ch.of_grown g5
            have F5 := Lib.hid (own_ch F4.out c5 (by intro x hx e; exact own_blk_ne F4.out s4 (by decide) (hx.trans e.symm)))
            have M5 := Lib.hid (M4.out.ch c5 (by intro e; injection e with e; exact src_map_ne s4 M4.out e.symm))
            have g2 := F5.out.cellAt i (by omega)
            have q2 := F5.out.frozenAt i
            simp [hik] at g2
            clear g0 g1 q1 d0 d1 d2 g5 HW
            go_wp2_with fail
            go_roundw
            case rel =>
              refine ⟨m + 1, last, by omega, by go_num, rfl, ?_⟩
              have hv : (if beh i < last + 1 then last + 1 else beh i) = last + 1 := by split <;> omega
              rw [hv]
              obtain ⟨cf, hcf⟩ := own_blk F5.out
              have c6 : Ch (fun x => x = fb) w5 (w5.setCell ⟨fb, i, none⟩ (.int .i64 (last + 1))) := Ch.setCell (Ch.refl (fun x => x = fb) _) (p := ⟨fb, i, none⟩) (.inl rfl) _
              have F6 := (F5.out.stored i (.int .i64 (last + 1))).1
              rw [map_range_set_int] at F6
              exact urel_mk (D' := D) (f' := f) HI.out hge.out hfm hbm hik HS.out c4 O4.out F4.out M4.out b4 c5 s5 (by omega) (by omega) (by omega) hl0 hl1 hs3 (by omega) (c6.mono fun x hx => .inl hx) F6
                ((M5.out.ch c6 (fun e => map_blk_ne M5.out.1 hcf e)).mono (by omega)) (fun x hx => by
                  obtain ⟨j, h1, h2, h3⟩ := Hf.out x hx
                  refine ⟨j, h1, h2, ?_⟩
                  split
                  · rename_i e; subst e; omega
                  · exact h3)
            case measure => simp [intOf]; omega
        · clear hS hO hF hM hf
          go_wp2_with fail
          go_ret
          exact ⟨rfl, hb⟩
end Go.Proofs.Ytekibpfpkbgjkaa
