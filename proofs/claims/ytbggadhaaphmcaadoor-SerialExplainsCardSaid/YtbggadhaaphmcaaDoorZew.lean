/- SerialExplains: the document's search, and the walk. -/
import Derived.Test.YtbggadhaaphmcaaDoorZi
namespace Go.Proofs.YtbggadhaaphmcaaDoor
open Go.Lib Go.RowKit
set_option linter.unusedVariables false

def openN (n : Nat) (b : List Int) : Nat := ((List.range n).filter fun i : Nat => !decide ((i : Int) ∈ b)).length
noncomputable def tryR (l : Hist) (r : Nat) (b : List Int) (i : Nat) : Option (List Int) :=
  if (i : Int) ∈ b then none else match r with
    | 0 => none
    | r' + 1 => refS l r' (b ++ [(i : Int)])
theorem ref_open {l : Hist} : ∀ {r : Nat} {b : List Int}, openN l.length b ≤ r → refS l r b = if explB l b then some b else (List.range l.length).findSome? (tryR l r b)
  | 0, b, h => by
    have h0 : openN l.length b = 0 := by omega
    have hall : ∀ i ∈ List.range l.length, tryR l 0 b i = none := by
      intro i _
      unfold tryR
      split <;> rfl
    rw [findSome_no hall]
    rfl
  | r + 1, b, h => rfl
theorem filter_le {α : Type} {p q : α → Bool} (h : ∀ x, q x = true → p x = true) : ∀ l : List α, (l.filter q).length ≤ (l.filter p).length
  | [] => Nat.le_refl _
  | x :: l => by
    have ih := filter_le h l
    cases hq : q x with
    | true => simp [hq, h x hq]; exact ih
    | false => cases hp : p x <;> simp [hq, hp] <;> omega
theorem filter_less {α : Type} {p q : α → Bool} (h : ∀ x, q x = true → p x = true) {a : α} (hp : p a = true) (hq : q a = false) : ∀ {l : List α}, a ∈ l → (l.filter q).length < (l.filter p).length
  | x :: l, hm => by
    have ih := filter_le h l
    rcases List.mem_cons.1 hm with e | hm
    · subst e
      simp [hq, hp]
      omega
    · have ih2 := filter_less h hp hq hm
      cases hqx : q x with
      | true => simp [hqx, h x hqx]; exact ih2
      | false => cases hpx : p x <;> simp [hqx, hpx] <;> omega
theorem open_less {n : Nat} {b : List Int} {i : Nat} (hi : i < n) (hn : (i : Int) ∉ b) : openN n (b ++ [(i : Int)]) < openN n b := by
  unfold openN
  refine filter_less (a := i) (fun x hx => ?_) ?_ ?_ (List.mem_range.2 hi)
  · simp only [Bool.not_eq_true', decide_eq_false_iff_not, List.mem_append, not_or] at hx ⊢
    exact hx.1
  · simpa using hn
  · simp
theorem open_nil (n : Nat) : openN n [] ≤ n := by
  unfold openN
  exact Nat.le_trans (List.length_filter_le _ _) (by simp)
theorem fs_hit {β : Type} {f : Nat → Option β} {k : Nat} {x : β} (h : (List.range k).findSome? f = none) (hf : f k = some x) : ∀ {n : Nat}, k < n → (List.range n).findSome? f = some x
  | n + 1, hk => by
    rw [List.range_succ, List.findSome?_append]
    by_cases e : k = n
    · subst e
      rw [h]
      simp [hf]
    · rw [fs_hit h hf (show k < n by omega)]
      rfl
theorem fs_snoc {β : Type} {f : Nat → Option β} {k : Nat} (h : (List.range k).findSome? f = none) (hf : f k = none) : (List.range (k + 1)).findSome? f = none := by
  rw [List.range_succ, List.findSome?_append, h]
  simp [hf]
theorem own_cap {w : World} {B e n : Nat} {v : Value} {xs : List Value} (h : w.ownsRow B e 1 v n xs) : ∃ A c, v = .slice A n c ∧ n ≤ c ∧ c ≤ maxLen := by
  have hl := h.1
  rcases h.2 with ⟨ev, hx⟩ | ⟨g, cap, cur, ev, _, _, hle, hcm, _⟩
  · exact ⟨none, 0, by rw [ev]; simp_all, by simp_all, by simp [maxLen]⟩
  · exact ⟨_, cap, ev, hle, hcm⟩
def ERefP (w : World) (n c : Nat) (out : Option (List Int)) (e : Ending) (w' : World) : Prop :=
  ∃ (A' : Option Addr) (c' : Nat), e = .returned (.tuple #[.slice A' (out.getD []).length c', .bool out.isSome]) ∧ Nums w' A' (out.getD []).length (out.getD []) ∧ NewW w w'
def ERefIH (n c : Nat) (A : Option Addr) (l : Hist) (r : Nat) : Prop :=
  ∀ (w : World) (A2 : Option Addr) (c2 : Nat) (b : List Int), Deeds w A n l → Nums w A2 b.length b → b.length + r ≤ 8 → b.length ≤ c2 → c2 ≤ 9223372036854775807 → openN l.length b ≤ r →
    Calls Tryd.prog 45 #[.slice A n c, .slice A2 b.length c2] w (ERefP w n c (refS l r b))

theorem own_none (w : World) : (w.alloc (.cells #[] 3)).ownsRow w.heap.size 3 1 (.slice (some ⟨w.heap.size, 0, none⟩) 0 0) 0 [] :=
  ⟨rfl, .inr ⟨w.heap.size, 0, #[], rfl, Nat.le_refl _, heap_alloc_new w _, Nat.le_refl _, by simp [maxLen], by simp, by simp⟩⟩
theorem eref_rec {n c : Nat} {A : Option Addr} {l : Hist} {r : Nat} (hln : l.length = n) (IH : ∀ r', r = r' + 1 → ERefIH n c A l r') {b : List Int} (ho : openN l.length b ≤ r) (hb8 : b.length + r ≤ 8) {k : Nat} (hk : k < n) (hn : (k : Int) ∉ b)
    {w : World} {A2 : Option Addr} {c2 : Nat} (hD : Deeds w A n l) (hN : Nums w A2 (b.length + 1) (b ++ [(k : Int)])) (h1 : b.length + 1 ≤ c2) (h2 : c2 ≤ maxLen) :
    Calls Tryd.prog 45 #[.slice A n c, .slice A2 (b.length + 1) c2] w (ERefP w n c (tryR l r b k)) := by
  have hless := open_less (n := l.length) (by rw [hln]; exact hk) hn
  rcases r with _ | r
  · omega
  · have hl : (b ++ [(k : Int)]).length = b.length + 1 := by simp
    have := IH r rfl w A2 c2 (b ++ [(k : Int)]) hD (by rw [hl]; exact hN) (by rw [hl]; omega) (by rw [hl]; exact h1) (by unfold maxLen at h2; omega) (by omega)
    rw [hl] at this
    unfold tryR
    rw [if_neg hn]
    exact this
set_option maxRecDepth 100000 in
set_option maxHeartbeats 8000000 in
theorem eref_step {n c : Nat} {A : Option Addr} {l : Hist} (hr : ∀ d ∈ l, d.res.length ≤ 1000) (hn8 : n ≤ 8) (r : Nat) (IH : ∀ r', r = r' + 1 → ERefIH n c A l r') : ERefIH n c A l r := by
  intro w A2 c2 b hD hNb hb8 hc2 hcm hop
  have HD := Lib.hid hD
  have HLN := Lib.hid hD.1
  have HNB := Lib.hid hNb
  have HREC := Lib.hid (fun (k : Nat) (hk : k < n) (hn : (k : Int) ∉ b) (w' : World) (A3 : Option Addr) (c3 : Nat) (hN : Nums w' A3 (b.length + 1) (b ++ [(k : Int)])) (h1 : b.length + 1 ≤ c3) (h2 : c3 ≤ maxLen) (hc : NewW w w') => eref_rec (c := c) hD.1 IH hop hb8 hk hn (hD.new_ hc) hN h1 h2)
  have HEX := Lib.hid (Explains_ref (c := c) (c2 := c2) hD hr (by omega) hNb (by omega) hc2 hcm)
  obtain ⟨OUT, hOUT⟩ : ∃ OUT, refS l r b = OUT := ⟨_, rfl⟩
  have HOUT := Lib.hid (show (if explB l b then some b else (List.range n).findSome? (tryR l r b)) = OUT from by rw [← hOUT, ← hD.1]; exact (ref_open hop).symm)
  rw [hOUT]
  obtain ⟨n2, hn2⟩ : ∃ n2, b.length = n2 := ⟨_, rfl⟩
  rw [hn2] at HNB HREC HEX hb8 hc2 ⊢
  have HL2 := Lib.hid hn2
  have hn2I : (n2 : Int) ≤ 8 := by omega
  have hnI : (n : Int) ≤ 8 := by omega
  clear hD hNb hOUT hop hr IH hn2
  go_enter Tryd.func45, Tryd.ntmps45
  go_wp2_with fail
  rcases Bool.eq_false_or_eq_true (explB l b) with hx | hx
  · rw [hx] at HEX HOUT
    have hO := HOUT.out
    rw [if_pos rfl] at hO
    subst hO
    refine HEX.out.mono ?_
    rintro e w1 ⟨rfl, hN⟩
    dsimp only
    have HFIN := Lib.hid (show ERefP w n c (some b) (.returned (.tuple #[.slice A2 n2 c2, .bool true])) w1 from ⟨A2, c2, by rw [Option.getD_some, HL2.out]; rfl, by rw [Option.getD_some, HL2.out]; exact HNB.out.new_ hN, hN⟩)
    clear hN HEX hx
    go_wp2_with fail
    go_ret2
    exact HFIN.out
  · rw [hx] at HEX HOUT
    have HOUT := Lib.hid (show (List.range n).findSome? (tryR l r b) = OUT from by have := HOUT.out; rwa [if_neg (by simp)] at this)
    refine HEX.out.mono ?_
    rintro e w1 ⟨rfl, hN⟩
    dsimp only
    have HN1 := Lib.hid (show NewW w w1 from hN)
    clear hN HEX hx
    go_wp2_with fail
    go_loopw [18] (fun i wr => ∃ k : Nat, k ≤ n ∧ i = .int .i64 k ∧ (List.range k).findSome? (tryR l r b) = none ∧ NewW w wr) (fun i _ => n - (intOf i).toNat)
    case atStart => exact ⟨0, by omega, rfl, by simp, HN1.out⟩
    case round =>
      obtain ⟨k, hk, rfl, hno, hC⟩ := hrel
      have HC := Lib.hid hC
      have HNO := Lib.hid hno
      clear hno hC
      by_cases hlt : k < n
      · have hkI : (k : Int) < (n : Int) := by omega
        go_wp2_with fail
        go_loopw [7, 23] (fun s7 i' w2 => ∃ q : Nat, q ≤ n2 ∧ i' = .int .i64 q ∧ s7 = .bool (decide ((k : Int) ∈ b.take q)) ∧ NewW w w2) (fun _ i _ => n2 - (intOf i).toNat)
        case atStart => exact ⟨0, by omega, rfl, by simp, HC.out⟩
        case round =>
          obtain ⟨q, hq, rfl, rfl, hC2⟩ := hrel
          have HC2 := Lib.hid hC2
          clear hC2
          by_cases hqk : q < n2
          · obtain ⟨y, hy⟩ := some_of_lt (show q < b.length by rw [HL2.out]; exact hqk)
            obtain ⟨b3, off3, rfl, z0⟩ := (HNB.out.new_ HC2.out).at_ hy
            have HMS := Lib.hid (show decide ((k : Int) ∈ b.take (q + 1)) = (decide ((k : Int) ∈ b.take q) || decide (y = (k : Int))) from by simpa using mem_snoc_b (i := (k : Int)) false hy)
            obtain ⟨IN, hIN⟩ : ∃ IN, decide ((k : Int) ∈ b.take q) = IN := ⟨_, rfl⟩
            rw [hIN] at HMS ⊢
            clear hy hIN
            by_cases hyk : y = (k : Int)
            · have dy : decide (y = (k : Int)) = true := by simpa using hyk
              have dy' : (y == (k : Int)) = true := by simpa using hyk
              have HM2 := Lib.hid (show decide ((k : Int) ∈ b.take (q + 1)) = true by rw [HMS.out, dy]; simp)
              cases IN
              · clear hyk
                go_wp2_with fail
                refine ⟨?_, by simp [intOf]; omega⟩
                first
                  | exact ⟨q + 1, by omega, by go_num, by rw [HM2.out], HC2.out⟩
                  | ((repeat apply Exists.intro); exact ⟨⟨q + 1, by omega, by go_num, by rw [HM2.out], HC2.out⟩, rfl⟩)
              · clear hyk
                go_wp2_with fail
                refine ⟨?_, by simp [intOf]; omega⟩
                first
                  | exact ⟨q + 1, by omega, by go_num, by rw [HM2.out], HC2.out⟩
                  | ((repeat apply Exists.intro); exact ⟨⟨q + 1, by omega, by go_num, by rw [HM2.out], HC2.out⟩, rfl⟩)
            · have dy : decide (y = (k : Int)) = false := by simpa using hyk
              have dy' : (y == (k : Int)) = false := by simpa using hyk
              have HM2 := Lib.hid (show decide ((k : Int) ∈ b.take (q + 1)) = IN by rw [HMS.out, dy]; simp)
              cases IN
              · clear hyk
                go_wp2_with fail
                refine ⟨?_, by simp [intOf]; omega⟩
                first
                  | exact ⟨q + 1, by omega, by go_num, by rw [HM2.out], HC2.out⟩
                  | ((repeat apply Exists.intro); exact ⟨⟨q + 1, by omega, by go_num, by rw [HM2.out], HC2.out⟩, rfl⟩)
              · clear hyk
                go_wp2_with fail
                refine ⟨?_, by simp [intOf]; omega⟩
                first
                  | exact ⟨q + 1, by omega, by go_num, by rw [HM2.out], HC2.out⟩
                  | ((repeat apply Exists.intro); exact ⟨⟨q + 1, by omega, by go_num, by rw [HM2.out], HC2.out⟩, rfl⟩)
          · obtain rfl : n2 = q := by omega
            have hall : b.take n2 = b := by rw [← HL2.out, List.take_length]
            rw [hall]
            by_cases hin : (k : Int) ∈ b
            · have d : decide ((k : Int) ∈ b) = true := by simpa using hin
              have HNX := Lib.hid (show (List.range (k + 1)).findSome? (tryR l r b) = none from fs_snoc HNO.out (by unfold tryR; rw [if_pos hin]))
              rw [d]
              clear hqk hq hall hin d
              go_wp2_with fail
              exact ⟨⟨k + 1, by omega, by go_num, HNX.out, HC2.out⟩, by simp [intOf]; omega⟩
            · have d : decide ((k : Int) ∈ b) = false := by simpa using hin
              have HIN := Lib.hid hin
              rw [d]
              obtain ⟨i1, hi1, hy0, hy1, hy2⟩ := info_parts int_info3
              obtain ⟨w2, hw2⟩ : ∃ w2, wr = w2 := ⟨_, rfl⟩
              rw [hw2] at HC2
              rw [hw2]
              have HOW0 := Lib.hid (own_none w2)
              have HRD := Lib.hid (show Reads (w2.alloc (.cells #[] 3)) (w2.alloc (.cells #[] 3)).heap.size 1 A2 n2 (b.map (Value.int .i64)) from reads_rd (by simp [HL2.out]) ((HNB.out.new_ HC2.out).2.new_ ((Ch.refl (fun _ => False) w2).alloc (.cells #[] 3))))
              have HON := Lib.hid (show ∀ u ∈ b.map (Value.int .i64), u.oneCell' = true from fun u hu => by
                obtain ⟨x, _, rfl⟩ := List.mem_map.1 hu
                rfl)
              have HB1 := Lib.hid (show 0 + n2 ≤ maxLen from by unfold maxLen; omega)
              have HB2 := Lib.hid (show (0 + n2) * 8 ≤ 140737488355328 from by omega)
              clear hw2 hqk hq hall hin d
              go_wp2_with (first
                | (at_builtin
                   refine wpList_append_any _ rfl (.tmp 37) (.tmp 38) _ rfl w2.heap.size 3 i1 _ 1 8 Tryd.underlying58 hi1 hy0 hy1 hy2 rfl (by omega) _ 0 [] rfl HOW0.out _ A2 n2 c2 _ rfl HRD.out HON.out HB1.out HB2.out (by simp) ?_
                   intro v8 w8 hown8 hg8 hat8
                   have hown8' : w8.ownsRow w2.heap.size 3 1 v8 n2 (b.map (Value.int .i64)) := by simpa using hown8
                   obtain ⟨A8, q8, rfl, _, _⟩ := own_cap hown8'
                   have HC8 := Lib.hid (show NewW w2 w8 from ((Ch.refl (fun _ => False) w2).alloc (.cells #[] 3)).grown hg8 (fun g hg => .inr (own_lt HOW0.out hg).1))
                   have HC8a := Lib.hid (HC8.out.alloc (.cells #[.int .i64 k] 3))
                   have HO8 := Lib.hid (own_ch hown8' ((Ch.refl (fun _ => False) w8).alloc (.cells #[.int .i64 k] 3)) (fun _ _ h => h))
                   have HRD8 := Lib.hid (reads_one w8 3 (.int .i64 k))
                   have HS8 := Lib.hid (show w2.heap.size ≤ (w8.alloc (.cells #[.int .i64 k] 3)).heap.size from HC8a.out.size)
                   clear hown8 hown8' hg8 hat8)
                | (at_builtin
                   refine wpList_append_any _ rfl (.tmp 39) (.tmp 41) _ rfl w2.heap.size 3 i1 _ 1 8 Tryd.underlying58 hi1 hy0 hy1 hy2 rfl (by omega) _ n2 _ rfl
                     HO8.out (w8.heap.size + 1) (some ⟨w8.heap.size, 0, none⟩) 1 1 [.int .i64 k] rfl HRD8.out (by simp [Value.oneCell']) (by simp only [maxLen]; omega) (by omega) HS8.out ?_
                   intro v9 w9 hown9 hg9 hat9
                   obtain ⟨A9, q9, rfl, hq1, hq2⟩ := own_cap hown9
                   have HC9 := Lib.hid (show NewW w2 w9 from HC8a.out.grown hg9 (fun g hg => .inr (own_lt HO8.out hg).1))
                   have HN9 := Lib.hid (show Nums w9 A9 (n2 + 1) (b ++ [(k : Int)]) from ⟨by simp [HL2.out], by have := Rd.own hown9; simpa using this⟩)
                   have HRK := Lib.hid (HREC.out k hlt HIN.out w9 A9 q9 HN9.out hq1 hq2 (HC2.out.trans' HC9.out))
                   clear hown9 hg9 hat9 hq1 hq2))
              refine HRK.out.mono ?_
              rintro e w10 ⟨Aa, ca, rfl, hna, hN⟩
              dsimp only
              have HNA := Lib.hid hna
              have HC10 := Lib.hid ((HC2.out.trans' HC9.out).trans' hN)
              obtain ⟨O2, hO2⟩ : ∃ O2, tryR l r b k = O2 := ⟨_, rfl⟩
              rw [hO2] at HNA ⊢
              have HO2 := Lib.hid hO2
              clear hna hN hO2 HRK
              rcases O2 with _ | R
              · dsimp only [Option.getD_none, Option.isSome_none, List.length_nil]
                have HNX := Lib.hid (fs_snoc HNO.out HO2.out)
                go_wp2_with fail
                exact ⟨⟨k + 1, by omega, by go_num, HNX.out, HC10.out⟩, by simp [intOf]; omega⟩
              · dsimp only [Option.getD_some, Option.isSome_some] at HNA ⊢
                obtain rfl : OUT = some R := by rw [← HOUT.out]; exact fs_hit HNO.out HO2.out hlt
                have HFIN := Lib.hid (show ERefP w n c (some R) (.returned (.tuple #[.slice Aa R.length ca, .bool true])) w10 from ⟨Aa, ca, rfl, HNA.out, HC10.out⟩)
                go_wp2_with fail
                go_ret2
                exact HFIN.out
      · obtain rfl : n = k := by omega
        have HF := Lib.hid (show ERefP w n c OUT (.returned (.tuple #[.slice none 0 0, .bool false])) wr from by
          rw [← HOUT.out, HNO.out]
          exact ⟨none, 0, rfl, ⟨rfl, Rd.nil_ _ _⟩, HC.out⟩)
        clear hlt hk
        go_wp2_with fail
        go_ret2
        exact HF.out
theorem eref_any {n c : Nat} {A : Option Addr} {l : Hist} (hr : ∀ d ∈ l, d.res.length ≤ 1000) (hn8 : n ≤ 8) : ∀ r, ERefIH n c A l r
  | 0 => eref_step hr hn8 0 (fun _ e => by omega)
  | r + 1 => eref_step hr hn8 (r + 1) (fun r' e => by
      obtain rfl : r = r' := by omega
      exact eref_any hr hn8 r)
theorem Explain_ref {w : World} {n c c2 : Nat} {A A2 : Option Addr} {l : Hist} (hD : Deeds w A n l) (hr : ∀ d ∈ l, d.res.length ≤ 1000) (hn8 : n ≤ 8) (hc : c2 ≤ 9223372036854775807) :
    Calls Tryd.prog 45 #[.slice A n c, .slice A2 0 c2] w (ERefP w n c (refS l n [])) :=
  eref_any hr hn8 n w A2 c2 [] hD ⟨rfl, Rd.nil_ _ _⟩ (by simp; omega) (Nat.zero_le _) hc (by rw [hD.1]; exact open_nil n)
set_option maxRecDepth 100000 in
set_option maxHeartbeats 8000000 in
theorem explains_walk (A : Option Addr) (n c : Nat) (l : Hist) (w : World) (hE : Env w) (hD : Deeds w A n l) :
    Calls Tryd.prog 9 #[.slice A n c] w fun e w' => e = .returned (.bool true) ∧ Below w.heap.size w w' := by
  have HFX := Lib.hid (fixedS_any hE)
  have HE := Lib.hid hE
  have HD := Lib.hid hD
  have HLN := Lib.hid hD.1
  clear hE hD
  go_enter Tryd.func9, Tryd.ntmps9
  go_wp2_with fail
  refine HFX.out.mono ?_
  rintro e w1 ⟨rfl, hb⟩
  dsimp only
  have HB1 := Lib.hid hb
  have HE1 := Lib.hid (HE.out.below hb)
  have HD1 := Lib.hid (HD.out.below hb)
  have HBX := Lib.hid (fun w' (hc : NewW w1 w') => (show Below w.heap.size w w' from Ch.below HB1.out hc (fun _ h => h.elim) HB1.out.size))
  have HFW := Lib.hid (fewD_any (c := c) 5 HD1.out)
  clear hb HFX
  go_wp2_with fail
  rcases Bool.eq_false_or_eq_true (fewD l 5) with hf | hf
  · rw [hf] at HFW
    obtain ⟨hl5, hres, hpl⟩ := few_res hf
    have HRES := Lib.hid hres
    have hn5 : n ≤ 5 := by rw [HLN.out] at hl5; omega
    clear hf hl5 hres hpl
    refine HFW.out.mono ?_
    rintro e w2 ⟨rfl, hN⟩
    dsimp only
    have HN2 := Lib.hid (show NewW w1 w2 from hN)
    clear hN HFW
    have HRR := Lib.hid (fun w' (hc : NewW w1 w') => RightD_ref (c := c) (HD1.out.new_ hc))
    by_cases h0 : rightD l = 0
    · have hfine := (right_hist h0).2.1
      obtain ⟨O, hO⟩ : ∃ O, explO l = O := ⟨_, rfl⟩
      have hl5 : ((O.getD []).length) ≤ 100000 := by
        rw [← hO]
        unfold explO
        rw [if_pos h0, HLN.out]
        cases hq : findS l n [] none0 with
        | none => simp
        | some R => have := find_short n hq; simp; omega
      have HL5 := Lib.hid hl5
      have HRF := Lib.hid (show refS l n [] = O.map natL from by rw [ref_is_find hfine, ← hO]; unfold explO; rw [if_pos h0, HLN.out])
      have HEX := Lib.hid (expl_c (c := c) (HD1.out.new_ HN2.out) HRES.out (HE1.out.new_ HN2.out) hO h0)
      have HER := Lib.hid (fun w' (hc : NewW w1 w') => Explain_ref (c := c) (c2 := 0) (A2 := none) (HD1.out.new_ hc) HRES.out (by omega) (by omega))
      rw [h0] at HRR
      rw [HRF.out] at HER
      clear h0 hfine hO hl5
      go_wp2_with fail
      refine HEX.out.mono ?_
      rintro e w3 ⟨A3, c3, rfl, hn3, hN⟩
      dsimp only
      have HN3 := Lib.hid (HN2.out.trans' hN)
      have HO3 := Lib.hid hn3
      clear hN hn3 HEX
      go_wp2_with fail
      refine (HRR.out _ HN3.out).mono ?_
      rintro e w4 ⟨rfl, hN⟩
      dsimp only
      have HN4 := Lib.hid (HN3.out.trans' hN)
      have HO4 := Lib.hid (HO3.out.new_ hN)
      clear hN HRR HO3
      go_wp2_with fail
      refine (HER.out _ HN4.out).mono ?_
      rintro e w5 ⟨A5, c5, rfl, hn5', hN⟩
      dsimp only
      have HN5 := Lib.hid (HN4.out.trans' hN)
      have HO5 := Lib.hid (HO4.out.new_ hN)
      have HP5 := Lib.hid hn5'
      clear hN hn5' HER HO4
      cases O with
      | none =>
        dsimp only [Option.map, Option.getD, Option.isSome, List.length_nil] at HO5 HP5 ⊢
        have HSM := Lib.hid (SameInts_any (c := c3) (d := c5) HO5.out HP5.out (by decide) (by decide))
        rw [show decide (natL [] = []) = true from rfl] at HSM
        go_wp2_with fail
        refine HSM.out.mono ?_
        rintro e w6 ⟨rfl, hN⟩
        dsimp only
        have HBF := Lib.hid (HBX.out _ (HN5.out.trans' hN))
        clear hN
        go_wp2_with fail
        go_ret
        exact ⟨rfl, HBF.out⟩
      | some R =>
        dsimp only [Option.map, Option.getD, Option.isSome] at HO5 HP5 HL5 ⊢
        have hlR : (natL R).length = R.length := by simp [natL]
        rw [hlR] at HP5 ⊢
        have HSM := Lib.hid (SameInts_any (c := c3) (d := c5) HO5.out HP5.out HL5.out HL5.out)
        rw [show decide (natL R = natL R) = true by simp] at HSM
        generalize R.length = LR at *
        clear hlR
        go_wp2_with fail
        refine HSM.out.mono ?_
        rintro e w6 ⟨rfl, hN⟩
        dsimp only
        have HBF := Lib.hid (HBX.out _ (HN5.out.trans' hN))
        clear hN
        go_wp2_with fail
        go_ret
        exact ⟨rfl, HBF.out⟩
    · have hO : explO l = none := by unfold explO; rw [if_neg h0]
      obtain ⟨V, hV⟩ : ∃ V, rightD l = V := ⟨_, rfl⟩
      have HEX := Lib.hid (expl_c (c := c) (HD1.out.new_ HN2.out) HRES.out (HE1.out.new_ HN2.out) hO hV)
      rw [hV] at HRR h0
      have d1 : (V != 0) = true := by simpa using h0
      have d2 : decide (V = 0) = false := by simpa using h0
      have d3 : (V == 0) = false := by simpa using h0
      have d4 : (V == V) = true := by simp
      clear h0 hV hO
      go_wp2_with fail
      refine HEX.out.mono ?_
      rintro e w3 ⟨A3, c3, rfl, _, hN⟩
      dsimp only [Option.getD, Option.isSome, List.length_nil]
      have HN3 := Lib.hid (HN2.out.trans' hN)
      clear hN HEX
      go_wp2_with fail
      refine (HRR.out _ HN3.out).mono ?_
      rintro e w4 ⟨rfl, hN⟩
      dsimp only
      have HBF := Lib.hid (HBX.out _ (HN3.out.trans' hN))
      clear hN HRR
      go_wp2_with fail
      go_ret
      exact ⟨rfl, HBF.out⟩
  · rw [hf] at HFW
    clear hf
    refine HFW.out.mono ?_
    rintro e w2 ⟨rfl, hN⟩
    dsimp only
    have HBF := Lib.hid (HBX.out _ hN)
    clear hN HFW
    go_wp2_with fail
    go_ret
    exact ⟨rfl, HBF.out⟩
end Go.Proofs.YtbggadhaaphmcaaDoor
