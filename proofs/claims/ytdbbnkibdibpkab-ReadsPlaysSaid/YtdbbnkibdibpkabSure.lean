/- The greatest round that a majority has answered: the answers' middle one, sorted. -/
import Derived.Test.YtdbbnkibdibpkabRd
import Derived.Test.YtdbbnkibdibpkabShelf
import Derived.Sort.OwnSortedInts
import Derived.Deep.RegionWith
namespace Go.Proofs.Ytdbbnkibdibpkab
open Go.RowKit Go.Sort
set_option linter.unusedVariables false

def anss (s : RS) : List Int := (List.range s.n).map s.ans
def sorted (s : RS) : List Int := (anss s).mergeSort fun x y => decide (x ≤ y)
def sureOf (s : RS) : Int := (sorted s).getD ((s.n - 1) / 2) 0
theorem anss_len (s : RS) : (anss s).length = s.n := by simp [anss]
theorem sorted_len (s : RS) : (sorted s).length = s.n := by simp [sorted, anss_len]
theorem sort_own (base g n cap : Nat) (zs : List Int) (w : World) (h : w.ownsRow base 3 1 (.slice (some ⟨g, 0, none⟩) n cap) n (zs.map (Value.int .i64))) (hn : n = zs.length) (h7 : n ≤ 7) :
    Calls Try.prog 30 #[.slice (some ⟨g, 0, none⟩) n cap] w fun e w' =>
      e = .returned (.tuple #[]) ∧ w'.ownsRow base 3 1 (.slice (some ⟨g, 0, none⟩) n cap) n ((zs.mergeSort fun x y => decide (x ≤ y)).map (Value.int .i64)) ∧ Ch (fun k => k = g) w w' := by
  rcases h.2 with ⟨h0, _⟩ | ⟨g', cap', cur, hv, hg, hb, hnc, hcm, hcs, hcur⟩
  · cases h0
  · injection hv with hA hn' hq
    injection hA with hA
    injection hA with hA
    subst hA hq hn
    have hcur' : cur.toList.take zs.length = zs.map (Value.int .i64) := by simpa using hcur
    have hlt : g < w.heap.size := Blk.lt (t := 3) hb
    refine (Try.slices_Sort_int g 0 cap zs w (holds_of_blockI hb hcur') hlt (by omega)).mono ?_
    rintro e w' ⟨he, k, os, rfl⟩
    refine ⟨he, ownsRow_sortedI (by simp) hg hb hnc hcm hcs, ?_⟩
    have := grownBy_sortedI (w := w) (g := g) (n := k) (os := os) ((zs.mergeSort fun x y => decide (x ≤ y)).toArray)
    exact (Ch.of_grown this).mono fun j hj => by injection hj with hj; exact hj.symm
theorem slice_ans (b n : Nat) (h0 : 1 ≤ n) (h7 : n ≤ 7) (w : World) : (Instr.sliceAt 47 (.pointer (some ⟨b, 2, none⟩)) none (some (.int .i64 n)) none).run Try.prog w = .ok (.slice (some ⟨b, 2, none⟩) n 7) w := by
  have hu : Try.prog.underlying 47 = some (.array (Try.prog.arrayLen 47) (Try.prog.elem 47)) := by kernel_rfl
  have hl : Try.prog.arrayLen 47 = 7 := by kernel_rfl
  have hs : (sizeOf (Try.prog.elem 47)).run Try.prog w = .ok 1 w := by kernel_rfl
  rw [run_sliceAt_array_h w 47 _ hu .i64 n (by omega) (by rw [hl]; omega), hs]
  simp [Result.andThen, slicedAt, hl, Addr.add]
theorem sure_any (B b : Nat) (s : RS) (W : List Rdg) (v : Value) (w : World) (h : Rd w B b s W v) :
    Calls Try.prog 21 #[.pointer (some ⟨b, 0, none⟩)] w fun e w' => e = .returned (.int .i64 (sureOf s)) ∧ Ch (fun _ => False) w w' := by
  have n1 := h.n1
  have n7 := h.n7
  have c1 := h.c1
  have hcl := Lib.hid (Try.slices_Clone_int b 2 s.n 7 ((List.range 7).map s.ans) w.drew (by simp; omega) (by omega) (fun j hj => by
    have hj7 : j < 7 := by simpa using hj
    show w.cell? _ = _
    rw [h.ca hj7]
    simp [List.getD, hj7]))
  have hblt : b < w.heap.size := Blk.lt h.blk
  have HK := Lib.hid h
  have hta : ((List.range 7).map s.ans).take s.n = anss s := by
    unfold anss
    rw [← List.map_take, List.take_range, Nat.min_eq_left n7]
  rw [hta] at hcl
  have hta := Lib.hid hta
  have hsl := slice_ans b s.n n1 n7
  obtain ⟨R, hRR⟩ : ∃ R, sureOf s = R := ⟨_, rfl⟩
  rw [hRR]
  have HRR := Lib.hid hRR
  clear hRR
  go_enter Try.func21, Try.ntmps21
  go_wp2_with fail
  go_region_with ((go_at_call 29; (with_reducible refine (hcl.out).mono ?_); rintro e w1 ⟨v1, rfl, hown, hnn, hbel⟩))
  all_goals
    obtain ⟨g, cap, hv, hg, hgl⟩ := hown.form (by omega)
    subst hv
    have hch : Ch (fun _ => False) w w1 := by
      have := Ch.of_below (S := fun _ => False) hbel (fun k hk _ => hk)
      exact ((Ch.refl (fun _ => False) w).drew).trans' this
    have hsrt := Lib.hid (sort_own _ g s.n cap (anss s) w1 hown (anss_len s).symm n7)
    have hgw : w.heap.size ≤ g := hg
    have HC := Lib.hid hch
    have HN := Lib.hid hnn
    clear hown hbel hch hnn hg
    go_wp2_with fail
    refine hsrt.out.mono ?_
    rintro e w2 ⟨rfl, hown2, hch2⟩
    dsimp only
    have hC2 : Ch (fun _ => False) w w2 := HC.out.trans hch2 (fun k hk => .inr (by omega))
    have hR2 := HK.out.ch hC2 (fun h => h) (fun _ _ h => h)
    have d1 := hR2.c1
    have hq : ((s.n : Int) - 1) / 2 = (((s.n - 1) / 2 : Nat) : Int) := by omega
    have hlt : (s.n - 1) / 2 < s.n := by omega
    have hce : w2.cell? ⟨g, (s.n - 1) / 2, none⟩ = some (.int .i64 (sureOf s)) := by
      have h1 := hown2.cells (g := g) rfl ((s.n - 1) / 2) (.int .i64 (sureOf s)) (by
        rw [List.getElem?_map]
        have : (sorted s)[(s.n - 1) / 2]? = some (sureOf s) := by
          rw [List.getElem?_eq_getElem (by rw [sorted_len]; exact hlt)]
          unfold sureOf
          rw [List.getD_eq_getElem?_getD, List.getElem?_eq_getElem (by rw [sorted_len]; exact hlt)]
          rfl
        unfold sorted at this
        rw [this]; rfl)
      rwa [add_mk, Nat.zero_add] at h1
    have HC2 := Lib.hid hC2
    clear hown2 hch2 hC2 hR2 hsrt HC HN
    rw [HRR.out] at hce
    generalize (s.n - 1) / 2 = q at *
    go_wp2_with fail
    go_ret
    exact ⟨rfl, HC2.out⟩
end Go.Proofs.Ytdbbnkibdibpkab
