/- The library's contracts that the graph calls: slices.Sort at ints, bits.TrailingZeros64: laid at this dump. -/
import Derived.Shelf.Lay
import Derived.Shelf.LaySoft
import Derived.Ground.SlgmProg
import Derived.Shelf.SortM.Plain
import Derived.Shelf.SortM.SortNone
import Derived.Ground.Names7Prog
import Derived.Shelf.Spec.TrailingZeros
import Derived.Test.YtfcdplfnhjbdnabDoorProg
namespace Go.Proofs
open Go.Shelf
shelf_lay Lays7.n29 Nm7 29 at Tryd as Tryd.tz29
shelf_lay_g SlLaysM.n5 Slgm 5 at Tryd 39 as Tryd.laysSlM5_f39
open Go.Sort Go.RowKit in
theorem Tryd.slices_Sort_int (blk off cap : Nat) (zs : List Int) (w : World) (hH : Holds (Value.int .i64) w blk off zs.toArray) (hblk : blk < w.heap.size) (hsz : zs.length < 4611686018427387904) :
    Calls Tryd.prog 39 #[.slice (some ⟨blk, off, none⟩) zs.length cap] w fun e w' =>
      e = .returned (.tuple #[]) ∧ ∃ n os, w' = grow (putRow (Value.int .i64) (Sort.ahead w n) blk off (zs.mergeSort fun x y => decide (x ≤ y)).toArray) os := AnyM.slices_Sort_int Tryd.laysSlM5_f39 blk off cap zs w hH hblk hsz
open Go.RowKit Go.Sort in
theorem Tryd.slices_Sort_int_none (p : Option Addr) (cap : Nat) (w : World) :
    Calls Tryd.prog 39 #[.slice p 0 cap] w fun e w' => e = .returned (.tuple #[]) ∧ w' = w := AnyM.slices_Sort_int_none Tryd.laysSlM5_f39 p cap w
open Go.RowKit in
theorem Tryd.tz64 (x : Nat) (hx : x < 18446744073709551616) (w : World) (hT : x ≠ 0 → TabAt 0 Lib.deBruijn64tab w) :
    Calls Tryd.prog 45 #[.int .u64 x] w fun e w' => e = .returned (.int .i64 (Lib.ctz 64 x)) ∧ w' = w := Any7.bits_TrailingZeros64 Tryd.tz29 x hx w hT
end Go.Proofs
