/- The library's sort of whole numbers, as the shelf's contracts lay it at this program. No condition. -/
import Derived.Test.YtmalajoglcpijaaInts
import Derived.Shelf.Sort.Plain
import Derived.Shelf.Slices.In.SortNone
namespace Go.Proofs.Ytmalajoglcpijaa
set_option maxHeartbeats 0
set_option maxRecDepth 100000
open Go.Shelf
def shelf_lays189_ren : Go.Shelf.Ren := ⟨fun | 189 => 70 | 125 => 97 | 257 => 96 | 128 => 115 | 129 => 116 | 294 => 106 | 295 => 107 | 296 => 108 | 297 => 109 | 298 => 110 | 299 => 111 | 216 => 112 | 300 => 113 | 301 => 114 | 328 => 121 | 329 => 122 | 330 => 123 | 331 => 124 | 332 => 125 | 215 => 126 | 343 => 128 | n => n, fun | 28 => 41 | 3 => 3 | 46 => 108 | 0 => 0 | 51 => 121 | 53 => 77 | 4 => 4 | 183 => 115 | 182 => 114 | 131 => 63 | 5 => 5 | 9 => 9 | 218 => 128 | 222 => 132 | 228 => 135 | 229 => 136 | n => n, fun | n => n⟩
theorem shelf_lays189 : Go.Proofs.Lays.n189 Try.prog shelf_lays189_ren := {
  mixed := by kernel_rfl
  f125 := Try.func97.trans (congrArg some (by kernel_rfl))
  f128 := Try.func115.trans (congrArg some (by kernel_rfl))
  f129 := Try.func116.trans (congrArg some (by kernel_rfl))
  f189 := Try.func70.trans (congrArg some (by kernel_rfl))
  f215 := Try.func126.trans (congrArg some (by kernel_rfl))
  f216 := Try.func112.trans (congrArg some (by kernel_rfl))
  f257 := Try.func96.trans (congrArg some (by kernel_rfl))
  f294 := Try.func106.trans (congrArg some (by kernel_rfl))
  f295 := Try.func107.trans (congrArg some (by kernel_rfl))
  f296 := Try.func108.trans (congrArg some (by kernel_rfl))
  f297 := Try.func109.trans (congrArg some (by kernel_rfl))
  f298 := Try.func110.trans (congrArg some (by kernel_rfl))
  f299 := Try.func111.trans (congrArg some (by kernel_rfl))
  f300 := Try.func113.trans (congrArg some (by kernel_rfl))
  f301 := Try.func114.trans (congrArg some (by kernel_rfl))
  f328 := Try.func121.trans (congrArg some (by kernel_rfl))
  f329 := Try.func122.trans (congrArg some (by kernel_rfl))
  f330 := Try.func123.trans (congrArg some (by kernel_rfl))
  f331 := Try.func124.trans (congrArg some (by kernel_rfl))
  f332 := Try.func125.trans (congrArg some (by kernel_rfl))
  f343 := Try.func128.trans (congrArg some (by kernel_rfl))
  t0 := Try.underlying0
  a0 := Try.isAgg0
  z0 := Try.sizeOf0
  v0 := Try.zeroValue0
  t3 := Try.underlying3
  a3 := Try.isAgg3
  z3 := Try.sizeOf3
  v3 := Try.zeroValue3
  t4 := Try.underlying4
  a4 := Try.isAgg4
  z4 := Try.sizeOf4
  v4 := Try.zeroValue4
  t5 := Try.underlying5
  a5 := Try.isAgg5
  z5 := Try.sizeOf5
  v5 := Try.zeroValue5
  t9 := Try.underlying9
  a9 := Try.isAgg9
  z9 := Try.sizeOf9
  v9 := Try.zeroValue9
  t28 := Try.underlying41
  a28 := Try.isAgg41
  z28 := Try.sizeOf41
  v28 := Try.zeroValue41
  t46 := Try.underlying108
  a46 := Try.isAgg108
  z46 := Try.sizeOf108
  v46 := Try.zeroValue108
  t51 := Try.underlying121
  a51 := Try.isAgg121
  z51 := Try.sizeOf121
  v51 := Try.zeroValue121
  t53 := Try.underlying77
  a53 := Try.isAgg77
  z53 := Try.sizeOf77
  v53 := Try.zeroValue77
  t131 := Try.underlying63
  a131 := Try.isAgg63
  z131 := Try.sizeOf63
  v131 := Try.zeroValue63
  t182 := Try.underlying114
  a182 := Try.isAgg114
  z182 := Try.sizeOf114
  v182 := Try.zeroValue114
  t183 := Try.underlying115
  a183 := Try.isAgg115
  z183 := Try.sizeOf115
  v183 := Try.zeroValue115
  t218 := Try.underlying128
  a218 := Try.isAgg128
  z218 := Try.sizeOf128
  v218 := Try.zeroValue128
  t222 := Try.underlying132
  a222 := Try.isAgg132
  z222 := Try.sizeOf132
  v222 := Try.zeroValue132
  t228 := Try.underlying135
  a228 := Try.isAgg135
  z228 := Try.sizeOf135
  v228 := Try.zeroValue135
  t229 := Try.underlying136
  a229 := Try.isAgg136
  z229 := Try.sizeOf136
  v229 := Try.zeroValue136 }
open Go.Sort Go.RowKit in
theorem shelf_slices_Sort_int (blk off cap : Nat) (zs : List Int) (w : World) (hH : Holds (Value.int .i64) w blk off zs.toArray) (hblk : blk < w.heap.size) (hsz : zs.length < 4611686018427387904) :
    Calls Try.prog 70 #[.slice (some ⟨blk, off, none⟩) zs.length cap] w fun e w' =>
      e = .returned (.tuple #[]) ∧ ∃ n os, w' = grow (putRow (Value.int .i64) (Sort.ahead w n) blk off (zs.mergeSort fun x y => decide (x ≤ y)).toArray) os := Any.slices_Sort_int shelf_lays189 blk off cap zs w hH hblk hsz
open Go.RowKit Go.Sort in
/-- .. and plain. (LAID: no walk: one application.) -/
theorem shelf_slices_Sort_int_none (p : Option Addr) (cap : Nat) (w : World) :
    Calls Try.prog 70 #[.slice p 0 cap] w fun e w' => e = .returned (.tuple #[]) ∧ w' = w := Any.slices_Sort_int_none shelf_lays189 p cap w
end Go.Proofs.Ytmalajoglcpijaa
