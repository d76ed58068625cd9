/- The library's sort of whole numbers, as the shelf's contracts lay it at this program. No condition. -/
import Derived.Shelf.Sort.Plain
import Derived.Shelf.Slices.In.SortNone
import Derived.Test.YtmplelnodamedaaInts
namespace Go.Proofs.Ytmplelnodamedaa
set_option maxHeartbeats 0
set_option maxRecDepth 100000
open Go.Shelf
def shelf_lays189_ren : Go.Shelf.Ren := ⟨fun | 189 => 33 | 125 => 60 | 257 => 59 | 128 => 86 | 129 => 87 | 294 => 77 | 295 => 78 | 296 => 79 | 297 => 80 | 298 => 81 | 299 => 82 | 216 => 83 | 300 => 84 | 301 => 85 | 328 => 91 | 329 => 92 | 330 => 93 | 331 => 94 | 332 => 95 | 215 => 96 | 343 => 100 | n => n, fun | 28 => 31 | 3 => 3 | 46 => 80 | 0 => 0 | 51 => 99 | 53 => 62 | 4 => 4 | 183 => 93 | 182 => 92 | 131 => 35 | 5 => 5 | 9 => 9 | 218 => 103 | 222 => 107 | 228 => 113 | 229 => 114 | n => n, fun | n => n⟩
theorem shelf_lays189 : Go.Proofs.Lays.n189 Try.prog shelf_lays189_ren := {
  mixed := by kernel_rfl
  f125 := Try.func60.trans (congrArg some (by kernel_rfl))
  f128 := Try.func86.trans (congrArg some (by kernel_rfl))
  f129 := Try.func87.trans (congrArg some (by kernel_rfl))
  f189 := Try.func33.trans (congrArg some (by kernel_rfl))
  f215 := Try.func96.trans (congrArg some (by kernel_rfl))
  f216 := Try.func83.trans (congrArg some (by kernel_rfl))
  f257 := Try.func59.trans (congrArg some (by kernel_rfl))
  f294 := Try.func77.trans (congrArg some (by kernel_rfl))
  f295 := Try.func78.trans (congrArg some (by kernel_rfl))
  f296 := Try.func79.trans (congrArg some (by kernel_rfl))
  f297 := Try.func80.trans (congrArg some (by kernel_rfl))
  f298 := Try.func81.trans (congrArg some (by kernel_rfl))
  f299 := Try.func82.trans (congrArg some (by kernel_rfl))
  f300 := Try.func84.trans (congrArg some (by kernel_rfl))
  f301 := Try.func85.trans (congrArg some (by kernel_rfl))
  f328 := Try.func91.trans (congrArg some (by kernel_rfl))
  f329 := Try.func92.trans (congrArg some (by kernel_rfl))
  f330 := Try.func93.trans (congrArg some (by kernel_rfl))
  f331 := Try.func94.trans (congrArg some (by kernel_rfl))
  f332 := Try.func95.trans (congrArg some (by kernel_rfl))
  f343 := Try.func100.trans (congrArg some (by kernel_rfl))
  t0 := Try.underlying0
  a0 := Try.isAgg0
  z0 := Try.sizeOf0
  v0 := Try.zeroValue0
  t3 := Try.underlying3
  a3 := Try.isAgg3
  z3 := Try.sizeOf3
  v3 := Try.zeroValue3
  t4 := Try.underlying4
  a4 := Try.isAgg4
  z4 := Try.sizeOf4
  v4 := Try.zeroValue4
  t5 := Try.underlying5
  a5 := Try.isAgg5
  z5 := Try.sizeOf5
  v5 := Try.zeroValue5
  t9 := Try.underlying9
  a9 := Try.isAgg9
  z9 := Try.sizeOf9
  v9 := Try.zeroValue9
  t28 := Try.underlying31
  a28 := Try.isAgg31
  z28 := Try.sizeOf31
  v28 := Try.zeroValue31
  t46 := Try.underlying80
  a46 := Try.isAgg80
  z46 := Try.sizeOf80
  v46 := Try.zeroValue80
  t51 := Try.underlying99
  a51 := Try.isAgg99
  z51 := Try.sizeOf99
  v51 := Try.zeroValue99
  t53 := Try.underlying62
  a53 := Try.isAgg62
  z53 := Try.sizeOf62
  v53 := Try.zeroValue62
  t131 := Try.underlying35
  a131 := Try.isAgg35
  z131 := Try.sizeOf35
  v131 := Try.zeroValue35
  t182 := Try.underlying92
  a182 := Try.isAgg92
  z182 := Try.sizeOf92
  v182 := Try.zeroValue92
  t183 := Try.underlying93
  a183 := Try.isAgg93
  z183 := Try.sizeOf93
  v183 := Try.zeroValue93
  t218 := Try.underlying103
  a218 := Try.isAgg103
  z218 := Try.sizeOf103
  v218 := Try.zeroValue103
  t222 := Try.underlying107
  a222 := Try.isAgg107
  z222 := Try.sizeOf107
  v222 := Try.zeroValue107
  t228 := Try.underlying113
  a228 := Try.isAgg113
  z228 := Try.sizeOf113
  v228 := Try.zeroValue113
  t229 := Try.underlying114
  a229 := Try.isAgg114
  z229 := Try.sizeOf114
  v229 := Try.zeroValue114 }
open Go.Sort Go.RowKit in
theorem shelf_slices_Sort_int (blk off cap : Nat) (zs : List Int) (w : World) (hH : Holds (Value.int .i64) w blk off zs.toArray) (hblk : blk < w.heap.size) (hsz : zs.length < 4611686018427387904) :
    Calls Try.prog 33 #[.slice (some ⟨blk, off, none⟩) zs.length cap] w fun e w' =>
      e = .returned (.tuple #[]) ∧ ∃ n os, w' = grow (putRow (Value.int .i64) (Sort.ahead w n) blk off (zs.mergeSort fun x y => decide (x ≤ y)).toArray) os := Any.slices_Sort_int shelf_lays189 blk off cap zs w hH hblk hsz
open Go.RowKit Go.Sort in
/-- .. and plain. (LAID: no walk: one application.) -/
theorem shelf_slices_Sort_int_none (p : Option Addr) (cap : Nat) (w : World) :
    Calls Try.prog 33 #[.slice p 0 cap] w fun e w' => e = .returned (.tuple #[]) ∧ w' = w := Any.slices_Sort_int_none shelf_lays189 p cap w
end Go.Proofs.Ytmplelnodamedaa
