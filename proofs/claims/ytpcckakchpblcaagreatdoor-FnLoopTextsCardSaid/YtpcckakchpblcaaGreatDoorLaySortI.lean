/- The library's sort of whole numbers, as the shelf's contracts lay it at this program. No condition. -/
import Derived.Shelf.Sort.Plain
import Derived.Shelf.Slices.In.SortNone
import Derived.Test.YtpcckakchpblcaaGreatDoorJ6
namespace Go.Proofs.YtpcckakchpblcaaGreatDoor
set_option maxHeartbeats 0
set_option maxRecDepth 100000
open Go.Shelf
def shelf_lays189_ren : Go.Shelf.Ren := ⟨fun | 189 => 56 | 125 => 80 | 257 => 79 | 128 => 107 | 129 => 108 | 294 => 98 | 295 => 99 | 296 => 100 | 297 => 101 | 298 => 102 | 299 => 103 | 216 => 104 | 300 => 105 | 301 => 106 | 328 => 122 | 329 => 123 | 330 => 124 | 331 => 125 | 332 => 126 | 215 => 127 | 343 => 135 | n => n, fun | 28 => 42 | 3 => 3 | 46 => 107 | 0 => 0 | 51 => 131 | 53 => 47 | 4 => 4 | 183 => 124 | 182 => 123 | 131 => 128 | 5 => 5 | 9 => 9 | 218 => 148 | 222 => 152 | 228 => 167 | 229 => 168 | n => n, fun | n => n⟩
theorem shelf_lays189 : Go.Proofs.Lays.n189 Tryz.prog shelf_lays189_ren := {
  mixed := by kernel_rfl
  f125 := Tryz.func80.trans (congrArg some (by kernel_rfl))
  f128 := Tryz.func107.trans (congrArg some (by kernel_rfl))
  f129 := Tryz.func108.trans (congrArg some (by kernel_rfl))
  f189 := Tryz.func56.trans (congrArg some (by kernel_rfl))
  f215 := Tryz.func127.trans (congrArg some (by kernel_rfl))
  f216 := Tryz.func104.trans (congrArg some (by kernel_rfl))
  f257 := Tryz.func79.trans (congrArg some (by kernel_rfl))
  f294 := Tryz.func98.trans (congrArg some (by kernel_rfl))
  f295 := Tryz.func99.trans (congrArg some (by kernel_rfl))
  f296 := Tryz.func100.trans (congrArg some (by kernel_rfl))
  f297 := Tryz.func101.trans (congrArg some (by kernel_rfl))
  f298 := Tryz.func102.trans (congrArg some (by kernel_rfl))
  f299 := Tryz.func103.trans (congrArg some (by kernel_rfl))
  f300 := Tryz.func105.trans (congrArg some (by kernel_rfl))
  f301 := Tryz.func106.trans (congrArg some (by kernel_rfl))
  f328 := Tryz.func122.trans (congrArg some (by kernel_rfl))
  f329 := Tryz.func123.trans (congrArg some (by kernel_rfl))
  f330 := Tryz.func124.trans (congrArg some (by kernel_rfl))
  f331 := Tryz.func125.trans (congrArg some (by kernel_rfl))
  f332 := Tryz.func126.trans (congrArg some (by kernel_rfl))
  f343 := Tryz.func135.trans (congrArg some (by kernel_rfl))
  t0 := Tryz.underlying0
  a0 := Tryz.isAgg0
  z0 := Tryz.sizeOf0
  v0 := Tryz.zeroValue0
  t3 := Tryz.underlying3
  a3 := Tryz.isAgg3
  z3 := Tryz.sizeOf3
  v3 := Tryz.zeroValue3
  t4 := Tryz.underlying4
  a4 := Tryz.isAgg4
  z4 := Tryz.sizeOf4
  v4 := Tryz.zeroValue4
  t5 := Tryz.underlying5
  a5 := Tryz.isAgg5
  z5 := Tryz.sizeOf5
  v5 := Tryz.zeroValue5
  t9 := Tryz.underlying9
  a9 := Tryz.isAgg9
  z9 := Tryz.sizeOf9
  v9 := Tryz.zeroValue9
  t28 := Tryz.underlying42
  a28 := Tryz.isAgg42
  z28 := Tryz.sizeOf42
  v28 := Tryz.zeroValue42
  t46 := Tryz.underlying107
  a46 := Tryz.isAgg107
  z46 := Tryz.sizeOf107
  v46 := Tryz.zeroValue107
  t51 := Tryz.underlying131
  a51 := Tryz.isAgg131
  z51 := Tryz.sizeOf131
  v51 := Tryz.zeroValue131
  t53 := Tryz.underlying47
  a53 := Tryz.isAgg47
  z53 := Tryz.sizeOf47
  v53 := Tryz.zeroValue47
  t131 := Tryz.underlying128
  a131 := Tryz.isAgg128
  z131 := Tryz.sizeOf128
  v131 := Tryz.zeroValue128
  t182 := Tryz.underlying123
  a182 := Tryz.isAgg123
  z182 := Tryz.sizeOf123
  v182 := Tryz.zeroValue123
  t183 := Tryz.underlying124
  a183 := Tryz.isAgg124
  z183 := Tryz.sizeOf124
  v183 := Tryz.zeroValue124
  t218 := Tryz.underlying148
  a218 := Tryz.isAgg148
  z218 := Tryz.sizeOf148
  v218 := Tryz.zeroValue148
  t222 := Tryz.underlying152
  a222 := Tryz.isAgg152
  z222 := Tryz.sizeOf152
  v222 := Tryz.zeroValue152
  t228 := Tryz.underlying167
  a228 := Tryz.isAgg167
  z228 := Tryz.sizeOf167
  v228 := Tryz.zeroValue167
  t229 := Tryz.underlying168
  a229 := Tryz.isAgg168
  z229 := Tryz.sizeOf168
  v229 := Tryz.zeroValue168 }
open Go.Sort Go.RowKit in
theorem shelf_slices_Sort_int (blk off cap : Nat) (zs : List Int) (w : World) (hH : Holds (Value.int .i64) w blk off zs.toArray) (hblk : blk < w.heap.size) (hsz : zs.length < 4611686018427387904) :
    Calls Tryz.prog 56 #[.slice (some ⟨blk, off, none⟩) zs.length cap] w fun e w' =>
      e = .returned (.tuple #[]) ∧ ∃ n os, w' = grow (putRow (Value.int .i64) (Sort.ahead w n) blk off (zs.mergeSort fun x y => decide (x ≤ y)).toArray) os := Any.slices_Sort_int shelf_lays189 blk off cap zs w hH hblk hsz
open Go.RowKit Go.Sort in
/-- .. and plain. (LAID: no walk: one application.) -/
theorem shelf_slices_Sort_int_none (p : Option Addr) (cap : Nat) (w : World) :
    Calls Tryz.prog 56 #[.slice p 0 cap] w fun e w' => e = .returned (.tuple #[]) ∧ w' = w := Any.slices_Sort_int_none shelf_lays189 p cap w
end Go.Proofs.YtpcckakchpblcaaGreatDoor
