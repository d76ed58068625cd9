/- The library's sort of texts, as the shelf's contracts lay it at this program. No condition. -/
import Derived.Test.YthbnjmcehpmliaaInts
import Derived.Shelf.Sort.Plain
import Derived.Shelf.Slices.In.SortNone
namespace Go.Proofs.Ythbnjmcehpmliaa
set_option maxHeartbeats 0
set_option maxRecDepth 100000
open Go.Shelf
def shelf_lays190_ren : Go.Shelf.Ren := ⟨fun | 190 => 65 | 125 => 79 | 258 => 78 | 128 => 95 | 129 => 96 | 302 => 86 | 303 => 87 | 304 => 88 | 305 => 89 | 306 => 90 | 307 => 91 | 308 => 92 | 309 => 93 | 310 => 94 | 333 => 103 | 329 => 104 | 330 => 105 | 334 => 106 | 335 => 107 | 336 => 108 | 344 => 110 | n => n, fun | 31 => 33 | 9 => 9 | 3 => 3 | 46 => 93 | 0 => 0 | 51 => 104 | 53 => 76 | 4 => 4 | 183 => 98 | 182 => 97 | 131 => 64 | 5 => 5 | 218 => 107 | 222 => 111 | 228 => 115 | 229 => 116 | n => n, fun | n => n⟩
theorem shelf_lays190 : Go.Proofs.Lays.n190 Try.prog shelf_lays190_ren := {
  mixed := by kernel_rfl
  f125 := Try.func79.trans (congrArg some (by kernel_rfl))
  f128 := Try.func95.trans (congrArg some (by kernel_rfl))
  f129 := Try.func96.trans (congrArg some (by kernel_rfl))
  f190 := Try.func65.trans (congrArg some (by kernel_rfl))
  f258 := Try.func78.trans (congrArg some (by kernel_rfl))
  f302 := Try.func86.trans (congrArg some (by kernel_rfl))
  f303 := Try.func87.trans (congrArg some (by kernel_rfl))
  f304 := Try.func88.trans (congrArg some (by kernel_rfl))
  f305 := Try.func89.trans (congrArg some (by kernel_rfl))
  f306 := Try.func90.trans (congrArg some (by kernel_rfl))
  f307 := Try.func91.trans (congrArg some (by kernel_rfl))
  f308 := Try.func92.trans (congrArg some (by kernel_rfl))
  f309 := Try.func93.trans (congrArg some (by kernel_rfl))
  f310 := Try.func94.trans (congrArg some (by kernel_rfl))
  f329 := Try.func104.trans (congrArg some (by kernel_rfl))
  f330 := Try.func105.trans (congrArg some (by kernel_rfl))
  f333 := Try.func103.trans (congrArg some (by kernel_rfl))
  f334 := Try.func106.trans (congrArg some (by kernel_rfl))
  f335 := Try.func107.trans (congrArg some (by kernel_rfl))
  f336 := Try.func108.trans (congrArg some (by kernel_rfl))
  f344 := Try.func110.trans (congrArg some (by kernel_rfl))
  t0 := Try.underlying0
  a0 := Try.isAgg0
  z0 := Try.sizeOf0
  v0 := Try.zeroValue0
  t3 := Try.underlying3
  a3 := Try.isAgg3
  z3 := Try.sizeOf3
  v3 := Try.zeroValue3
  t4 := Try.underlying4
  a4 := Try.isAgg4
  z4 := Try.sizeOf4
  v4 := Try.zeroValue4
  t5 := Try.underlying5
  a5 := Try.isAgg5
  z5 := Try.sizeOf5
  v5 := Try.zeroValue5
  t9 := Try.underlying9
  a9 := Try.isAgg9
  z9 := Try.sizeOf9
  v9 := Try.zeroValue9
  t31 := Try.underlying33
  a31 := Try.isAgg33
  z31 := Try.sizeOf33
  v31 := Try.zeroValue33
  t46 := Try.underlying93
  a46 := Try.isAgg93
  z46 := Try.sizeOf93
  v46 := Try.zeroValue93
  t51 := Try.underlying104
  a51 := Try.isAgg104
  z51 := Try.sizeOf104
  v51 := Try.zeroValue104
  t53 := Try.underlying76
  a53 := Try.isAgg76
  z53 := Try.sizeOf76
  v53 := Try.zeroValue76
  t131 := Try.underlying64
  a131 := Try.isAgg64
  z131 := Try.sizeOf64
  v131 := Try.zeroValue64
  t182 := Try.underlying97
  a182 := Try.isAgg97
  z182 := Try.sizeOf97
  v182 := Try.zeroValue97
  t183 := Try.underlying98
  a183 := Try.isAgg98
  z183 := Try.sizeOf98
  v183 := Try.zeroValue98
  t218 := Try.underlying107
  a218 := Try.isAgg107
  z218 := Try.sizeOf107
  v218 := Try.zeroValue107
  t222 := Try.underlying111
  a222 := Try.isAgg111
  z222 := Try.sizeOf111
  v222 := Try.zeroValue111
  t228 := Try.underlying115
  a228 := Try.isAgg115
  z228 := Try.sizeOf115
  v228 := Try.zeroValue115
  t229 := Try.underlying116
  a229 := Try.isAgg116
  z229 := Try.sizeOf116
  v229 := Try.zeroValue116 }
open Go.Sort Go.RowKit in
theorem shelf_slices_Sort_string (blk off cap : Nat) (ss : List (List UInt8)) (w : World) (hH : Holds encStr w blk off ss.toArray) (hblk : blk < w.heap.size) (hsz : ss.length < 4611686018427387904) :
    Calls Try.prog 65 #[.slice (some ⟨blk, off, none⟩) ss.length cap] w fun e w' =>
      e = .returned (.tuple #[]) ∧ ∃ n os, w' = grow (putRow encStr (Sort.ahead w n) blk off (ss.mergeSort fun x y => decide (x ≤ y)).toArray) os := Any.slices_Sort_string shelf_lays190 blk off cap ss w hH hblk hsz
open Go.RowKit Go.Sort in
/-- .. and plain. (LAID: no walk: one application.) -/
theorem shelf_slices_Sort_string_none (p : Option Addr) (cap : Nat) (w : World) :
    Calls Try.prog 65 #[.slice p 0 cap] w fun e w' => e = .returned (.tuple #[]) ∧ w' = w := Any.slices_Sort_string_none shelf_lays190 p cap w
end Go.Proofs.Ythbnjmcehpmliaa
