/- The library's sort of texts, as the shelf's contracts lay it at this program. No condition. -/
import Derived.Shelf.Sort.Plain
import Derived.Shelf.Slices.In.SortNone
import Derived.Test.YtdignmbeiohhiaaInts
namespace Go.Proofs.Ytdignmbeiohhiaa
set_option maxHeartbeats 0
set_option maxRecDepth 100000
open Go.Shelf
def shelf_lays190_ren : Go.Shelf.Ren := ⟨fun | 190 => 85 | 125 => 126 | 258 => 125 | 128 => 154 | 129 => 155 | 302 => 145 | 303 => 146 | 304 => 147 | 305 => 148 | 306 => 149 | 307 => 150 | 308 => 151 | 309 => 152 | 310 => 153 | 333 => 170 | 329 => 171 | 330 => 172 | 334 => 173 | 335 => 174 | 336 => 175 | 344 => 180 | n => n, fun | 31 => 36 | 9 => 9 | 3 => 3 | 46 => 153 | 0 => 0 | 51 => 174 | 53 => 102 | 4 => 4 | 183 => 168 | 182 => 167 | 131 => 68 | 5 => 5 | 218 => 179 | 222 => 183 | 228 => 189 | 229 => 190 | n => n, fun | n => n⟩
theorem shelf_lays190 : Go.Proofs.Lays.n190 Try.prog shelf_lays190_ren := {
  mixed := by kernel_rfl
  f125 := Try.func126.trans (congrArg some (by kernel_rfl))
  f128 := Try.func154.trans (congrArg some (by kernel_rfl))
  f129 := Try.func155.trans (congrArg some (by kernel_rfl))
  f190 := Try.func85.trans (congrArg some (by kernel_rfl))
  f258 := Try.func125.trans (congrArg some (by kernel_rfl))
  f302 := Try.func145.trans (congrArg some (by kernel_rfl))
  f303 := Try.func146.trans (congrArg some (by kernel_rfl))
  f304 := Try.func147.trans (congrArg some (by kernel_rfl))
  f305 := Try.func148.trans (congrArg some (by kernel_rfl))
  f306 := Try.func149.trans (congrArg some (by kernel_rfl))
  f307 := Try.func150.trans (congrArg some (by kernel_rfl))
  f308 := Try.func151.trans (congrArg some (by kernel_rfl))
  f309 := Try.func152.trans (congrArg some (by kernel_rfl))
  f310 := Try.func153.trans (congrArg some (by kernel_rfl))
  f329 := Try.func171.trans (congrArg some (by kernel_rfl))
  f330 := Try.func172.trans (congrArg some (by kernel_rfl))
  f333 := Try.func170.trans (congrArg some (by kernel_rfl))
  f334 := Try.func173.trans (congrArg some (by kernel_rfl))
  f335 := Try.func174.trans (congrArg some (by kernel_rfl))
  f336 := Try.func175.trans (congrArg some (by kernel_rfl))
  f344 := Try.func180.trans (congrArg some (by kernel_rfl))
  t0 := Try.underlying0
  a0 := Try.isAgg0
  z0 := Try.sizeOf0
  v0 := Try.zeroValue0
  t3 := Try.underlying3
  a3 := Try.isAgg3
  z3 := Try.sizeOf3
  v3 := Try.zeroValue3
  t4 := Try.underlying4
  a4 := Try.isAgg4
  z4 := Try.sizeOf4
  v4 := Try.zeroValue4
  t5 := Try.underlying5
  a5 := Try.isAgg5
  z5 := Try.sizeOf5
  v5 := Try.zeroValue5
  t9 := Try.underlying9
  a9 := Try.isAgg9
  z9 := Try.sizeOf9
  v9 := Try.zeroValue9
  t31 := Try.underlying36
  a31 := Try.isAgg36
  z31 := Try.sizeOf36
  v31 := Try.zeroValue36
  t46 := Try.underlying153
  a46 := Try.isAgg153
  z46 := Try.sizeOf153
  v46 := Try.zeroValue153
  t51 := Try.underlying174
  a51 := Try.isAgg174
  z51 := Try.sizeOf174
  v51 := Try.zeroValue174
  t53 := Try.underlying102
  a53 := Try.isAgg102
  z53 := Try.sizeOf102
  v53 := Try.zeroValue102
  t131 := Try.underlying68
  a131 := Try.isAgg68
  z131 := Try.sizeOf68
  v131 := Try.zeroValue68
  t182 := Try.underlying167
  a182 := Try.isAgg167
  z182 := Try.sizeOf167
  v182 := Try.zeroValue167
  t183 := Try.underlying168
  a183 := Try.isAgg168
  z183 := Try.sizeOf168
  v183 := Try.zeroValue168
  t218 := Try.underlying179
  a218 := Try.isAgg179
  z218 := Try.sizeOf179
  v218 := Try.zeroValue179
  t222 := Try.underlying183
  a222 := Try.isAgg183
  z222 := Try.sizeOf183
  v222 := Try.zeroValue183
  t228 := Try.underlying189
  a228 := Try.isAgg189
  z228 := Try.sizeOf189
  v228 := Try.zeroValue189
  t229 := Try.underlying190
  a229 := Try.isAgg190
  z229 := Try.sizeOf190
  v229 := Try.zeroValue190 }
open Go.Sort Go.RowKit in
theorem shelf_slices_Sort_string (blk off cap : Nat) (ss : List (List UInt8)) (w : World) (hH : Holds encStr w blk off ss.toArray) (hblk : blk < w.heap.size) (hsz : ss.length < 4611686018427387904) :
    Calls Try.prog 85 #[.slice (some ⟨blk, off, none⟩) ss.length cap] w fun e w' =>
      e = .returned (.tuple #[]) ∧ ∃ n os, w' = grow (putRow encStr (Sort.ahead w n) blk off (ss.mergeSort fun x y => decide (x ≤ y)).toArray) os := Any.slices_Sort_string shelf_lays190 blk off cap ss w hH hblk hsz
open Go.RowKit Go.Sort in
/-- .. and plain. (LAID: no walk: one application.) -/
theorem shelf_slices_Sort_string_none (p : Option Addr) (cap : Nat) (w : World) :
    Calls Try.prog 85 #[.slice p 0 cap] w fun e w' => e = .returned (.tuple #[]) ∧ w' = w := Any.slices_Sort_string_none shelf_lays190 p cap w
end Go.Proofs.Ytdignmbeiohhiaa
