/- The library's Trim, as the shelf's contracts lay it at this program. No condition. -/
import Derived.Shelf.Strings.SlTrimAscii
import Derived.Test.YtijjcakbhnolhaaDoorInts
namespace Go.Proofs.YtijjcakbhnolhaaDoor
set_option maxHeartbeats 0
set_option maxRecDepth 100000
open Go.Shelf
def shelf_lays160_ren : Go.Shelf.Ren := ⟨fun | 160 => 26 | 232 => 31 | 231 => 30 | 227 => 32 | 234 => 34 | 233 => 33 | 236 => 36 | 235 => 35 | 228 => 37 | 271 => 40 | 151 => 39 | 197 => 38 | 120 => 43 | 152 => 42 | 260 => 41 | 137 => 44 | 119 => 45 | 224 => 46 | 225 => 47 | 217 => 48 | 266 => 49 | n => n, fun | 9 => 9 | 4 => 4 | 3 => 3 | 5 => 5 | 117 => 55 | 116 => 54 | 0 => 0 | 124 => 58 | 21 => 21 | 105 => 61 | 46 => 66 | 119 => 65 | 139 => 69 | 138 => 68 | n => n, fun | 3 => 0 | 4 => 1 | n => n⟩
theorem shelf_lays160 : Go.Proofs.Lays.n160 Tryd.prog shelf_lays160_ren := {
  mixed := by kernel_rfl
  f119 := Tryd.func45.trans (congrArg some (by kernel_rfl))
  f120 := Tryd.func43.trans (congrArg some (by kernel_rfl))
  f137 := Tryd.func44.trans (congrArg some (by kernel_rfl))
  f151 := Tryd.func39.trans (congrArg some (by kernel_rfl))
  f152 := Tryd.func42.trans (congrArg some (by kernel_rfl))
  f160 := Tryd.func26.trans (congrArg some (by kernel_rfl))
  f197 := Tryd.func38.trans (congrArg some (by kernel_rfl))
  f217 := Tryd.func48.trans (congrArg some (by kernel_rfl))
  f224 := Tryd.func46.trans (congrArg some (by kernel_rfl))
  f225 := Tryd.func47.trans (congrArg some (by kernel_rfl))
  f227 := Tryd.func32.trans (congrArg some (by kernel_rfl))
  f228 := Tryd.func37.trans (congrArg some (by kernel_rfl))
  f231 := Tryd.func30.trans (congrArg some (by kernel_rfl))
  f232 := Tryd.func31.trans (congrArg some (by kernel_rfl))
  f233 := Tryd.func33.trans (congrArg some (by kernel_rfl))
  f234 := Tryd.func34.trans (congrArg some (by kernel_rfl))
  f235 := Tryd.func35.trans (congrArg some (by kernel_rfl))
  f236 := Tryd.func36.trans (congrArg some (by kernel_rfl))
  f260 := Tryd.func41.trans (congrArg some (by kernel_rfl))
  f266 := Tryd.func49.trans (congrArg some (by kernel_rfl))
  f271 := Tryd.func40.trans (congrArg some (by kernel_rfl))
  t0 := Tryd.underlying0
  a0 := Tryd.isAgg0
  z0 := Tryd.sizeOf0
  v0 := Tryd.zeroValue0
  t3 := Tryd.underlying3
  a3 := Tryd.isAgg3
  z3 := Tryd.sizeOf3
  v3 := Tryd.zeroValue3
  t4 := Tryd.underlying4
  a4 := Tryd.isAgg4
  z4 := Tryd.sizeOf4
  v4 := Tryd.zeroValue4
  t5 := Tryd.underlying5
  a5 := Tryd.isAgg5
  z5 := Tryd.sizeOf5
  v5 := Tryd.zeroValue5
  t9 := Tryd.underlying9
  a9 := Tryd.isAgg9
  z9 := Tryd.sizeOf9
  v9 := Tryd.zeroValue9
  t21 := Tryd.underlying21
  a21 := Tryd.isAgg21
  z21 := Tryd.sizeOf21
  v21 := Tryd.zeroValue21
  t46 := Tryd.underlying66
  a46 := Tryd.isAgg66
  z46 := Tryd.sizeOf66
  v46 := Tryd.zeroValue66
  t105 := Tryd.underlying61
  a105 := Tryd.isAgg61
  z105 := Tryd.sizeOf61
  v105 := Tryd.zeroValue61
  t116 := Tryd.underlying54
  a116 := Tryd.isAgg54
  z116 := Tryd.sizeOf54
  t117 := Tryd.underlying55
  a117 := Tryd.isAgg55
  z117 := Tryd.sizeOf55
  v117 := Tryd.zeroValue55
  t119 := Tryd.underlying65
  a119 := Tryd.isAgg65
  z119 := Tryd.sizeOf65
  t124 := Tryd.underlying58
  a124 := Tryd.isAgg58
  z124 := Tryd.sizeOf58
  v124 := Tryd.zeroValue58
  t138 := Tryd.underlying68
  a138 := Tryd.isAgg68
  z138 := Tryd.sizeOf68
  v138 := Tryd.zeroValue68
  t139 := Tryd.underlying69
  a139 := Tryd.isAgg69
  z139 := Tryd.sizeOf69
  v139 := Tryd.zeroValue69
  g3 := by kernel_rfl
  g4 := by kernel_rfl }
end Go.Proofs.YtijjcakbhnolhaaDoor
