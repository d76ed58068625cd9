/- The library's sort by a comparing function, as the shelf's contracts lay it at this program. No condition. -/
import Derived.Shelf.SlSortCmp.Whole1
import Derived.Shelf.SlSortCmp.NoneTotal
import Derived.Test.YtmfbcipjknjicaaJ6
namespace Go.Proofs.Ytmfbcipjknjicaa
set_option maxHeartbeats 0
set_option maxRecDepth 100000
open Go.Shelf
def shelf_laysSlF6_f103_ren : Go.Shelf.Ren := ⟨fun | 6 => 103 | 15 => 113 | 14 => 114 | 28 => 127 | 29 => 128 | 20 => 129 | 21 => 130 | 22 => 131 | 23 => 132 | 24 => 133 | 25 => 134 | 26 => 135 | 27 => 136 | 46 => 143 | 47 => 139 | 48 => 140 | 49 => 144 | 50 => 145 | 57 => 147 | n => n, fun | 22 => 29 | 24 => 24 | 25 => 62 | 3 => 3 | 39 => 109 | 0 => 0 | 53 => 120 | 55 => 71 | 4 => 4 | 46 => 114 | 45 => 113 | 50 => 41 | 5 => 5 | 9 => 9 | 66 => 127 | 70 => 131 | 76 => 135 | 77 => 136 | n => n, fun | n => n⟩
theorem shelf_laysSlF6_f103 : Go.Proofs.SlLaysF.n6 Try.prog shelf_laysSlF6_f103_ren := {
  mixed := by kernel_rfl
  f6 := ⟨Try.f103.name, by decide, Try.func103.trans (congrArg some (by kernel_rfl))⟩
  f14 := ⟨Try.f114.name, by decide, Try.func114.trans (congrArg some (by kernel_rfl))⟩
  f15 := Try.func113.trans (congrArg some (by kernel_rfl))
  f20 := ⟨Try.f129.name, by decide, Try.func129.trans (congrArg some (by kernel_rfl))⟩
  f21 := ⟨Try.f130.name, by decide, Try.func130.trans (congrArg some (by kernel_rfl))⟩
  f22 := ⟨Try.f131.name, by decide, Try.func131.trans (congrArg some (by kernel_rfl))⟩
  f23 := ⟨Try.f132.name, by decide, Try.func132.trans (congrArg some (by kernel_rfl))⟩
  f24 := ⟨Try.f133.name, by decide, Try.func133.trans (congrArg some (by kernel_rfl))⟩
  f25 := ⟨Try.f134.name, by decide, Try.func134.trans (congrArg some (by kernel_rfl))⟩
  f26 := ⟨Try.f135.name, by decide, Try.func135.trans (congrArg some (by kernel_rfl))⟩
  f27 := ⟨Try.f136.name, by decide, Try.func136.trans (congrArg some (by kernel_rfl))⟩
  f28 := Try.func127.trans (congrArg some (by kernel_rfl))
  f29 := Try.func128.trans (congrArg some (by kernel_rfl))
  f46 := ⟨Try.f143.name, by decide, Try.func143.trans (congrArg some (by kernel_rfl))⟩
  f47 := Try.func139.trans (congrArg some (by kernel_rfl))
  f48 := Try.func140.trans (congrArg some (by kernel_rfl))
  f49 := ⟨Try.f144.name, by decide, Try.func144.trans (congrArg some (by kernel_rfl))⟩
  f50 := ⟨Try.f145.name, by decide, Try.func145.trans (congrArg some (by kernel_rfl))⟩
  f57 := ⟨Try.f147.name, by decide, Try.func147.trans (congrArg some (by kernel_rfl))⟩
  t0 := Try.underlying0
  a0 := Try.isAgg0
  z0 := Try.sizeOf0
  v0 := Try.zeroValue0
  t3 := Try.underlying3
  a3 := Try.isAgg3
  z3 := Try.sizeOf3
  v3 := Try.zeroValue3
  t4 := Try.underlying4
  a4 := Try.isAgg4
  z4 := Try.sizeOf4
  v4 := Try.zeroValue4
  t5 := Try.underlying5
  a5 := Try.isAgg5
  z5 := Try.sizeOf5
  v5 := Try.zeroValue5
  t9 := Try.underlying9
  a9 := Try.isAgg9
  z9 := Try.sizeOf9
  v9 := Try.zeroValue9
  t22 := Try.underlying29
  a22 := Try.isAgg29
  z22 := Try.sizeOf29
  v22 := Try.zeroValue29
  a24 := Try.isAgg24
  z24 := Try.sizeOf24
  t25 := Try.underlying62
  a25 := Try.isAgg62
  z25 := Try.sizeOf62
  v25 := Try.zeroValue62
  t39 := Try.underlying109
  a39 := Try.isAgg109
  z39 := Try.sizeOf109
  v39 := Try.zeroValue109
  t45 := Try.underlying113
  a45 := Try.isAgg113
  z45 := Try.sizeOf113
  v45 := Try.zeroValue113
  t46 := Try.underlying114
  a46 := Try.isAgg114
  z46 := Try.sizeOf114
  v46 := Try.zeroValue114
  t50 := Try.underlying41
  a50 := Try.isAgg41
  z50 := Try.sizeOf41
  v50 := Try.zeroValue41
  t53 := Try.underlying120
  a53 := Try.isAgg120
  z53 := Try.sizeOf120
  v53 := Try.zeroValue120
  t55 := Try.underlying71
  a55 := Try.isAgg71
  z55 := Try.sizeOf71
  v55 := Try.zeroValue71
  t66 := Try.underlying127
  a66 := Try.isAgg127
  z66 := Try.sizeOf127
  v66 := Try.zeroValue127
  t70 := Try.underlying131
  a70 := Try.isAgg131
  z70 := Try.sizeOf131
  v70 := Try.zeroValue131
  t76 := Try.underlying135
  a76 := Try.isAgg135
  z76 := Try.sizeOf135
  v76 := Try.zeroValue135
  t77 := Try.underlying136
  a77 := Try.isAgg136
  z77 := Try.sizeOf136
  v77 := Try.zeroValue136 }
end Go.Proofs.Ytmfbcipjknjicaa
