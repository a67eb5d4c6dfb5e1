/- The shelf's contracts laid over this seat, in plain words (printed by program). -/
import Derived.Test.YtfdpannanpipdaaChecked
import Derived.Shelf.SlSortCmp.NoneTotal
set_option linter.unusedVariables false
set_option linter.unusedSimpArgs false
namespace Go.Proofs
open Go.Shelf
def Try.sortPairLays_ren : Go.Shelf.Ren := ⟨fun | 6 => 106 | 15 => 133 | 14 => 132 | 28 => 150 | 29 => 151 | 20 => 142 | 21 => 143 | 22 => 144 | 23 => 145 | 24 => 146 | 25 => 147 | 26 => 148 | 27 => 149 | 46 => 157 | 47 => 158 | 48 => 159 | 49 => 160 | 50 => 161 | 57 => 166 | n => n, fun | 22 => 101 | 24 => 105 | 25 => 154 | 3 => 3 | 39 => 160 | 0 => 0 | 53 => 121 | 55 => 119 | 4 => 4 | 46 => 192 | 45 => 191 | 50 => 147 | 5 => 5 | 9 => 9 | 66 => 203 | 70 => 207 | 76 => 211 | 77 => 212 | n => n, fun | n => n⟩
theorem Try.sortPairLays : Go.Proofs.SlLaysF0.n6 Try.prog Try.sortPairLays_ren := {
  mixed := by kernel_rfl
  f6 := ⟨Try.f106.name, by decide, Try.func106.trans (congrArg some (by kernel_rfl))⟩
  f14 := ⟨Try.f132.name, by decide, Try.func132.trans (congrArg some (by kernel_rfl))⟩
  f15 := Try.func133.trans (congrArg some (by kernel_rfl))
  f20 := ⟨Try.f142.name, by decide, Try.func142.trans (congrArg some (by kernel_rfl))⟩
  f21 := ⟨Try.f143.name, by decide, Try.func143.trans (congrArg some (by kernel_rfl))⟩
  f22 := ⟨Try.f144.name, by decide, Try.func144.trans (congrArg some (by kernel_rfl))⟩
  f23 := ⟨Try.f145.name, by decide, Try.func145.trans (congrArg some (by kernel_rfl))⟩
  f24 := ⟨Try.f146.name, by decide, Try.func146.trans (congrArg some (by kernel_rfl))⟩
  f25 := ⟨Try.f147.name, by decide, Try.func147.trans (congrArg some (by kernel_rfl))⟩
  f26 := ⟨Try.f148.name, by decide, Try.func148.trans (congrArg some (by kernel_rfl))⟩
  f27 := ⟨Try.f149.name, by decide, Try.func149.trans (congrArg some (by kernel_rfl))⟩
  f28 := Try.func150.trans (congrArg some (by kernel_rfl))
  f29 := Try.func151.trans (congrArg some (by kernel_rfl))
  f46 := ⟨Try.f157.name, by decide, Try.func157.trans (congrArg some (by kernel_rfl))⟩
  f47 := Try.func158.trans (congrArg some (by kernel_rfl))
  f48 := Try.func159.trans (congrArg some (by kernel_rfl))
  f49 := ⟨Try.f160.name, by decide, Try.func160.trans (congrArg some (by kernel_rfl))⟩
  f50 := ⟨Try.f161.name, by decide, Try.func161.trans (congrArg some (by kernel_rfl))⟩
  f57 := ⟨Try.f166.name, by decide, Try.func166.trans (congrArg some (by kernel_rfl))⟩
  t0 := Try.underlying0
  a0 := Try.isAgg0
  z0 := Try.sizeOf0
  v0 := Try.zeroValue0
  t3 := Try.underlying3
  a3 := Try.isAgg3
  z3 := Try.sizeOf3
  v3 := Try.zeroValue3
  t4 := Try.underlying4
  a4 := Try.isAgg4
  z4 := Try.sizeOf4
  v4 := Try.zeroValue4
  t5 := Try.underlying5
  a5 := Try.isAgg5
  z5 := Try.sizeOf5
  v5 := Try.zeroValue5
  t9 := Try.underlying9
  a9 := Try.isAgg9
  z9 := Try.sizeOf9
  v9 := Try.zeroValue9
  t22 := Try.underlying101
  a22 := Try.isAgg101
  z22 := Try.sizeOf101
  v22 := Try.zeroValue101
  t25 := Try.underlying154
  a25 := Try.isAgg154
  z25 := Try.sizeOf154
  v25 := Try.zeroValue154
  t39 := Try.underlying160
  a39 := Try.isAgg160
  z39 := Try.sizeOf160
  v39 := Try.zeroValue160
  t45 := Try.underlying191
  a45 := Try.isAgg191
  z45 := Try.sizeOf191
  v45 := Try.zeroValue191
  t46 := Try.underlying192
  a46 := Try.isAgg192
  z46 := Try.sizeOf192
  v46 := Try.zeroValue192
  t50 := Try.underlying147
  a50 := Try.isAgg147
  z50 := Try.sizeOf147
  v50 := Try.zeroValue147
  t53 := Try.underlying121
  a53 := Try.isAgg121
  z53 := Try.sizeOf121
  v53 := Try.zeroValue121
  t55 := Try.underlying119
  a55 := Try.isAgg119
  z55 := Try.sizeOf119
  v55 := Try.zeroValue119
  t66 := Try.underlying203
  a66 := Try.isAgg203
  z66 := Try.sizeOf203
  v66 := Try.zeroValue203
  t70 := Try.underlying207
  a70 := Try.isAgg207
  z70 := Try.sizeOf207
  v70 := Try.zeroValue207
  t76 := Try.underlying211
  a76 := Try.isAgg211
  z76 := Try.sizeOf211
  v76 := Try.zeroValue211
  t77 := Try.underlying212
  a77 := Try.isAgg212
  z77 := Try.sizeOf212
  v77 := Try.zeroValue212 }
end Go.Proofs
