/-
  the library's slices.SortFunc at this dump, laid in plain words
-/
import Derived.Shelf.SlSortCmp.NoneTotal
import Derived.Test.YtfpcgcbehdogjaaGreatDoorProg
namespace Go.Proofs
open Go.Shelf
def Tryz.sortLab_ren : Go.Shelf.Ren := ⟨fun | 6 => 175 | 15 => 157 | 14 => 211 | 28 => 192 | 29 => 193 | 20 => 229 | 21 => 230 | 22 => 231 | 23 => 232 | 24 => 233 | 25 => 234 | 26 => 235 | 27 => 236 | 46 => 250 | 47 => 238 | 48 => 239 | 49 => 251 | 50 => 252 | 57 => 257 | n => n, fun | 22 => 95 | 24 => 94 | 25 => 235 | 3 => 3 | 39 => 207 | 0 => 0 | 53 => 236 | 55 => 23 | 4 => 4 | 46 => 333 | 45 => 332 | 50 => 144 | 5 => 5 | 9 => 9 | 66 => 345 | 70 => 348 | 76 => 357 | 77 => 358 | n => n, fun | n => n⟩
theorem Tryz.sortLab : Go.Proofs.SlLaysF0.n6 Tryz.prog Tryz.sortLab_ren := {
  mixed := by kernel_rfl
  f6 := ⟨Tryz.f175.name, by decide, Tryz.func175.trans (congrArg some (by kernel_rfl))⟩
  f14 := ⟨Tryz.f211.name, by decide, Tryz.func211.trans (congrArg some (by kernel_rfl))⟩
  f15 := Tryz.func157.trans (congrArg some (by kernel_rfl))
  f20 := ⟨Tryz.f229.name, by decide, Tryz.func229.trans (congrArg some (by kernel_rfl))⟩
  f21 := ⟨Tryz.f230.name, by decide, Tryz.func230.trans (congrArg some (by kernel_rfl))⟩
  f22 := ⟨Tryz.f231.name, by decide, Tryz.func231.trans (congrArg some (by kernel_rfl))⟩
  f23 := ⟨Tryz.f232.name, by decide, Tryz.func232.trans (congrArg some (by kernel_rfl))⟩
  f24 := ⟨Tryz.f233.name, by decide, Tryz.func233.trans (congrArg some (by kernel_rfl))⟩
  f25 := ⟨Tryz.f234.name, by decide, Tryz.func234.trans (congrArg some (by kernel_rfl))⟩
  f26 := ⟨Tryz.f235.name, by decide, Tryz.func235.trans (congrArg some (by kernel_rfl))⟩
  f27 := ⟨Tryz.f236.name, by decide, Tryz.func236.trans (congrArg some (by kernel_rfl))⟩
  f28 := Tryz.func192.trans (congrArg some (by kernel_rfl))
  f29 := Tryz.func193.trans (congrArg some (by kernel_rfl))
  f46 := ⟨Tryz.f250.name, by decide, Tryz.func250.trans (congrArg some (by kernel_rfl))⟩
  f47 := Tryz.func238.trans (congrArg some (by kernel_rfl))
  f48 := Tryz.func239.trans (congrArg some (by kernel_rfl))
  f49 := ⟨Tryz.f251.name, by decide, Tryz.func251.trans (congrArg some (by kernel_rfl))⟩
  f50 := ⟨Tryz.f252.name, by decide, Tryz.func252.trans (congrArg some (by kernel_rfl))⟩
  f57 := ⟨Tryz.f257.name, by decide, Tryz.func257.trans (congrArg some (by kernel_rfl))⟩
  t0 := Tryz.underlying0
  a0 := Tryz.isAgg0
  z0 := Tryz.sizeOf0
  v0 := Tryz.zeroValue0
  t3 := Tryz.underlying3
  a3 := Tryz.isAgg3
  z3 := Tryz.sizeOf3
  v3 := Tryz.zeroValue3
  t4 := Tryz.underlying4
  a4 := Tryz.isAgg4
  z4 := Tryz.sizeOf4
  v4 := Tryz.zeroValue4
  t5 := Tryz.underlying5
  a5 := Tryz.isAgg5
  z5 := Tryz.sizeOf5
  v5 := Tryz.zeroValue5
  t9 := Tryz.underlying9
  a9 := Tryz.isAgg9
  z9 := Tryz.sizeOf9
  v9 := Tryz.zeroValue9
  t22 := Tryz.underlying95
  a22 := Tryz.isAgg95
  z22 := Tryz.sizeOf95
  v22 := Tryz.zeroValue95
  t25 := Tryz.underlying235
  a25 := Tryz.isAgg235
  z25 := Tryz.sizeOf235
  v25 := Tryz.zeroValue235
  t39 := Tryz.underlying207
  a39 := Tryz.isAgg207
  z39 := Tryz.sizeOf207
  v39 := Tryz.zeroValue207
  t45 := Tryz.underlying332
  a45 := Tryz.isAgg332
  z45 := Tryz.sizeOf332
  v45 := Tryz.zeroValue332
  t46 := Tryz.underlying333
  a46 := Tryz.isAgg333
  z46 := Tryz.sizeOf333
  v46 := Tryz.zeroValue333
  t50 := Tryz.underlying144
  a50 := Tryz.isAgg144
  z50 := Tryz.sizeOf144
  v50 := Tryz.zeroValue144
  t53 := Tryz.underlying236
  a53 := Tryz.isAgg236
  z53 := Tryz.sizeOf236
  v53 := Tryz.zeroValue236
  t55 := Tryz.underlying23
  a55 := Tryz.isAgg23
  z55 := Tryz.sizeOf23
  v55 := Tryz.zeroValue23
  t66 := Tryz.underlying345
  a66 := Tryz.isAgg345
  z66 := Tryz.sizeOf345
  v66 := Tryz.zeroValue345
  t70 := Tryz.underlying348
  a70 := Tryz.isAgg348
  z70 := Tryz.sizeOf348
  v70 := Tryz.zeroValue348
  t76 := Tryz.underlying357
  a76 := Tryz.isAgg357
  z76 := Tryz.sizeOf357
  v76 := Tryz.zeroValue357
  t77 := Tryz.underlying358
  a77 := Tryz.isAgg358
  z77 := Tryz.sizeOf358
  v77 := Tryz.zeroValue358 }
end Go.Proofs
