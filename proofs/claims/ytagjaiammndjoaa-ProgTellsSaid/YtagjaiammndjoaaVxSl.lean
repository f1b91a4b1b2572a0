import Derived.Test.YtagjaiammndjoaaVxSort
import Derived.Test.YtagjaiammndjoaaVxT2
import Derived.Shelf.Sort.Plain
import Derived.Shelf.Slices.In.SortNone
namespace Go.Proofs.Ytagjaiammndjoaa.VX.T2
open Go.Proofs Go.Shelf
/- The table of numbers by which the library's function stands in this program. -/
def sortRen : Go.Shelf.Ren := ⟨fun | 189 => 44 | 125 => 69 | 257 => 68 | 128 => 95 | 129 => 96 | 294 => 86 | 295 => 87 | 296 => 88 | 297 => 89 | 298 => 90 | 299 => 91 | 216 => 92 | 300 => 93 | 301 => 94 | 328 => 98 | 329 => 99 | 330 => 100 | 331 => 101 | 332 => 102 | 215 => 103 | 343 => 104 | n => n, fun | 28 => 22 | 3 => 3 | 46 => 96 | 0 => 0 | 51 => 128 | 53 => 130 | 4 => 4 | 183 => 121 | 182 => 120 | 131 => 80 | 5 => 5 | 9 => 9 | 218 => 132 | 222 => 83 | 228 => 137 | 229 => 138 | n => n, fun n => n⟩
theorem sortLays : Lays.n189 Try.prog sortRen where
  mixed := by kernel_rfl
  f125 := Try.func69.trans (congrArg some (by kernel_rfl))
  f128 := Try.func95.trans (congrArg some (by kernel_rfl))
  f129 := Try.func96.trans (congrArg some (by kernel_rfl))
  f189 := Try.func44.trans (congrArg some (by kernel_rfl))
  f215 := Try.func103.trans (congrArg some (by kernel_rfl))
  f216 := Try.func92.trans (congrArg some (by kernel_rfl))
  f257 := Try.func68.trans (congrArg some (by kernel_rfl))
  f294 := Try.func86.trans (congrArg some (by kernel_rfl))
  f295 := Try.func87.trans (congrArg some (by kernel_rfl))
  f296 := Try.func88.trans (congrArg some (by kernel_rfl))
  f297 := Try.func89.trans (congrArg some (by kernel_rfl))
  f298 := Try.func90.trans (congrArg some (by kernel_rfl))
  f299 := Try.func91.trans (congrArg some (by kernel_rfl))
  f300 := Try.func93.trans (congrArg some (by kernel_rfl))
  f301 := Try.func94.trans (congrArg some (by kernel_rfl))
  f328 := Try.func98.trans (congrArg some (by kernel_rfl))
  f329 := Try.func99.trans (congrArg some (by kernel_rfl))
  f330 := Try.func100.trans (congrArg some (by kernel_rfl))
  f331 := Try.func101.trans (congrArg some (by kernel_rfl))
  f332 := Try.func102.trans (congrArg some (by kernel_rfl))
  f343 := Try.func104.trans (congrArg some (by kernel_rfl))
  t0 := Try.underlying0
  a0 := Try.isAgg0
  z0 := Try.sizeOf0
  v0 := Try.zeroValue0
  t3 := Try.underlying3
  a3 := Try.isAgg3
  z3 := Try.sizeOf3
  v3 := Try.zeroValue3
  t4 := Try.underlying4
  a4 := Try.isAgg4
  z4 := Try.sizeOf4
  v4 := Try.zeroValue4
  t5 := Try.underlying5
  a5 := Try.isAgg5
  z5 := Try.sizeOf5
  v5 := Try.zeroValue5
  t9 := Try.underlying9
  a9 := Try.isAgg9
  z9 := Try.sizeOf9
  v9 := Try.zeroValue9
  t28 := Try.underlying22
  a28 := Try.isAgg22
  z28 := Try.sizeOf22
  v28 := Try.zeroValue22
  t46 := Try.underlying96
  a46 := Try.isAgg96
  z46 := Try.sizeOf96
  v46 := Try.zeroValue96
  t51 := Try.underlying128
  a51 := Try.isAgg128
  z51 := Try.sizeOf128
  v51 := Try.zeroValue128
  t53 := Try.underlying130
  a53 := Try.isAgg130
  z53 := Try.sizeOf130
  v53 := Try.zeroValue130
  t131 := Try.underlying80
  a131 := Try.isAgg80
  z131 := Try.sizeOf80
  v131 := Try.zeroValue80
  t182 := Try.underlying120
  a182 := Try.isAgg120
  z182 := Try.sizeOf120
  v182 := Try.zeroValue120
  t183 := Try.underlying121
  a183 := Try.isAgg121
  z183 := Try.sizeOf121
  v183 := Try.zeroValue121
  t218 := Try.underlying132
  a218 := Try.isAgg132
  z218 := Try.sizeOf132
  v218 := Try.zeroValue132
  t222 := Try.underlying83
  a222 := Try.isAgg83
  z222 := Try.sizeOf83
  v222 := Try.zeroValue83
  t228 := Try.underlying137
  a228 := Try.isAgg137
  z228 := Try.sizeOf137
  v228 := Try.zeroValue137
  t229 := Try.underlying138
  a229 := Try.isAgg138
  z229 := Try.sizeOf138
  v229 := Try.zeroValue138
theorem F_slices_Sort_int_ok : Sound Try.prog 44 sortSpec :=
  sort_sound ⟨Try.f44, by kernel_rfl, by kernel_rfl, by decide⟩ (Any.slices_Sort_int sortLays) (Any.slices_Sort_int_none sortLays)
end Go.Proofs.Ytagjaiammndjoaa.VX.T2
