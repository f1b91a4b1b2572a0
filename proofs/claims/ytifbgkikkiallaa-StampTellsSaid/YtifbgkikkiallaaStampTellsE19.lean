/- Laid for the law StampTells. -/
import Derived.Test.YtifbgkikkiallaaStampTellsE16
import Derived.Shelf.Sort.Plain
import Derived.Shelf.Slices.In.SortNone
import Derived.Test.YtifbgkikkiallaaStampTellsE17
import Derived.Test.YtifbgkikkiallaaStampTellsE18
namespace Go.Proofs.Ytifbgkikkiallaa.VX.T2
open Go.Proofs Go.Shelf
def Yex:Go.Shelf.Ren:=⟨fun | 189=>22 | 125=>41 | 257=>40 | 128=>75 | 129=>76 | 294=>66 | 295=>67 | 296=>68 | 297=>69 | 298=>70 | 299=>71 | 216=>72 | 300=>73 | 301=>74 | 328=>89 | 329=>90 | 330=>91 | 331=>92 | 332=>93 | 215=>94 | 343=>105 | n=>n,fun | 28=>22 | 3=>3 | 46=>80 | 0=>0 | 51=>104 | 53=>106 | 4=>4 | 183=>96 | 182=>95 | 131=>101 | 5=>5 | 9=>9 | 218=>111 | 222=>115 | 228=>119 | 229=>120 | n=>n,fun n=>n⟩
theorem Yew:Lays.n189 Try.prog Yex where
 mixed:=by kernel_rfl
 f125:=Try.func41.trans (congrArg some (by kernel_rfl))
 f128:=Try.func75.trans (congrArg some (by kernel_rfl))
 f129:=Try.func76.trans (congrArg some (by kernel_rfl))
 f189:=Try.func22.trans (congrArg some (by kernel_rfl))
 f215:=Try.func94.trans (congrArg some (by kernel_rfl))
 f216:=Try.func72.trans (congrArg some (by kernel_rfl))
 f257:=Try.func40.trans (congrArg some (by kernel_rfl))
 f294:=Try.func66.trans (congrArg some (by kernel_rfl))
 f295:=Try.func67.trans (congrArg some (by kernel_rfl))
 f296:=Try.func68.trans (congrArg some (by kernel_rfl))
 f297:=Try.func69.trans (congrArg some (by kernel_rfl))
 f298:=Try.func70.trans (congrArg some (by kernel_rfl))
 f299:=Try.func71.trans (congrArg some (by kernel_rfl))
 f300:=Try.func73.trans (congrArg some (by kernel_rfl))
 f301:=Try.func74.trans (congrArg some (by kernel_rfl))
 f328:=Try.func89.trans (congrArg some (by kernel_rfl))
 f329:=Try.func90.trans (congrArg some (by kernel_rfl))
 f330:=Try.func91.trans (congrArg some (by kernel_rfl))
 f331:=Try.func92.trans (congrArg some (by kernel_rfl))
 f332:=Try.func93.trans (congrArg some (by kernel_rfl))
 f343:=Try.func105.trans (congrArg some (by kernel_rfl))
 t0:=Try.underlying0
 a0:=Try.isAgg0
 z0:=Try.sizeOf0
 v0:=Try.zeroValue0
 t3:=Try.underlying3
 a3:=Try.isAgg3
 z3:=Try.sizeOf3
 v3:=Try.zeroValue3
 t4:=Try.underlying4
 a4:=Try.isAgg4
 z4:=Try.sizeOf4
 v4:=Try.zeroValue4
 t5:=Try.underlying5
 a5:=Try.isAgg5
 z5:=Try.sizeOf5
 v5:=Try.zeroValue5
 t9:=Try.underlying9
 a9:=Try.isAgg9
 z9:=Try.sizeOf9
 v9:=Try.zeroValue9
 t28:=Try.underlying22
 a28:=Try.isAgg22
 z28:=Try.sizeOf22
 v28:=Try.zeroValue22
 t46:=Try.underlying80
 a46:=Try.isAgg80
 z46:=Try.sizeOf80
 v46:=Try.zeroValue80
 t51:=Try.underlying104
 a51:=Try.isAgg104
 z51:=Try.sizeOf104
 v51:=Try.zeroValue104
 t53:=Try.underlying106
 a53:=Try.isAgg106
 z53:=Try.sizeOf106
 v53:=Try.zeroValue106
 t131:=Try.underlying101
 a131:=Try.isAgg101
 z131:=Try.sizeOf101
 v131:=Try.zeroValue101
 t182:=Try.underlying95
 a182:=Try.isAgg95
 z182:=Try.sizeOf95
 v182:=Try.zeroValue95
 t183:=Try.underlying96
 a183:=Try.isAgg96
 z183:=Try.sizeOf96
 v183:=Try.zeroValue96
 t218:=Try.underlying111
 a218:=Try.isAgg111
 z218:=Try.sizeOf111
 v218:=Try.zeroValue111
 t222:=Try.underlying115
 a222:=Try.isAgg115
 z222:=Try.sizeOf115
 v222:=Try.zeroValue115
 t228:=Try.underlying119
 a228:=Try.isAgg119
 z228:=Try.sizeOf119
 v228:=Try.zeroValue119
 t229:=Try.underlying120
 a229:=Try.isAgg120
 z229:=Try.sizeOf120
 v229:=Try.zeroValue120
theorem Y7:Sound Try.prog 22 Yf0 :=
 Yf3 ⟨Try.f22,by kernel_rfl,by kernel_rfl,by decide⟩ (Any.slices_Sort_int Yew) (Any.slices_Sort_int_none Yew)
def Y3y:Go.Shelf.Ren:=⟨fun | 20=>23 | n=>n,fun | 22=>22 | 3=>3 | 4=>4 | 0=>0 | n=>n,fun n=>n⟩
theorem Y3x:Lays2.n20 Try.prog Y3y where
 mixed:=by kernel_rfl
 f20:=Try.func23.trans (congrArg some (by kernel_rfl))
 t0:=Try.underlying0
 a0:=Try.isAgg0
 z0:=Try.sizeOf0
 v0:=Try.zeroValue0
 t3:=Try.underlying3
 a3:=Try.isAgg3
 z3:=Try.sizeOf3
 v3:=Try.zeroValue3
 t4:=Try.underlying4
 a4:=Try.isAgg4
 z4:=Try.sizeOf4
 v4:=Try.zeroValue4
 t22:=Try.underlying22
 a22:=Try.isAgg22
 z22:=Try.sizeOf22
 v22:=Try.zeroValue22
 i3:=by kernel_rfl
theorem Y6:Sound Try.prog 23 Y3z :=
 Y45 ⟨Try.f23,by kernel_rfl,by kernel_rfl,by decide⟩ (Any.slices_Compact_int Y3x) (Any.slices_Compact_int_empty Y3x)
end Go.Proofs.Ytifbgkikkiallaa.VX.T2

