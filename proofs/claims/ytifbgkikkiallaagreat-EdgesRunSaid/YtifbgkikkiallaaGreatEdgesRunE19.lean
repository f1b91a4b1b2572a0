import Derived.Test.YtifbgkikkiallaaGreatEdgesRunE16
import Derived.Shelf.Sort.Plain
import Derived.Shelf.Slices.In.SortNone
import Derived.Test.YtifbgkikkiallaaGreatEdgesRunE17
import Derived.Test.YtifbgkikkiallaaGreatEdgesRunE18
set_option linter.unusedVariables false
set_option linter.unusedSimpArgs false
namespace Go.Proofs.YtifbgkikkiallaaGreat.VX.T2
open Go.Proofs Go.Shelf
def Yiw:Go.Shelf.Ren:=⟨fun | 189=>64 | 125=>108 | 257=>107 | 128=>176 | 129=>177 | 294=>167 | 295=>168 | 296=>169 | 297=>170 | 298=>171 | 299=>172 | 216=>173 | 300=>174 | 301=>175 | 328=>225 | 329=>226 | 330=>227 | 331=>228 | 332=>229 | 215=>230 | 343=>267 | n=>n,fun | 28=>22 | 3=>3 | 46=>103 | 0=>0 | 51=>219 | 53=>221 | 4=>4 | 183=>212 | 182=>211 | 131=>216 | 5=>5 | 9=>9 | 218=>272 | 222=>276 | 228=>310 | 229=>311 | n=>n,fun n=>n⟩
theorem Yiv:Lays.n189 Tryz.prog Yiw where
 mixed:=by kernel_rfl
 f125:=Tryz.func108.trans (congrArg some (by kernel_rfl))
 f128:=Tryz.func176.trans (congrArg some (by kernel_rfl))
 f129:=Tryz.func177.trans (congrArg some (by kernel_rfl))
 f189:=Tryz.func64.trans (congrArg some (by kernel_rfl))
 f215:=Tryz.func230.trans (congrArg some (by kernel_rfl))
 f216:=Tryz.func173.trans (congrArg some (by kernel_rfl))
 f257:=Tryz.func107.trans (congrArg some (by kernel_rfl))
 f294:=Tryz.func167.trans (congrArg some (by kernel_rfl))
 f295:=Tryz.func168.trans (congrArg some (by kernel_rfl))
 f296:=Tryz.func169.trans (congrArg some (by kernel_rfl))
 f297:=Tryz.func170.trans (congrArg some (by kernel_rfl))
 f298:=Tryz.func171.trans (congrArg some (by kernel_rfl))
 f299:=Tryz.func172.trans (congrArg some (by kernel_rfl))
 f300:=Tryz.func174.trans (congrArg some (by kernel_rfl))
 f301:=Tryz.func175.trans (congrArg some (by kernel_rfl))
 f328:=Tryz.func225.trans (congrArg some (by kernel_rfl))
 f329:=Tryz.func226.trans (congrArg some (by kernel_rfl))
 f330:=Tryz.func227.trans (congrArg some (by kernel_rfl))
 f331:=Tryz.func228.trans (congrArg some (by kernel_rfl))
 f332:=Tryz.func229.trans (congrArg some (by kernel_rfl))
 f343:=Tryz.func267.trans (congrArg some (by kernel_rfl))
 t0:=Tryz.underlying0
 a0:=Tryz.isAgg0
 z0:=Tryz.sizeOf0
 v0:=Tryz.zeroValue0
 t3:=Tryz.underlying3
 a3:=Tryz.isAgg3
 z3:=Tryz.sizeOf3
 v3:=Tryz.zeroValue3
 t4:=Tryz.underlying4
 a4:=Tryz.isAgg4
 z4:=Tryz.sizeOf4
 v4:=Tryz.zeroValue4
 t5:=Tryz.underlying5
 a5:=Tryz.isAgg5
 z5:=Tryz.sizeOf5
 v5:=Tryz.zeroValue5
 t9:=Tryz.underlying9
 a9:=Tryz.isAgg9
 z9:=Tryz.sizeOf9
 v9:=Tryz.zeroValue9
 t28:=Tryz.underlying22
 a28:=Tryz.isAgg22
 z28:=Tryz.sizeOf22
 v28:=Tryz.zeroValue22
 t46:=Tryz.underlying103
 a46:=Tryz.isAgg103
 z46:=Tryz.sizeOf103
 v46:=Tryz.zeroValue103
 t51:=Tryz.underlying219
 a51:=Tryz.isAgg219
 z51:=Tryz.sizeOf219
 v51:=Tryz.zeroValue219
 t53:=Tryz.underlying221
 a53:=Tryz.isAgg221
 z53:=Tryz.sizeOf221
 v53:=Tryz.zeroValue221
 t131:=Tryz.underlying216
 a131:=Tryz.isAgg216
 z131:=Tryz.sizeOf216
 v131:=Tryz.zeroValue216
 t182:=Tryz.underlying211
 a182:=Tryz.isAgg211
 z182:=Tryz.sizeOf211
 v182:=Tryz.zeroValue211
 t183:=Tryz.underlying212
 a183:=Tryz.isAgg212
 z183:=Tryz.sizeOf212
 v183:=Tryz.zeroValue212
 t218:=Tryz.underlying272
 a218:=Tryz.isAgg272
 z218:=Tryz.sizeOf272
 v218:=Tryz.zeroValue272
 t222:=Tryz.underlying276
 a222:=Tryz.isAgg276
 z222:=Tryz.sizeOf276
 v222:=Tryz.zeroValue276
 t228:=Tryz.underlying310
 a228:=Tryz.isAgg310
 z228:=Tryz.sizeOf310
 v228:=Tryz.zeroValue310
 t229:=Tryz.underlying311
 a229:=Tryz.isAgg311
 z229:=Tryz.sizeOf311
 v229:=Tryz.zeroValue311
theorem Y7:Sound Tryz.prog 64 Yiz :=
 Yj2 ⟨Tryz.f64,by kernel_rfl,by kernel_rfl,by decide⟩ (Any.slices_Sort_int Yiv) (Any.slices_Sort_int_none Yiv)
def Y4j:Go.Shelf.Ren:=⟨fun | 20=>65 | n=>n,fun | 22=>22 | 3=>3 | 4=>4 | 0=>0 | n=>n,fun n=>n⟩
theorem Y4i:Lays2.n20 Tryz.prog Y4j where
 mixed:=by kernel_rfl
 f20:=Tryz.func65.trans (congrArg some (by kernel_rfl))
 t0:=Tryz.underlying0
 a0:=Tryz.isAgg0
 z0:=Tryz.sizeOf0
 v0:=Tryz.zeroValue0
 t3:=Tryz.underlying3
 a3:=Tryz.isAgg3
 z3:=Tryz.sizeOf3
 v3:=Tryz.zeroValue3
 t4:=Tryz.underlying4
 a4:=Tryz.isAgg4
 z4:=Tryz.sizeOf4
 v4:=Tryz.zeroValue4
 t22:=Tryz.underlying22
 a22:=Tryz.isAgg22
 z22:=Tryz.sizeOf22
 v22:=Tryz.zeroValue22
 i3:=by kernel_rfl
theorem Y6:Sound Tryz.prog 65 Y4k :=
 Y4q ⟨Tryz.f65,by kernel_rfl,by kernel_rfl,by decide⟩ (Any.slices_Compact_int Y4i) (Any.slices_Compact_int_empty Y4i)
end Go.Proofs.YtifbgkikkiallaaGreat.VX.T2

