/- Of the law: texts of its proof, joined (part 1). -/
import Derived.Test.YtmdnofcphdjieaaGreatDoorRows
import Derived.Shelf.Lays
set_option linter.all false
namespace Go.Proofs.YtmdnofcphdjieaaGreatDoor
open Go
def srtRen:Go.Shelf.Ren:=⟨fun | 125=>147 | 128=>165 | 129=>166 | 189=>136 | 215=>154 | 216=>177 | 257=>153 | 294=>171 | 295=>172 | 296=>173 | 297=>174 | 298=>175 | 299=>176 | 300=>178 | 301=>179 | 328=>187 | 329=>182 | 330=>183 | 331=>188 | 332=>189 | 343=>192 | n=>n,
 fun | 0=>0 | 3=>3 | 4=>4 | 5=>5 | 9=>9 | 28=>43 | 46=>137 | 51=>171 | 53=>174 | 131=>126 | 182=>191 | 183=>192 | 218=>213 | 222=>217 | 228=>221 | 229=>222 | n=>n,fun n=>n⟩
theorem srtLays:Go.Proofs.Lays.n189 Tryz.prog srtRen where
 mixed:=by kernel_rfl
 f125:=Tryz.func147.trans (congrArg some (by kernel_rfl))
 f128:=Tryz.func165.trans (congrArg some (by kernel_rfl))
 f129:=Tryz.func166.trans (congrArg some (by kernel_rfl))
 f189:=Tryz.func136.trans (congrArg some (by kernel_rfl))
 f215:=Tryz.func154.trans (congrArg some (by kernel_rfl))
 f216:=Tryz.func177.trans (congrArg some (by kernel_rfl))
 f257:=Tryz.func153.trans (congrArg some (by kernel_rfl))
 f294:=Tryz.func171.trans (congrArg some (by kernel_rfl))
 f295:=Tryz.func172.trans (congrArg some (by kernel_rfl))
 f296:=Tryz.func173.trans (congrArg some (by kernel_rfl))
 f297:=Tryz.func174.trans (congrArg some (by kernel_rfl))
 f298:=Tryz.func175.trans (congrArg some (by kernel_rfl))
 f299:=Tryz.func176.trans (congrArg some (by kernel_rfl))
 f300:=Tryz.func178.trans (congrArg some (by kernel_rfl))
 f301:=Tryz.func179.trans (congrArg some (by kernel_rfl))
 f328:=Tryz.func187.trans (congrArg some (by kernel_rfl))
 f329:=Tryz.func182.trans (congrArg some (by kernel_rfl))
 f330:=Tryz.func183.trans (congrArg some (by kernel_rfl))
 f331:=Tryz.func188.trans (congrArg some (by kernel_rfl))
 f332:=Tryz.func189.trans (congrArg some (by kernel_rfl))
 f343:=Tryz.func192.trans (congrArg some (by kernel_rfl))
 t0:=Tryz.underlying0
 a0:=Tryz.isAgg0
 z0:=Tryz.sizeOf0
 v0:=Tryz.zeroValue0
 t3:=Tryz.underlying3
 a3:=Tryz.isAgg3
 z3:=Tryz.sizeOf3
 v3:=Tryz.zeroValue3
 t4:=Tryz.underlying4
 a4:=Tryz.isAgg4
 z4:=Tryz.sizeOf4
 v4:=Tryz.zeroValue4
 t5:=Tryz.underlying5
 a5:=Tryz.isAgg5
 z5:=Tryz.sizeOf5
 v5:=Tryz.zeroValue5
 t9:=Tryz.underlying9
 a9:=Tryz.isAgg9
 z9:=Tryz.sizeOf9
 v9:=Tryz.zeroValue9
 t28:=Tryz.underlying43
 a28:=Tryz.isAgg43
 z28:=Tryz.sizeOf43
 v28:=Tryz.zeroValue43
 t46:=Tryz.underlying137
 a46:=Tryz.isAgg137
 z46:=Tryz.sizeOf137
 v46:=Tryz.zeroValue137
 t51:=Tryz.underlying171
 a51:=Tryz.isAgg171
 z51:=Tryz.sizeOf171
 v51:=Tryz.zeroValue171
 t53:=Tryz.underlying174
 a53:=Tryz.isAgg174
 z53:=Tryz.sizeOf174
 v53:=Tryz.zeroValue174
 t131:=Tryz.underlying126
 a131:=Tryz.isAgg126
 z131:=Tryz.sizeOf126
 v131:=Tryz.zeroValue126
 t182:=Tryz.underlying191
 a182:=Tryz.isAgg191
 z182:=Tryz.sizeOf191
 v182:=Tryz.zeroValue191
 t183:=Tryz.underlying192
 a183:=Tryz.isAgg192
 z183:=Tryz.sizeOf192
 v183:=Tryz.zeroValue192
 t218:=Tryz.underlying213
 a218:=Tryz.isAgg213
 z218:=Tryz.sizeOf213
 v218:=Tryz.zeroValue213
 t222:=Tryz.underlying217
 a222:=Tryz.isAgg217
 z222:=Tryz.sizeOf217
 v222:=Tryz.zeroValue217
 t228:=Tryz.underlying221
 a228:=Tryz.isAgg221
 z228:=Tryz.sizeOf221
 v228:=Tryz.zeroValue221
 t229:=Tryz.underlying222
 a229:=Tryz.isAgg222
 z229:=Tryz.sizeOf222
 v229:=Tryz.zeroValue222
end Go.Proofs.YtmdnofcphdjieaaGreatDoor
