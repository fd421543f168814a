/- Of the law: texts of its proof, joined (part 13). -/
import Derived.Test.YtkedcelpadiakaaGreatQap12
set_option linter.all false
namespace Go.Proofs.YtkedcelpadiakaaGreat
open Go Go.Abs
noncomputable def clsB : Code := (Tryz.f14.body).getD .skip
noncomputable def clsPre : Code := .seq (atC [0] clsB) (.seq (atC [1,0] clsB) (.seq (atC [1,1,0] clsB) (.seq (atC [1,1,1,0] clsB) (.seq (atC [1,1,1,1,0] clsB) (atC [1,1,1,1,1,0] clsB)))))
def PreC (sp : Abs.Spec) (a : Arg) (E : List Key2) : Prop := preK Tryz.prog (run sp) Tryz.f14.ntmps 200 clsPre 5 [a] E = RC.skip
def cE3 : List Key2 := [([0, 2, 1], [1, 0, 2]), ([0, 2, 1], [1, 2, 0]), ([1, 2, 0], [0, 2, 1])]
theorem cP3 : PreC noSpec (.li (ints [3])) cE3 := by unfold PreC; kernel_rfl
end Go.Proofs.YtkedcelpadiakaaGreat
