/- Of the law: texts of its proof, joined (part 39). -/
import Derived.Test.YtkedcelpadiakaaGreatQtp38
set_option linter.all false
namespace Go.Proofs.YtkedcelpadiakaaGreat
open Go Go.Abs
noncomputable def clsB : Code := (Tryz.f14.body).getD .skip
noncomputable def clsPre : Code := .seq (atC [0] clsB) (.seq (atC [1,0] clsB) (.seq (atC [1,1,0] clsB) (.seq (atC [1,1,1,0] clsB) (.seq (atC [1,1,1,1,0] clsB) (atC [1,1,1,1,1,0] clsB)))))
def PreC (sp : Abs.Spec) (a : Arg) (E : List Key2) : Prop := preK Tryz.prog (run sp) Tryz.f14.ntmps 200 clsPre 5 [a] E = RC.skip
def cE : List Key2 := []
theorem cP : PreC noSpec (.li (ints [])) cE := by unfold PreC; kernel_rfl
def cE1 : List Key2 := [([0], [0])]
theorem cP1 : PreC noSpec (.li (ints [1])) cE1 := by unfold PreC; kernel_rfl
def cE2 : List Key2 := []
theorem cP2 : PreC noSpec (.li (ints [2])) cE2 := by unfold PreC; kernel_rfl
def cE11 : List Key2 := [([0, 1], [1, 0]), ([1, 0], [0, 1]), ([1, 0], [1, 0])]
theorem cP11 : PreC noSpec (.li (ints [1, 1])) cE11 := by unfold PreC; kernel_rfl
def cE3 : List Key2 := [([0, 2, 1], [1, 0, 2]), ([0, 2, 1], [1, 2, 0]), ([1, 2, 0], [0, 2, 1])]
theorem cP3 : PreC noSpec (.li (ints [3])) cE3 := by unfold PreC; kernel_rfl
def cE21 : List Key2 := []
theorem cP21 : PreC noSpec (.li (ints [2, 1])) cE21 := by unfold PreC; kernel_rfl
def cE111 : List Key2 := [([0, 1, 2], [1, 2, 0]), ([1, 2, 0], [0, 1, 2]), ([1, 2, 0], [1, 2, 0]), ([1, 2, 0], [2, 0, 1])]
theorem cP111 : PreC noSpec (.li (ints [1, 1, 1])) cE111 := by unfold PreC; kernel_rfl
end Go.Proofs.YtkedcelpadiakaaGreat
