/- Of the law: texts of its proof, joined (part 45). -/
import Derived.Test.YtkedcelpadiakaaGreatQtp44
set_option linter.all false
namespace Go.Proofs.YtkedcelpadiakaaGreat
open Go Go.Abs
def cE4 : List Key2 := []
theorem cP4 : PreC spC4 (.li (ints [4])) cE4 := by unfold PreC; kernel_rfl
def cE31 : List Key2 := [([0, 1, 3, 2], [1, 2, 0, 3]), ([0, 1, 3, 2], [1, 2, 3, 0]), ([0, 2, 3, 1], [1, 0, 2, 3]), ([0, 2, 3, 1], [1, 2, 3, 0]), ([0, 2, 3, 1], [1, 3, 0, 2]), ([1, 2, 3, 0], [0, 1, 3, 2]), ([1, 2, 3, 0], [0, 2, 3, 1]), ([1, 2, 3, 0], [0, 3, 1, 2]), ([1, 2, 3, 0], [1, 3, 0, 2])]
theorem cP31 : PreC spC4 (.li (ints [3, 1])) cE31 := by unfold PreC; kernel_rfl
def cE22 : List Key2 := [([0, 2, 1, 3], [1, 0, 3, 2]), ([0, 2, 1, 3], [1, 3, 0, 2]), ([1, 0, 3, 2], [0, 2, 1, 3]), ([1, 0, 3, 2], [0, 2, 3, 1]), ([1, 0, 3, 2], [1, 2, 3, 0]), ([0, 2, 3, 1], [1, 2, 0, 3]), ([0, 2, 3, 1], [1, 3, 2, 0]), ([0, 2, 3, 1], [1, 0, 3, 2]), ([1, 2, 3, 0], [0, 3, 2, 1]), ([1, 2, 3, 0], [1, 0, 3, 2])]
theorem cP22 : PreC spC4 (.li (ints [2, 2])) cE22 := by unfold PreC; kernel_rfl
def cE211 : List Key2 := []
theorem cP211 : PreC spC4 (.li (ints [2, 1, 1])) cE211 := by unfold PreC; kernel_rfl
def cE1111 : List Key2 := [([0, 1, 2, 3], [1, 2, 3, 0]), ([1, 0, 3, 2], [2, 3, 0, 1]), ([1, 0, 3, 2], [2, 3, 1, 0]), ([1, 2, 3, 0], [0, 1, 2, 3]), ([1, 2, 3, 0], [1, 2, 3, 0]), ([1, 2, 3, 0], [2, 3, 0, 1]), ([1, 3, 0, 2], [2, 0, 3, 1])]
theorem cP1111 : PreC spC4 (.li (ints [1, 1, 1, 1])) cE1111 := by unfold PreC; kernel_rfl
end Go.Proofs.YtkedcelpadiakaaGreat
