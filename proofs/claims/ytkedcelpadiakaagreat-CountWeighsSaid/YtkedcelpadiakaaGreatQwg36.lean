/- Of the law: texts of its proof, joined (part 36). -/
import Derived.Test.YtkedcelpadiakaaGreatQwg28
import Derived.Test.YtkedcelpadiakaaGreatQwg33
import Derived.Test.YtkedcelpadiakaaGreatQwg34
import Derived.Test.YtkedcelpadiakaaGreatQwg35
set_option linter.all false
namespace Go.Proofs.YtkedcelpadiakaaGreat
open Go Go.Abs
def eqv4 : List Line := ([16969, 45641, 74313, 303689, 19173961, 16402, 45074, 16850962, 303122, 2396178, 16395, 16822283, 73739, 303115, 2396171] : List Nat).map (eqvL 4)
theorem eqv4_all : ∀ x ∈ eqv4, LineOK Tryz.prog 47 x.1 x.2 := ok_of (noSpec_good _) (show Seen noSpec 47 eqv4 from by unfold Seen; kernel_rfl)
def key4 : List Line := ([369857, 627408, 856273, 856784, 857281, 857288, 857736, 2203857, 2204865, 2719953, 2892825, 2949329, 2950337, 4296913, 4297424, 4298320, 4554961, 4985041, 4985552, 4986448, 5013713, 6361808, 6362312, 6620353, 6820560, 6848721] : List Nat).map (keyL 4)
theorem key4_all : ∀ x ∈ key4, LineOK Tryz.prog 49 x.1 x.2 := ok_of (noSpec_good _) (show Seen noSpec 49 key4 from by unfold Seen; kernel_rfl)
end Go.Proofs.YtkedcelpadiakaaGreat
namespace Go.Proofs.YtkedcelpadiakaaGreat
open Go Go.Abs
def kin4 : List Line := kin4_0
theorem kin4_all : ∀ x ∈ kin4, LineOK Tryz.prog 48 x.1 x.2 := kin4_0_all
def lab4 : List Line := (lab4_0 ++ lab4_1)
theorem lab4_all : ∀ x ∈ lab4, LineOK Tryz.prog 21 x.1 x.2 := (lines_append lab4_0_all lab4_1_all)
noncomputable def spC4 : Abs.Spec := lay (lay (lay (lay (lay noSpec 46 lea4) 48 kin4) 21 lab4) 47 eqv4) 49 key4
theorem spC4_ok : Ok spC4 := ok_lay (ok_lay (ok_lay (ok_lay (ok_lay (noSpec_good _) lea4_all) kin4_all) lab4_all) eqv4_all) key4_all
end Go.Proofs.YtkedcelpadiakaaGreat
namespace Go.Proofs.YtkedcelpadiakaaGreat
open Go Go.Abs
def cE4 : List Key2 := []
theorem cP4 : PreC spC4 (.li (ints [4])) cE4 := by unfold PreC; kernel_rfl
def cE31 : List Key2 := [([0, 1, 3, 2], [1, 2, 0, 3]), ([0, 1, 3, 2], [1, 2, 3, 0]), ([0, 2, 3, 1], [1, 0, 2, 3]), ([0, 2, 3, 1], [1, 2, 3, 0]), ([0, 2, 3, 1], [1, 3, 0, 2]), ([1, 2, 3, 0], [0, 1, 3, 2]), ([1, 2, 3, 0], [0, 2, 3, 1]), ([1, 2, 3, 0], [0, 3, 1, 2]), ([1, 2, 3, 0], [1, 3, 0, 2])]
theorem cP31 : PreC spC4 (.li (ints [3, 1])) cE31 := by unfold PreC; kernel_rfl
def cE22 : List Key2 := [([0, 2, 1, 3], [1, 0, 3, 2]), ([0, 2, 1, 3], [1, 3, 0, 2]), ([1, 0, 3, 2], [0, 2, 1, 3]), ([1, 0, 3, 2], [0, 2, 3, 1]), ([1, 0, 3, 2], [1, 2, 3, 0]), ([0, 2, 3, 1], [1, 2, 0, 3]), ([0, 2, 3, 1], [1, 3, 2, 0]), ([0, 2, 3, 1], [1, 0, 3, 2]), ([1, 2, 3, 0], [0, 3, 2, 1]), ([1, 2, 3, 0], [1, 0, 3, 2])]
theorem cP22 : PreC spC4 (.li (ints [2, 2])) cE22 := by unfold PreC; kernel_rfl
def cE211 : List Key2 := []
theorem cP211 : PreC spC4 (.li (ints [2, 1, 1])) cE211 := by unfold PreC; kernel_rfl
def cE1111 : List Key2 := [([0, 1, 2, 3], [1, 2, 3, 0]), ([1, 0, 3, 2], [2, 3, 0, 1]), ([1, 0, 3, 2], [2, 3, 1, 0]), ([1, 2, 3, 0], [0, 1, 2, 3]), ([1, 2, 3, 0], [1, 2, 3, 0]), ([1, 2, 3, 0], [2, 3, 0, 1]), ([1, 3, 0, 2], [2, 0, 3, 1])]
theorem cP1111 : PreC spC4 (.li (ints [1, 1, 1, 1])) cE1111 := by unfold PreC; kernel_rfl
end Go.Proofs.YtkedcelpadiakaaGreat
