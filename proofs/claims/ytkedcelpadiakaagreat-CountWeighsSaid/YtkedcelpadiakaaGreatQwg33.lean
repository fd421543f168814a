/- Of the law: texts of its proof, joined (part 33). -/
import Derived.Test.YtkedcelpadiakaaGreatQwg3
import Derived.Test.YtkedcelpadiakaaGreatQwg6
import Derived.Test.YtkedcelpadiakaaGreatQwg8
set_option linter.all false
namespace Go.Proofs.YtkedcelpadiakaaGreat
open Go Go.Abs
noncomputable def clsB : Code := (Tryz.f14.body).getD .skip
noncomputable def clsPre : Code := .seq (atC [0] clsB) (.seq (atC [1,0] clsB) (.seq (atC [1,1,0] clsB) (.seq (atC [1,1,1,0] clsB) (.seq (atC [1,1,1,1,0] clsB) (atC [1,1,1,1,1,0] clsB)))))
def PreC (sp : Abs.Spec) (a : Arg) (E : List Key2) : Prop := preK Tryz.prog (run sp) Tryz.f14.ntmps 200 clsPre 5 [a] E = RC.skip
def cE : List Key2 := []
theorem cP : PreC noSpec (.li (ints [])) cE := by unfold PreC; kernel_rfl
def cE1 : List Key2 := [([0], [0])]
theorem cP1 : PreC noSpec (.li (ints [1])) cE1 := by unfold PreC; kernel_rfl
def cE2 : List Key2 := []
theorem cP2 : PreC noSpec (.li (ints [2])) cE2 := by unfold PreC; kernel_rfl
def cE11 : List Key2 := [([0, 1], [1, 0]), ([1, 0], [0, 1]), ([1, 0], [1, 0])]
theorem cP11 : PreC noSpec (.li (ints [1, 1])) cE11 := by unfold PreC; kernel_rfl
def cE3 : List Key2 := [([0, 2, 1], [1, 0, 2]), ([0, 2, 1], [1, 2, 0]), ([1, 2, 0], [0, 2, 1])]
theorem cP3 : PreC noSpec (.li (ints [3])) cE3 := by unfold PreC; kernel_rfl
def cE21 : List Key2 := []
theorem cP21 : PreC noSpec (.li (ints [2, 1])) cE21 := by unfold PreC; kernel_rfl
def cE111 : List Key2 := [([0, 1, 2], [1, 2, 0]), ([1, 2, 0], [0, 1, 2]), ([1, 2, 0], [1, 2, 0]), ([1, 2, 0], [2, 0, 1])]
theorem cP111 : PreC noSpec (.li (ints [1, 1, 1])) cE111 := by unfold PreC; kernel_rfl
end Go.Proofs.YtkedcelpadiakaaGreat
namespace Go.Proofs.YtkedcelpadiakaaGreat
open Go Go.Abs
def lea4 : List Line := ([5768, 1224, 1616, 720, 1112, 664, 5761, 5313, 5649, 4305, 1049, 153, 1602, 706, 1546, 202, 538, 90, 1091, 643, 1035, 139, 531, 83] : List Nat).map (leaL 4)
theorem lea4_all : ∀ x ∈ lea4, LineOK Tryz.prog 46 x.1 x.2 := ok_of (noSpec_good _) (show Seen noSpec 46 lea4 from by unfold Seen; kernel_rfl)
def kin4_0 : List Line := ([9821521544, 9819686536, 9821292168, 9817622152, 9819227784, 9817392776, 9821492872, 9819657864, 9821034120, 9815529096, 9818969736, 9815299720, 9821234824, 9817564808, 9821005448, 9815500424, 9816876680, 9815041672, 9819141768, 9817306760, 9818912392, 9815242376, 9816848008, 9815013000, 9821521537, 9819686529, 191170177, 187500161, 189105793, 187270785, 9821492865, 9819657857, 190912129, 185407105, 188847745, 185177729, 191112833, 187442817, 190883457, 185378433, 304195201, 302360193, 189019777, 187184769, 188790401, 185120385, 304166529, 302331521, 9821521089, 9819686081, 308610241, 304940225, 306545857, 304710849, 9821492417, 9819657409, 308352193, 302847169, 306287809, 302617793, 308552897, 304882881, 308323521, 302818497, 9816876225, 9815041217, 306459841, 304624833, 306230465, 302560449, 9816847553, 9815012545, 9821521425, 189564433, 191170065, 304940561, 306546193, 187270673, 191370769, 306976273, 9821034001, 185406993, 188847633, 302618129, 9821234705, 187442705, 190883345, 302818833, 304195089, 184919569, 189019665, 304625169, 306230801, 185120273, 186725905, 302331409, 9821520081, 189563089, 191168721, 187498705, 189104337, 304709841, 191369425, 306974929, 190910673, 9815527633, 188846289, 185176273, 191111377, 187441361, 308322513, 185376977, 9816875217, 184918225, 9819140305, 187183313, 188788945, 185118929, 186724561, 302330065] : List Nat).map (kinL 4)
theorem kin4_0_all : ∀ x ∈ kin4_0, LineOK Tryz.prog 48 x.1 x.2 := ok_of (noSpec_good _) (show Seen noSpec 48 kin4_0 from by unfold Seen; kernel_rfl)
end Go.Proofs.YtkedcelpadiakaaGreat
