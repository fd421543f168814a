/- Of the law: texts of its proof, joined (part 11). -/
import Derived.Test.YtkedcelpadiakaaGreatQap10
set_option linter.all false
namespace Go.Proofs.YtkedcelpadiakaaGreat
open Go Go.Abs
def okR (z : Int) : Res := match dZ z with
  | [] => (.tuple #[nilV, posV 0], [])
  | l => (.tuple #[sliceA 0 0 l.length 1, posV 0], [l])
def apPairs0 : List Line := [([L [1]], okR (1)), ([L [2]], okR (0)), ([L [1,1]], okR (4)), ([L [3]], okR (18)), ([L [2,1]], okR (0)), ([L [1,1,1]], okR (18))]
theorem apPairs0_seen : ∀ x ∈ apPairs0, LineOK Tryz.prog 29 x.1 x.2 := ok_of apCls_ok (show Seen apCls_sp 29 apPairs0 from by unfold Seen; kernel_rfl)
def apPairs1 : List Line := [([L [4]], okR (0)), ([L [3,1]], okR (288)), ([L [2,2]], okR (168)), ([L [2,1,1]], okR (0)), ([L [1,1,1,1]], okR (120)), ([L [5]], okR (4800))]
theorem apPairs1_seen : ∀ x ∈ apPairs1, LineOK Tryz.prog 29 x.1 x.2 := ok_of apCls_ok (show Seen apCls_sp 29 apPairs1 from by unfold Seen; kernel_rfl)
def apPairs2 : List Line := [([L [4,1]], okR (0)), ([L [3,2]], okR (0)), ([L [3,1,1]], okR (5040)), ([L [2,2,1]], okR (3720)), ([L [2,1,1,1]], okR (0)), ([L [1,1,1,1,1]], okR (840))]
theorem apPairs2_seen : ∀ x ∈ apPairs2, LineOK Tryz.prog 29 x.1 x.2 := ok_of apCls_ok (show Seen apCls_sp 29 apPairs2 from by unfold Seen; kernel_rfl)
def apPairs3 : List Line := [([L [6]], okR (0)), ([L [5,1]], okR (190800)), ([L [4,2]], okR (92160)), ([L [4,1,1]], okR (0)), ([L [3,3]], okR (71280)), ([L [3,2,1]], okR (0))]
theorem apPairs3_seen : ∀ x ∈ apPairs3, LineOK Tryz.prog 29 x.1 x.2 := ok_of apCls_ok (show Seen apCls_sp 29 apPairs3 from by unfold Seen; kernel_rfl)
def apPairs4 : List Line := [([L [3,1,1,1]], okR (71280)), ([L [2,2,2]], okR (0)), ([L [2,2,1,1]], okR (84960)), ([L [2,1,1,1,1]], okR (0)), ([L [1,1,1,1,1,1]], okR (7920)), ([L [7]], okR (6350400))]
theorem apPairs4_seen : ∀ x ∈ apPairs4, LineOK Tryz.prog 29 x.1 x.2 := ok_of apCls_ok (show Seen apCls_sp 29 apPairs4 from by unfold Seen; kernel_rfl)
def apPairs5 : List Line := [([L [6,1]], okR (0)), ([L [5,2]], okR (0)), ([L [5,1,1]], okR (5443200)), ([L [4,3]], okR (0)), ([L [4,2,1]], okR (5806080)), ([L [4,1,1,1]], okR (0))]
theorem apPairs5_seen : ∀ x ∈ apPairs5, LineOK Tryz.prog 29 x.1 x.2 := ok_of apCls_ok (show Seen apCls_sp 29 apPairs5 from by unfold Seen; kernel_rfl)
def apPairs6 : List Line := [([L [3,3,1]], okR (3084480)), ([L [3,2,2]], okR (1920240)), ([L [3,2,1,1]], okR (0)), ([L [3,1,1,1,1]], okR (1164240)), ([L [2,2,2,1]], okR (0)), ([L [2,2,1,1,1]], okR (1557360))]
theorem apPairs6_seen : ∀ x ∈ apPairs6, LineOK Tryz.prog 29 x.1 x.2 := ok_of apCls_ok (show Seen apCls_sp 29 apPairs6 from by unfold Seen; kernel_rfl)
def apPairs7 : List Line := [([L [2,1,1,1,1,1]], okR (0)), ([L [1,1,1,1,1,1,1]], okR (75600))]
theorem apPairs7_seen : ∀ x ∈ apPairs7, LineOK Tryz.prog 29 x.1 x.2 := ok_of apCls_ok (show Seen apCls_sp 29 apPairs7 from by unfold Seen; kernel_rfl)
def apPairs : List Line := apPairs0 ++ apPairs1 ++ apPairs2 ++ apPairs3 ++ apPairs4 ++ apPairs5 ++ apPairs6 ++ apPairs7
theorem apPairs_seen : ∀ x ∈ apPairs, LineOK Tryz.prog 29 x.1 x.2 := (lines_append (lines_append (lines_append (lines_append (lines_append (lines_append (lines_append apPairs0_seen apPairs1_seen) apPairs2_seen) apPairs3_seen) apPairs4_seen) apPairs5_seen) apPairs6_seen) apPairs7_seen)
noncomputable def apPairs_sp : Abs.Spec := lay apCls_sp 29 apPairs
theorem apPairs_ok : Ok apPairs_sp := ok_lay apCls_ok apPairs_seen
end Go.Proofs.YtkedcelpadiakaaGreat
