/- Of the law: texts of its proof, joined (part 11). -/
import Derived.Test.YtmmgdgmjkhcfaaaQor10
set_option linter.all false
namespace Go.Proofs.Ytmmgdgmjkhcfaaa
open Go Go.Abs
def orKeyb0 : List Line := [([L [8], L [2,2,2,2]], strR [8,0,2,2,2,2]), ([L [8], L [3,1,1,1,1,1]], strR [8,0,3,1,1,1,1,1]), ([L [8], L [3,2,1,1,1]], strR [8,0,3,2,1,1,1]), ([L [8], L [3,2,2,1]], strR [8,0,3,2,2,1]), ([L [8], L [3,3,1,1]], strR [8,0,3,3,1,1]), ([L [8], L [3,3,2]], strR [8,0,3,3,2]), ([L [8], L [4,1,1,1,1]], strR [8,0,4,1,1,1,1]), ([L [8], L [4,2,1,1]], strR [8,0,4,2,1,1]), ([L [8], L [4,2,2]], strR [8,0,4,2,2]), ([L [8], L [4,3,1]], strR [8,0,4,3,1]), ([L [8], L [4,4]], strR [8,0,4,4]), ([L [8], L [5,1,1,1]], strR [8,0,5,1,1,1]), ([L [8], L [5,2,1]], strR [8,0,5,2,1]), ([L [8], L [5,3]], strR [8,0,5,3]), ([L [8], L [6,1,1]], strR [8,0,6,1,1]), ([L [8], L [6,2]], strR [8,0,6,2]), ([L [8], L [7,1]], strR [8,0,7,1]), ([L [8], L [8]], strR [8,0,8])]
theorem orKeyb0_seen : ∀ x ∈ orKeyb0, LineOK Try.prog 100 x.1 x.2 := ok_of orKeya_ok (show Seen orKeya_sp 100 orKeyb0 from by unfold Seen; kernel_rfl)
def orKeyb : List Line := orKeyb0
theorem orKeyb_seen : ∀ x ∈ orKeyb, LineOK Try.prog 100 x.1 x.2 := orKeyb0_seen
noncomputable def orKeyb_sp : Abs.Spec := lay orKeya_sp 100 orKeyb
theorem orKeyb_ok : Ok orKeyb_sp := ok_lay orKeya_ok orKeyb_seen
end Go.Proofs.Ytmmgdgmjkhcfaaa
