/- Of the law: texts of its proof, joined (part 48). -/
import Derived.Test.YtkedcelpadiakaaGreatQtp47
set_option linter.all false
namespace Go.Proofs.YtkedcelpadiakaaGreat
open Go Go.Abs Go.Num Go.RowKit
noncomputable def tqCl_sp : Abs.Spec := lay noSpec 14 clsL
theorem tqCl_ok : Ok tqCl_sp := ok_lay (noSpec_good _) clsL_all
def cntL : List Line := [([], trueR)]
theorem cnt_all : ∀ x ∈ cntL, LineOK Tryz.prog 27 x.1 x.2 := ok_of tqCl_ok (show Seen tqCl_sp 27 cntL from by unfold Seen; kernel_rfl)
noncomputable def tqCn_sp : Abs.Spec := lay tqCl_sp 27 cntL
theorem tqCn_ok : Ok tqCn_sp := ok_lay tqCl_ok cnt_all
end Go.Proofs.YtkedcelpadiakaaGreat
