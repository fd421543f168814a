/- Of the law: texts of its proof, joined (part 44). -/
import Derived.Test.YtkedcelpadiakaaGreatQtp43
set_option linter.all false
namespace Go.Proofs.YtkedcelpadiakaaGreat
open Go Go.Abs
def kin4 : List Line := kin4_0
theorem kin4_all : ∀ x ∈ kin4, LineOK Tryz.prog 48 x.1 x.2 := kin4_0_all
def lab4 : List Line := (lab4_0 ++ lab4_1)
theorem lab4_all : ∀ x ∈ lab4, LineOK Tryz.prog 21 x.1 x.2 := (lines_append lab4_0_all lab4_1_all)
noncomputable def spC4 : Abs.Spec := lay (lay (lay (lay (lay noSpec 46 lea4) 48 kin4) 21 lab4) 47 eqv4) 49 key4
theorem spC4_ok : Ok spC4 := ok_lay (ok_lay (ok_lay (ok_lay (ok_lay (noSpec_good _) lea4_all) kin4_all) lab4_all) eqv4_all) key4_all
end Go.Proofs.YtkedcelpadiakaaGreat
