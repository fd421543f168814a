/- Of the law: texts of its proof, joined (part 12). -/
import Derived.Test.YtkedcelpadiakaaGreatQap11
set_option linter.all false
namespace Go.Proofs.YtkedcelpadiakaaGreat
open Go Go.Abs
noncomputable def bC : CallF := noC
theorem bC_ok : CallOK Tryz.prog bC := noC_ok
theorem bC_grow : CallGrow bC := noC_grow
end Go.Proofs.YtkedcelpadiakaaGreat
