/- Of the law: texts of its proof, joined (part 48). -/
import Derived.Test.YtkedcelpadiakaaGreatQcc45
import Derived.Test.YtkedcelpadiakaaGreatQcc6
set_option linter.all false
namespace Go.Proofs.YtkedcelpadiakaaGreat
open Go Go.Abs
theorem ccW22 : Abs.topC Tryz.prog okN (run cc_sp) 200 3 [.li (ints [2, 2])] = RC.skip := by kernel_rfl
end Go.Proofs.YtkedcelpadiakaaGreat
