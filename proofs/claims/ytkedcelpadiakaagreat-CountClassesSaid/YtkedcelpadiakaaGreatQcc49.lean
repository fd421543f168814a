/- Of the law: texts of its proof, joined (part 49). -/
import Derived.Test.YtkedcelpadiakaaGreatQcc45
import Derived.Test.YtkedcelpadiakaaGreatQcc6
set_option linter.all false
namespace Go.Proofs.YtkedcelpadiakaaGreat
open Go Go.Abs
theorem ccW211 : Abs.topC Tryz.prog okN (run cc_sp) 200 3 [.li (ints [2, 1, 1])] = RC.skip := by kernel_rfl
theorem ccW1111 : Abs.topC Tryz.prog okN (run cc_sp) 200 3 [.li (ints [1, 1, 1, 1])] = RC.skip := by kernel_rfl
end Go.Proofs.YtkedcelpadiakaaGreat
