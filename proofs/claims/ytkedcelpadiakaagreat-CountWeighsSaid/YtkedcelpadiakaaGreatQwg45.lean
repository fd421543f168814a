/- Of the law: texts of its proof, joined (part 45). -/
import Derived.Test.YtkedcelpadiakaaGreatQwg44
import Derived.Test.YtkedcelpadiakaaGreatQwg6
set_option linter.all false
namespace Go.Proofs.YtkedcelpadiakaaGreat
open Go Go.Abs Go.Num
theorem wg5 : Abs.topC Tryz.prog okN (run wg_sp) 200 4 [.li (ints [5])] = RC.skip := by kernel_rfl
theorem wg41 : Abs.topC Tryz.prog okN (run wg_sp) 200 4 [.li (ints [4, 1])] = RC.skip := by kernel_rfl
theorem wg32 : Abs.topC Tryz.prog okN (run wg_sp) 200 4 [.li (ints [3, 2])] = RC.skip := by kernel_rfl
theorem wg311 : Abs.topC Tryz.prog okN (run wg_sp) 200 4 [.li (ints [3, 1, 1])] = RC.skip := by kernel_rfl
theorem wg221 : Abs.topC Tryz.prog okN (run wg_sp) 200 4 [.li (ints [2, 2, 1])] = RC.skip := by kernel_rfl
theorem wg2111 : Abs.topC Tryz.prog okN (run wg_sp) 200 4 [.li (ints [2, 1, 1, 1])] = RC.skip := by kernel_rfl
theorem wg11111 : Abs.topC Tryz.prog okN (run wg_sp) 200 4 [.li (ints [1, 1, 1, 1, 1])] = RC.skip := by kernel_rfl
end Go.Proofs.YtkedcelpadiakaaGreat
