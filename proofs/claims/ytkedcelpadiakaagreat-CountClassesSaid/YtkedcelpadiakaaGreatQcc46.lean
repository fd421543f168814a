/- Of the law: texts of its proof, joined (part 46). -/
import Derived.Test.YtkedcelpadiakaaGreatQcc45
import Derived.Test.YtkedcelpadiakaaGreatQcc6
set_option linter.all false
namespace Go.Proofs.YtkedcelpadiakaaGreat
open Go Go.Abs
theorem ccN : Abs.topC Tryz.prog okN (run cc_sp) 200 3 [.imm nilV] = RC.skip := by kernel_rfl
theorem ccLo : Abs.topC Tryz.prog okN (run cc_sp) 200 3 [.imm lostSlice] = RC.skip := by kernel_rfl
theorem ccW1 : Abs.topC Tryz.prog okN (run cc_sp) 200 3 [.li (ints [1])] = RC.skip := by kernel_rfl
theorem ccW2 : Abs.topC Tryz.prog okN (run cc_sp) 200 3 [.li (ints [2])] = RC.skip := by kernel_rfl
theorem ccW11 : Abs.topC Tryz.prog okN (run cc_sp) 200 3 [.li (ints [1, 1])] = RC.skip := by kernel_rfl
theorem ccW3 : Abs.topC Tryz.prog okN (run cc_sp) 200 3 [.li (ints [3])] = RC.skip := by kernel_rfl
theorem ccW21 : Abs.topC Tryz.prog okN (run cc_sp) 200 3 [.li (ints [2, 1])] = RC.skip := by kernel_rfl
theorem ccW111 : Abs.topC Tryz.prog okN (run cc_sp) 200 3 [.li (ints [1, 1, 1])] = RC.skip := by kernel_rfl
theorem ccW4 : Abs.topC Tryz.prog okN (run cc_sp) 200 3 [.li (ints [4])] = RC.skip := by kernel_rfl
end Go.Proofs.YtkedcelpadiakaaGreat
