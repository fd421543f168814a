/- The law CountConnected: its cases, by a run of each. -/
import Derived.Test.YtmmgdgmjkhcfaaaCoC
import Derived.Test.YtmmgdgmjkhcfaaaLst
set_option linter.all false
namespace Go.Proofs.Ytmmgdgmjkhcfaaa
open Go Go.Abs
theorem coTSmall7_0 : allK ((prt 7).take 5) (fun p => Abs.topC Try.prog okN (run coRWt_sp) 200 5 [L p]) = RC.skip := by kernel_rfl
theorem coTSmall6_0 : allK ((prt 6).take 5) (fun p => Abs.topC Try.prog okN (run coRWt_sp) 200 5 [L p]) = RC.skip := by kernel_rfl
theorem coTSmall5_0 : allK ((prt 5).take 5) (fun p => Abs.topC Try.prog okN (run coRWt_sp) 200 5 [L p]) = RC.skip := by kernel_rfl
theorem coTSmall2 : allK (prt 2) (fun p => Abs.topC Try.prog okN (run coRWt_sp) 200 5 [L p]) = RC.skip := by kernel_rfl
end Go.Proofs.Ytmmgdgmjkhcfaaa
