/- The law CountConnected: its cases, by a run of each. -/
import Derived.Test.YtmmgdgmjkhcfaaaCoC
import Derived.Test.YtmmgdgmjkhcfaaaLst
set_option linter.all false
namespace Go.Proofs.Ytmmgdgmjkhcfaaa
open Go Go.Abs
theorem coTSmall7_1 : allK (((prt 7).drop 5).take 5) (fun p => Abs.topC Try.prog okN (run coRWt_sp) 200 5 [L p]) = RC.skip := by kernel_rfl
theorem coTSmall6_1 : allK (((prt 6).drop 5).take 5) (fun p => Abs.topC Try.prog okN (run coRWt_sp) 200 5 [L p]) = RC.skip := by kernel_rfl
theorem coTSmall5_1 : allK ((prt 5).drop 5) (fun p => Abs.topC Try.prog okN (run coRWt_sp) 200 5 [L p]) = RC.skip := by kernel_rfl
theorem coTSmall1 : allK (prt 1) (fun p => Abs.topC Try.prog okN (run coRWt_sp) 200 5 [L p]) = RC.skip := by kernel_rfl
end Go.Proofs.Ytmmgdgmjkhcfaaa
