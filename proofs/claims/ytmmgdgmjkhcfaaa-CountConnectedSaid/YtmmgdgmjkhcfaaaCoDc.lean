/- The law CountConnected: its cases, by a run of each. -/
import Derived.Test.YtmmgdgmjkhcfaaaCoC
import Derived.Test.YtmmgdgmjkhcfaaaLst
set_option linter.all false
namespace Go.Proofs.Ytmmgdgmjkhcfaaa
open Go Go.Abs
theorem coTSmall7_2 : allK (((prt 7).drop 5).drop 5) (fun p => Abs.topC Try.prog okN (run coRWt_sp) 200 5 [L p]) = RC.skip := by kernel_rfl
theorem coTSmall6_2 : allK (((prt 6).drop 5).drop 5) (fun p => Abs.topC Try.prog okN (run coRWt_sp) 200 5 [L p]) = RC.skip := by kernel_rfl
theorem coTSmall4 : allK (prt 4) (fun p => Abs.topC Try.prog okN (run coRWt_sp) 200 5 [L p]) = RC.skip := by kernel_rfl
theorem coTSmall3 : allK (prt 3) (fun p => Abs.topC Try.prog okN (run coRWt_sp) 200 5 [L p]) = RC.skip := by kernel_rfl
end Go.Proofs.Ytmmgdgmjkhcfaaa
