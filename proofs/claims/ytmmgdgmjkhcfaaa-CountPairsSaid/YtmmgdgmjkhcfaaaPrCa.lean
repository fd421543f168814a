/- The law CountPairs: its cases, by a run of each. -/
import Derived.Test.YtmmgdgmjkhcfaaaPrB
import Derived.Test.YtmmgdgmjkhcfaaaLst
set_option linter.all false
namespace Go.Proofs.Ytmmgdgmjkhcfaaa
open Go Go.Abs
theorem prTSmall8_0 : allK ((prt 8).take 5) (fun p => Abs.topC Try.prog okN (run prRCls_sp) 200 4 [L p]) = RC.skip := by kernel_rfl
theorem prTSmall8_3 : allK (((((prt 8).drop 5).drop 5).drop 5).take 5) (fun p => Abs.topC Try.prog okN (run prRCls_sp) 200 4 [L p]) = RC.skip := by kernel_rfl
theorem prTSmall7_2 : allK (((prt 7).drop 5).drop 5) (fun p => Abs.topC Try.prog okN (run prRCls_sp) 200 4 [L p]) = RC.skip := by kernel_rfl
theorem prTSmall5_0 : allK ((prt 5).take 5) (fun p => Abs.topC Try.prog okN (run prRCls_sp) 200 4 [L p]) = RC.skip := by kernel_rfl
theorem prTSmall5_1 : allK ((prt 5).drop 5) (fun p => Abs.topC Try.prog okN (run prRCls_sp) 200 4 [L p]) = RC.skip := by kernel_rfl
end Go.Proofs.Ytmmgdgmjkhcfaaa
