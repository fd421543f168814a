/- The law CountPairs: its cases, by a run of each. -/
import Derived.Test.YtmmgdgmjkhcfaaaPrB
import Derived.Test.YtmmgdgmjkhcfaaaLst
set_option linter.all false
namespace Go.Proofs.Ytmmgdgmjkhcfaaa
open Go Go.Abs
theorem prTSmall8_1 : allK (((prt 8).drop 5).take 5) (fun p => Abs.topC Try.prog okN (run prRCls_sp) 200 4 [L p]) = RC.skip := by kernel_rfl
theorem prTSmall8_4 : allK (((((prt 8).drop 5).drop 5).drop 5).drop 5) (fun p => Abs.topC Try.prog okN (run prRCls_sp) 200 4 [L p]) = RC.skip := by kernel_rfl
theorem prTSmall6_0 : allK ((prt 6).take 5) (fun p => Abs.topC Try.prog okN (run prRCls_sp) 200 4 [L p]) = RC.skip := by kernel_rfl
theorem prTSmall6_1 : allK (((prt 6).drop 5).take 5) (fun p => Abs.topC Try.prog okN (run prRCls_sp) 200 4 [L p]) = RC.skip := by kernel_rfl
theorem prTSmall4 : allK (prt 4) (fun p => Abs.topC Try.prog okN (run prRCls_sp) 200 4 [L p]) = RC.skip := by kernel_rfl
end Go.Proofs.Ytmmgdgmjkhcfaaa
