/- The law CountConnected: its cases, by a run of each. -/
import Derived.Test.YtmmgdgmjkhcfaaaCoC
import Derived.Test.YtmmgdgmjkhcfaaaLst
set_option linter.all false
namespace Go.Proofs.Ytmmgdgmjkhcfaaa
open Go Go.Abs
theorem coTBig (m : Nat) : Abs.topB Try.prog okN (run prAw_sp) 200 5 [.big (m + 41)] = RC.skip := by kernel_rfl
theorem coTNil : Abs.topC Try.prog okN (run prAw_sp) 200 5 [.imm nilV] = RC.skip := by kernel_rfl
theorem coTLost : Abs.topC Try.prog okN (run prAw_sp) 200 5 [.imm lostSlice] = RC.skip := by kernel_rfl
theorem coTBad2 (t : FT) : allK (List.range 41) (fun n => Abs.topO Try.prog okN (runO (osBad 0 n 2) prAw_sp) 200 5 [.op n t]) = RC.skip := by kernel_rfl
theorem coTBad8 (t : FT) : allK (List.range 41) (fun n => Abs.topO Try.prog okN (runO (osBad 0 n 8) prAw_sp) 200 5 [.op n t]) = RC.skip := by kernel_rfl
theorem coTBad9 (t : FT) : allK (List.range 41) (fun n => Abs.topO Try.prog okN (runO (osBad 0 n 9) prAw_sp) 200 5 [.op n t]) = RC.skip := by kernel_rfl
theorem coTLarge (t : FT) : allK (List.range 21) (fun n => allK (List.range (20 - 7)) fun s => Abs.topO Try.prog okN (runO (osGood 0 n (Int.ofNat (s + (7 + 1)))) prAw_sp) 200 5 [.op n t]) = RC.skip := by kernel_rfl
end Go.Proofs.Ytmmgdgmjkhcfaaa
