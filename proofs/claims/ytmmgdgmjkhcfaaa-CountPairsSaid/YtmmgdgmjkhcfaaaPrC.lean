/- The law CountPairs: its cases, by a run of each. -/
import Derived.Test.YtmmgdgmjkhcfaaaPrB
import Derived.Test.YtmmgdgmjkhcfaaaLst
set_option linter.all false
namespace Go.Proofs.Ytmmgdgmjkhcfaaa
open Go Go.Abs
theorem prTBig (m : Nat) : Abs.topB Try.prog okN (run prAw_sp) 200 4 [.big (m + 41)] = RC.skip := by kernel_rfl
theorem prTNil : Abs.topC Try.prog okN (run prAw_sp) 200 4 [.imm nilV] = RC.skip := by kernel_rfl
theorem prTLost : Abs.topC Try.prog okN (run prAw_sp) 200 4 [.imm lostSlice] = RC.skip := by kernel_rfl
theorem prTBad2 (t : FT) : allK (List.range 41) (fun n => Abs.topO Try.prog okN (runO (osBad 0 n 2) prAw_sp) 200 4 [.op n t]) = RC.skip := by kernel_rfl
theorem prTBad8 (t : FT) : allK (List.range 41) (fun n => Abs.topO Try.prog okN (runO (osBad 0 n 8) prAw_sp) 200 4 [.op n t]) = RC.skip := by kernel_rfl
theorem prTBad9 (t : FT) : allK (List.range 41) (fun n => Abs.topO Try.prog okN (runO (osBad 0 n 9) prAw_sp) 200 4 [.op n t]) = RC.skip := by kernel_rfl
theorem prTLarge (t : FT) : allK (List.range 21) (fun n => allK (List.range (20 - 8)) fun s => Abs.topO Try.prog okN (runO (osGood 0 n (Int.ofNat (s + (8 + 1)))) prAw_sp) 200 4 [.op n t]) = RC.skip := by kernel_rfl
end Go.Proofs.Ytmmgdgmjkhcfaaa
