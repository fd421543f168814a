/- The law CountPairs, over all lists. -/
import Derived.Test.YtmmgdgmjkhcfaaaPrC
import Derived.Test.YtmmgdgmjkhcfaaaPrCa
import Derived.Test.YtmmgdgmjkhcfaaaPrCb
import Derived.Test.YtmmgdgmjkhcfaaaPrCc
set_option linter.all false
namespace Go.Proofs.Ytmmgdgmjkhcfaaa
open Go Go.Abs Go.RowKit
theorem prTSmall5 : allK (prt 5) (fun p => Abs.topC Try.prog okN (run prRCls_sp) 200 4 [L p]) = RC.skip := (all_split 5 prTSmall5_0 prTSmall5_1)
theorem prTSmall6 : allK (prt 6) (fun p => Abs.topC Try.prog okN (run prRCls_sp) 200 4 [L p]) = RC.skip := (all_split 5 prTSmall6_0 (all_split 5 prTSmall6_1 prTSmall6_2))
theorem prTSmall7 : allK (prt 7) (fun p => Abs.topC Try.prog okN (run prRCls_sp) 200 4 [L p]) = RC.skip := (all_split 5 prTSmall7_0 (all_split 5 prTSmall7_1 prTSmall7_2))
theorem prTSmall8 : allK (prt 8) (fun p => Abs.topC Try.prog okN (run prRCls_sp) 200 4 [L p]) = RC.skip := (all_split 5 prTSmall8_0 (all_split 5 prTSmall8_1 (all_split 5 prTSmall8_2 (all_split 5 prTSmall8_3 prTSmall8_4))))
theorem CountPairs_walk (a0 : Option Addr) (len0 cap0 : Nat) (z0 : List Int) (w : World) (w0 : Row .i64 w a0 len0 cap0 z0) :
    Calls Try.prog 4 #[.slice a0 len0 cap0] w fun e w' => e = .returned (.bool true) ∧ Below w.heap.size w w' := by
  refine one_list prAw_ok prRCls_ok 8 (by omega) prTBig prTNil prTLost ?_ prTLarge ?_ w0
  · intro t e he
    rcases he with rfl | rfl | rfl
    · exact prTBad2 t
    · exact prTBad8 t
    · exact prTBad9 t
  · intro n h0 h1
    have h : n = 1 ∨ n = 2 ∨ n = 3 ∨ n = 4 ∨ n = 5 ∨ n = 6 ∨ n = 7 ∨ n = 8 := by omega
    rcases h with rfl | rfl | rfl | rfl | rfl | rfl | rfl | rfl
    · exact prTSmall1
    · exact prTSmall2
    · exact prTSmall3
    · exact prTSmall4
    · exact prTSmall5
    · exact prTSmall6
    · exact prTSmall7
    · exact prTSmall8
end Go.Proofs.Ytmmgdgmjkhcfaaa
