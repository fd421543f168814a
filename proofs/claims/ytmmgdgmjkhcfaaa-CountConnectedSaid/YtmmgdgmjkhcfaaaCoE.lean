/- The law CountConnected, over all lists. -/
import Derived.Test.YtmmgdgmjkhcfaaaCoD
import Derived.Test.YtmmgdgmjkhcfaaaCoDa
import Derived.Test.YtmmgdgmjkhcfaaaCoDb
import Derived.Test.YtmmgdgmjkhcfaaaCoDc
set_option linter.all false
namespace Go.Proofs.Ytmmgdgmjkhcfaaa
open Go Go.Abs Go.RowKit
theorem coTSmall5 : allK (prt 5) (fun p => Abs.topC Try.prog okN (run coRWt_sp) 200 5 [L p]) = RC.skip := (all_split 5 coTSmall5_0 coTSmall5_1)
theorem coTSmall6 : allK (prt 6) (fun p => Abs.topC Try.prog okN (run coRWt_sp) 200 5 [L p]) = RC.skip := (all_split 5 coTSmall6_0 (all_split 5 coTSmall6_1 coTSmall6_2))
theorem coTSmall7 : allK (prt 7) (fun p => Abs.topC Try.prog okN (run coRWt_sp) 200 5 [L p]) = RC.skip := (all_split 5 coTSmall7_0 (all_split 5 coTSmall7_1 coTSmall7_2))
theorem CountConnected_walk (a0 : Option Addr) (len0 cap0 : Nat) (z0 : List Int) (w : World) (w0 : Row .i64 w a0 len0 cap0 z0) :
    Calls Try.prog 5 #[.slice a0 len0 cap0] w fun e w' => e = .returned (.bool true) ∧ Below w.heap.size w w' := by
  refine one_list prAw_ok coRWt_ok 7 (by omega) coTBig coTNil coTLost ?_ coTLarge ?_ w0
  · intro t e he
    rcases he with rfl | rfl | rfl
    · exact coTBad2 t
    · exact coTBad8 t
    · exact coTBad9 t
  · intro n h0 h1
    have h : n = 1 ∨ n = 2 ∨ n = 3 ∨ n = 4 ∨ n = 5 ∨ n = 6 ∨ n = 7 := by omega
    rcases h with rfl | rfl | rfl | rfl | rfl | rfl | rfl
    · exact coTSmall1
    · exact coTSmall2
    · exact coTSmall3
    · exact coTSmall4
    · exact coTSmall5
    · exact coTSmall6
    · exact coTSmall7
end Go.Proofs.Ytmmgdgmjkhcfaaa
