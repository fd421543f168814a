/- The law of the tables, over each number. -/
import Derived.Test.YtmmgdgmjkhcfaaaTaB
namespace Go.Proofs.Ytmmgdgmjkhcfaaa
open Go Go.Abs
def taAw : List Line := [([], trueR)]
theorem taAw_seen : ∀ x ∈ taAw, LineOK Try.prog 15 x.1 x.2 := ok_of taChi7_ok (show Seen taChi7_sp 15 taAw from by unfold Seen; kernel_rfl)
noncomputable def taAw_sp : Abs.Spec := lay taChi7_sp 15 taAw
theorem taAw_ok : Ok taAw_sp := ok_lay taChi7_ok taAw_seen
theorem taTop0 : isTrue (topK taAw_sp 9 [.int .i64 (.ofNat 0)]) = true := by kernel_rfl
theorem taTop1 : isTrue (topK taAw_sp 9 [.int .i64 (.ofNat 1)]) = true := by kernel_rfl
theorem taTop2 : isTrue (topK taAw_sp 9 [.int .i64 (.ofNat 2)]) = true := by kernel_rfl
theorem taTop3 : isTrue (topK taAw_sp 9 [.int .i64 (.ofNat 3)]) = true := by kernel_rfl
theorem taTop4 : isTrue (topK taAw_sp 9 [.int .i64 (.ofNat 4)]) = true := by kernel_rfl
theorem taTop5 : isTrue (topK taAw_sp 9 [.int .i64 (.ofNat 5)]) = true := by kernel_rfl
theorem taTop6 : isTrue (topK taAw_sp 9 [.int .i64 (.ofNat 6)]) = true := by kernel_rfl
theorem taTop7 : isTrue (topK taAw_sp 9 [.int .i64 (.ofNat 7)]) = true := by kernel_rfl
theorem taTop8 : isTrue (topK taAw_sp 9 [.int .i64 (.ofNat 8)]) = true := by kernel_rfl
theorem taTop9 : isTrue (topK taAw_sp 9 [.int .i64 (.ofNat 9)]) = true := by kernel_rfl
theorem taTop10 : isTrue (topK taAw_sp 9 [.int .i64 (.ofNat 10)]) = true := by kernel_rfl
theorem taTopNeg (m : Nat) : isTrue (topK taAw_sp 9 [.int .i64 (.negSucc m)]) = true := by kernel_rfl
theorem taTopBig (m : Nat) : isTrue (topK taAw_sp 9 [.int .i64 (.ofNat (m + 11))]) = true := by kernel_rfl
end Go.Proofs.Ytmmgdgmjkhcfaaa
