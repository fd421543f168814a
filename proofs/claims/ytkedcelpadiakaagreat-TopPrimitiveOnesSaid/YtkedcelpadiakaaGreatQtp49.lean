/- Of the law: texts of its proof, joined (part 49). -/
import Derived.Test.YtkedcelpadiakaaGreatQtp48
set_option linter.all false
namespace Go.Proofs.YtkedcelpadiakaaGreat
open Go Go.Abs Go.Num Go.RowKit
theorem tpTop0 : isTrue (topK tqCn_sp 6 [.int .i64 (.ofNat 0)]) = true := by kernel_rfl
theorem tpTop1 : isTrue (topK tqCn_sp 6 [.int .i64 (.ofNat 1)]) = true := by kernel_rfl
theorem tpTop2 : isTrue (topK tqCn_sp 6 [.int .i64 (.ofNat 2)]) = true := by kernel_rfl
theorem tpTop3 : isTrue (topK tqCn_sp 6 [.int .i64 (.ofNat 3)]) = true := by kernel_rfl
theorem tpTop4 : isTrue (topK tqCn_sp 6 [.int .i64 (.ofNat 4)]) = true := by kernel_rfl
theorem tpTop5 : isTrue (topK tqCn_sp 6 [.int .i64 (.ofNat 5)]) = true := by kernel_rfl
theorem tpTopNeg (m : Nat) : isTrue (topK tqCn_sp 6 [.int .i64 (.negSucc m)]) = true := by kernel_rfl
theorem tpTopBig (m : Nat) : isTrue (topK tqCn_sp 6 [.int .i64 (.ofNat (m + 6))]) = true := by kernel_rfl
theorem TopPrimitiveOnes_walk (a0 : Int) (w0 : (Lit.int .i64 a0).wf = true) (w : World) :
    Calls Tryz.prog 6 #[.int .i64 a0] w fun e w' => e = .returned (.bool true) ∧ Below w.heap.size w w' := by
  have hp : ∀ z : Int, ∀ v ∈ [Value.int .i64 z], plain v = true := by intro z v hv; simp at hv; subst hv; rfl
  cases a0 with
  | negSucc m => exact top_ints (args := [.int .i64 (.negSucc m)]) tqCn_ok (tpTopNeg m) (hp _) w
  | ofNat n =>
    by_cases h : n < 6
    · have h : n = 0 ∨ n = 1 ∨ n = 2 ∨ n = 3 ∨ n = 4 ∨ n = 5 := by omega
      rcases h with rfl | rfl | rfl | rfl | rfl | rfl
      · exact top_ints (args := [.int .i64 (.ofNat 0)]) tqCn_ok tpTop0 (hp _) w
      · exact top_ints (args := [.int .i64 (.ofNat 1)]) tqCn_ok tpTop1 (hp _) w
      · exact top_ints (args := [.int .i64 (.ofNat 2)]) tqCn_ok tpTop2 (hp _) w
      · exact top_ints (args := [.int .i64 (.ofNat 3)]) tqCn_ok tpTop3 (hp _) w
      · exact top_ints (args := [.int .i64 (.ofNat 4)]) tqCn_ok tpTop4 (hp _) w
      · exact top_ints (args := [.int .i64 (.ofNat 5)]) tqCn_ok tpTop5 (hp _) w
    · obtain ⟨m, rfl⟩ : ∃ m, n = m + 6 := ⟨n - 6, by omega⟩
      exact top_ints (args := [.int .i64 (.ofNat (m + 6))]) tqCn_ok (tpTopBig m) (hp _) w
end Go.Proofs.YtkedcelpadiakaaGreat
