/- The law of the tables, over all numbers. -/
import Derived.Test.YtmmgdgmjkhcfaaaTaC
namespace Go.Proofs.Ytmmgdgmjkhcfaaa
open Go Go.Abs Go.RowKit
theorem CountTables_walk (a0 : Int) (w0 : (Lit.int .i64 a0).wf = true) (w : World) :
    Calls Try.prog 9 #[.int .i64 a0] w fun e w' => e = .returned (.bool true) ∧ Below w.heap.size w w' := by
  have hp : ∀ z : Int, ∀ v ∈ [Value.int .i64 z], plain v = true := by intro z v hv; simp at hv; subst hv; rfl
  cases a0 with
  | negSucc m => exact top_ints (args := [.int .i64 (.negSucc m)]) taAw_ok (taTopNeg m) (hp _) w
  | ofNat n =>
    by_cases h : n < 11
    · have h : n = 0 ∨ n = 1 ∨ n = 2 ∨ n = 3 ∨ n = 4 ∨ n = 5 ∨ n = 6 ∨ n = 7 ∨ n = 8 ∨ n = 9 ∨ n = 10 := by omega
      rcases h with rfl | rfl | rfl | rfl | rfl | rfl | rfl | rfl | rfl | rfl | rfl
      · exact top_ints (args := [.int .i64 (.ofNat 0)]) taAw_ok taTop0 (hp _) w
      · exact top_ints (args := [.int .i64 (.ofNat 1)]) taAw_ok taTop1 (hp _) w
      · exact top_ints (args := [.int .i64 (.ofNat 2)]) taAw_ok taTop2 (hp _) w
      · exact top_ints (args := [.int .i64 (.ofNat 3)]) taAw_ok taTop3 (hp _) w
      · exact top_ints (args := [.int .i64 (.ofNat 4)]) taAw_ok taTop4 (hp _) w
      · exact top_ints (args := [.int .i64 (.ofNat 5)]) taAw_ok taTop5 (hp _) w
      · exact top_ints (args := [.int .i64 (.ofNat 6)]) taAw_ok taTop6 (hp _) w
      · exact top_ints (args := [.int .i64 (.ofNat 7)]) taAw_ok taTop7 (hp _) w
      · exact top_ints (args := [.int .i64 (.ofNat 8)]) taAw_ok taTop8 (hp _) w
      · exact top_ints (args := [.int .i64 (.ofNat 9)]) taAw_ok taTop9 (hp _) w
      · exact top_ints (args := [.int .i64 (.ofNat 10)]) taAw_ok taTop10 (hp _) w
    · obtain ⟨m, rfl⟩ : ∃ m, n = m + 11 := ⟨n - 11, by omega⟩
      exact top_ints (args := [.int .i64 (.ofNat (m + 11))]) taAw_ok (taTopBig m) (hp _) w
end Go.Proofs.Ytmmgdgmjkhcfaaa
