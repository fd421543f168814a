/- Of the law: texts of its proof, joined (part 50). -/
import Derived.Test.YtkedcelpadiakaaGreatQcc44
import Derived.Test.YtkedcelpadiakaaGreatQcc46
import Derived.Test.YtkedcelpadiakaaGreatQcc47
import Derived.Test.YtkedcelpadiakaaGreatQcc48
import Derived.Test.YtkedcelpadiakaaGreatQcc49
set_option linter.all false
namespace Go.Proofs.YtkedcelpadiakaaGreat
open Go Go.Abs Go.Num
set_option maxRecDepth 10000
def ccAlts : List (List Int) := [[], [1], [2], [1, 1], [3], [2, 1], [1, 1, 1], [4], [3, 1], [2, 2], [2, 1, 1], [1, 1, 1, 1]]
theorem cc_key : ((List.range 5).all fun N => (ptn 20 20 N).all fun c => ccAlts.contains c) = true := by kernel_rfl
theorem cc_small {c : List Int} (h : chk c = 0) (hs : c.sum ≤ 4) : c = [] ∨ c = [1] ∨ c = [2] ∨ c = [1, 1] ∨ c = [3] ∨ c = [2, 1] ∨ c = [1, 1, 1] ∨ c = [4] ∨ c = [3, 1] ∨ c = [2, 2] ∨ c = [2, 1, 1] ∨ c = [1, 1, 1, 1] := by
  obtain ⟨N, hN, _, hm⟩ := part_ptn (chk_part h)
  have hN5 : N < 5 := by omega
  have := List.all_eq_true.1 (List.all_eq_true.1 cc_key N (List.mem_range.2 hN5)) c hm
  have := List.contains_iff_mem.1 this
  simpa only [ccAlts, List.mem_cons, List.not_mem_nil, or_false] using this
open Go.RowKit in
theorem CountClasses_walk (a0 : Option Addr) (len0 cap0 : Nat) (z0 : List Int) (w : World) (w0 : Row .i64 w a0 len0 cap0 z0) :
    Calls Tryz.prog 3 #[.slice a0 len0 cap0] w fun e w' => e = .returned (.bool true) ∧ Below w.heap.size w w' := by
  rcases row_at w0 with h | h | ⟨l, hl, h⟩
  · exact cc_ok.topC hF hmix ccN (.cons h .nil)
  · exact cc_ok.topC hF hmix ccLo (.cons h .nil)
  · by_cases h1 : chk l = 0 ∧ l.sum ≤ 4
    · rcases cc_small h1.1 h1.2 with rfl | rfl | rfl | rfl | rfl | rfl | rfl | rfl | rfl | rfl | rfl | rfl
      · simp at hl
      · exact cc_ok.topC hF hmix ccW1 (.cons h .nil)
      · exact cc_ok.topC hF hmix ccW2 (.cons h .nil)
      · exact cc_ok.topC hF hmix ccW11 (.cons h .nil)
      · exact cc_ok.topC hF hmix ccW3 (.cons h .nil)
      · exact cc_ok.topC hF hmix ccW21 (.cons h .nil)
      · exact cc_ok.topC hF hmix ccW111 (.cons h .nil)
      · exact cc_ok.topC hF hmix ccW4 (.cons h .nil)
      · exact cc_ok.topC hF hmix ccW31 (.cons h .nil)
      · exact cc_ok.topC hF hmix ccW22 (.cons h .nil)
      · exact cc_ok.topC hF hmix ccW211 (.cons h .nil)
      · exact cc_ok.topC hF hmix ccW1111 (.cons h .nil)
    · obtain ⟨H', e⟩ := ccl_law (H := mkHeap 0 [.li (ints l)]) (v := sliceA 0 0 l.length 1) (.inr (.inr ⟨0, 0, 0, false, ints l, by rw [ints_len], rfl, by simp [ints_len], by simp⟩)) h1
      refine law_args hmix (callA_ok 200000000) (callA_grow 200000000) (n := 200000000) («ays» := [.li (ints l)]) (H' := H') ?_ (.cons h .nil)
      rw [← e]
      simp only [mkVals, ints_len]
end Go.Proofs.YtkedcelpadiakaaGreat
