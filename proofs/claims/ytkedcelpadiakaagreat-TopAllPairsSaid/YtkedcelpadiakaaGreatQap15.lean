/- Of the law: texts of its proof, joined (part 15). -/
import Derived.Test.YtkedcelpadiakaaGreatQap14
set_option linter.all false
namespace Go.Proofs.YtkedcelpadiakaaGreat
open Go Go.Abs Go.Num Go.RowKit
def cS3 : List Key2 := [([0, 2, 1], [1, 0, 2]), ([0, 2, 1], [1, 2, 0]), ([1, 2, 0], [0, 2, 1])]
theorem cls3 : LineOK Tryz.prog 14 [.li (ints [3])] (clsS cS3) := cls_of (noSpec_good _) cP3 (by kernel_rfl) (by kernel_rfl) (by kernel_rfl) (by kernel_rfl) (by kernel_rfl)
def cls3L : List Line := [([.li (ints [3])], clsS cS3)]
theorem cls3_all : ∀ x ∈ cls3L, LineOK Tryz.prog 14 x.1 x.2 := fun x hx => by rw [List.mem_singleton.1 hx]; exact cls3
noncomputable def apCl_sp : Abs.Spec := lay apPairs_sp 14 cls3L
theorem apCl_ok : Ok apCl_sp := ok_lay apPairs_ok cls3_all
def cntL : List Line := [([], trueR)]
theorem cnt_all : ∀ x ∈ cntL, LineOK Tryz.prog 27 x.1 x.2 := ok_of apCl_ok (show Seen apCl_sp 27 cntL from by unfold Seen; kernel_rfl)
noncomputable def apCn_sp : Abs.Spec := lay apCl_sp 27 cntL
theorem apCn_ok : Ok apCn_sp := ok_lay apCl_ok cnt_all
theorem apTop0 : isTrue (topK apCn_sp 5 [.int .i64 (.ofNat 0)]) = true := by kernel_rfl
theorem apTop1 : isTrue (topK apCn_sp 5 [.int .i64 (.ofNat 1)]) = true := by kernel_rfl
theorem apTop2 : isTrue (topK apCn_sp 5 [.int .i64 (.ofNat 2)]) = true := by kernel_rfl
theorem apTop3 : isTrue (topK apCn_sp 5 [.int .i64 (.ofNat 3)]) = true := by kernel_rfl
theorem apTop4 : isTrue (topK apCn_sp 5 [.int .i64 (.ofNat 4)]) = true := by kernel_rfl
theorem apTop5 : isTrue (topK apCn_sp 5 [.int .i64 (.ofNat 5)]) = true := by kernel_rfl
theorem apTop6 : isTrue (topK apCn_sp 5 [.int .i64 (.ofNat 6)]) = true := by kernel_rfl
theorem apTop7 : isTrue (topK apCn_sp 5 [.int .i64 (.ofNat 7)]) = true := by kernel_rfl
theorem apTopNeg (m : Nat) : isTrue (topK apCn_sp 5 [.int .i64 (.negSucc m)]) = true := by kernel_rfl
theorem apTopBig (m : Nat) : isTrue (topK apCn_sp 5 [.int .i64 (.ofNat (m + 8))]) = true := by kernel_rfl
theorem TopAllPairs_walk (a0 : Int) (w0 : (Lit.int .i64 a0).wf = true) (w : World) :
    Calls Tryz.prog 5 #[.int .i64 a0] w fun e w' => e = .returned (.bool true) ∧ Below w.heap.size w w' := by
  have hp : ∀ z : Int, ∀ v ∈ [Value.int .i64 z], plain v = true := by intro z v hv; simp at hv; subst hv; rfl
  cases a0 with
  | negSucc m => exact top_ints (args := [.int .i64 (.negSucc m)]) apCn_ok (apTopNeg m) (hp _) w
  | ofNat n =>
    by_cases h : n < 8
    · have h : n = 0 ∨ n = 1 ∨ n = 2 ∨ n = 3 ∨ n = 4 ∨ n = 5 ∨ n = 6 ∨ n = 7 := by omega
      rcases h with rfl | rfl | rfl | rfl | rfl | rfl | rfl | rfl
      · exact top_ints (args := [.int .i64 (.ofNat 0)]) apCn_ok apTop0 (hp _) w
      · exact top_ints (args := [.int .i64 (.ofNat 1)]) apCn_ok apTop1 (hp _) w
      · exact top_ints (args := [.int .i64 (.ofNat 2)]) apCn_ok apTop2 (hp _) w
      · exact top_ints (args := [.int .i64 (.ofNat 3)]) apCn_ok apTop3 (hp _) w
      · exact top_ints (args := [.int .i64 (.ofNat 4)]) apCn_ok apTop4 (hp _) w
      · exact top_ints (args := [.int .i64 (.ofNat 5)]) apCn_ok apTop5 (hp _) w
      · exact top_ints (args := [.int .i64 (.ofNat 6)]) apCn_ok apTop6 (hp _) w
      · exact top_ints (args := [.int .i64 (.ofNat 7)]) apCn_ok apTop7 (hp _) w
    · obtain ⟨m, rfl⟩ : ∃ m, n = m + 8 := ⟨n - 8, by omega⟩
      exact top_ints (args := [.int .i64 (.ofNat (m + 8))]) apCn_ok (apTopBig m) (hp _) w
end Go.Proofs.YtkedcelpadiakaaGreat
