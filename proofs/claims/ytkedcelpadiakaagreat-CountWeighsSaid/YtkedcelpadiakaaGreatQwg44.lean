/- Of the law: texts of its proof, joined (part 44). -/
import Derived.Test.YtkedcelpadiakaaGreatQwg38
import Derived.Test.YtkedcelpadiakaaGreatQwg39
import Derived.Test.YtkedcelpadiakaaGreatQwg40
import Derived.Test.YtkedcelpadiakaaGreatQwg41
import Derived.Test.YtkedcelpadiakaaGreatQwg42
import Derived.Test.YtkedcelpadiakaaGreatQwg43
import Derived.Test.YtkedcelpadiakaaGreatQwg6
set_option linter.all false
namespace Go.Proofs.YtkedcelpadiakaaGreat
open Go Go.Abs Go.Num
def wgZr1 : List Line := [([.li (ints [1]), .li (ints [1])], rrt 1 1)]
theorem wgZr1_all : ∀ x ∈ wgZr1, LineOK Tryz.prog 19 x.1 x.2 := ok_of wgR_ok (show Seen wgR_sp 19 wgZr1 from by unfold Seen; kernel_rfl)
def wgZr2 : List Line := [([.li (ints [1]), .li (ints [2])], rrt 1 2)]
theorem wgZr2_all : ∀ x ∈ wgZr2, LineOK Tryz.prog 19 x.1 x.2 := ok_of wgR_ok (show Seen wgR_sp 19 wgZr2 from by unfold Seen; kernel_rfl)
def wgZr3 : List Line := [([.li (ints [1]), .li (ints [3])], rrt 1 3)]
theorem wgZr3_all : ∀ x ∈ wgZr3, LineOK Tryz.prog 19 x.1 x.2 := ok_of wgR_ok (show Seen wgR_sp 19 wgZr3 from by unfold Seen; kernel_rfl)
def wgZr4 : List Line := [([.li (ints [1]), .li (ints [4])], rrt 1 4)]
theorem wgZr4_all : ∀ x ∈ wgZr4, LineOK Tryz.prog 19 x.1 x.2 := ok_of wgR_ok (show Seen wgR_sp 19 wgZr4 from by unfold Seen; kernel_rfl)
def wgZr5 : List Line := [([.li (ints [1]), .li (ints [5])], rrt 1 5)]
theorem wgZr5_all : ∀ x ∈ wgZr5, LineOK Tryz.prog 19 x.1 x.2 := ok_of wgR_ok (show Seen wgR_sp 19 wgZr5 from by unfold Seen; kernel_rfl)
def wgZr0 : List Line := [([ni, .li (ints [1])], (.agg #[sliceA 0 0 0 1, sliceA 1 0 1 1], [[], ints [1]]))]
theorem wgZr0_all : ∀ x ∈ wgZr0, LineOK Tryz.prog 19 x.1 x.2 := ok_of wgR_ok (show Seen wgR_sp 19 wgZr0 from by unfold Seen; kernel_rfl)
def wgZr : List Line := wgZr1 ++ (wgZr2 ++ (wgZr3 ++ (wgZr4 ++ (wgZr5 ++ (wgZr0)))))
theorem wgZr_all : ∀ x ∈ wgZr, LineOK Tryz.prog 19 x.1 x.2 := lines_append wgZr1_all (lines_append wgZr2_all (lines_append wgZr3_all (lines_append wgZr4_all (lines_append wgZr5_all (wgZr0_all)))))
def wgZp1 : List Line := [([.ag [] (ints [1]), .ag (ints [1]) (ints [1])], rrt 1 1)]
theorem wgZp1_all : ∀ x ∈ wgZp1, LineOK Tryz.prog 25 x.1 x.2 := ok_of wgR_ok (show Seen wgR_sp 25 wgZp1 from by unfold Seen; kernel_rfl)
def wgZp2 : List Line := [([.ag [] (ints [1]), .ag (ints [1]) (ints [2])], rrt 1 2)]
theorem wgZp2_all : ∀ x ∈ wgZp2, LineOK Tryz.prog 25 x.1 x.2 := ok_of wgR_ok (show Seen wgR_sp 25 wgZp2 from by unfold Seen; kernel_rfl)
def wgZp3 : List Line := [([.ag [] (ints [1]), .ag (ints [1]) (ints [3])], rrt 1 3)]
theorem wgZp3_all : ∀ x ∈ wgZp3, LineOK Tryz.prog 25 x.1 x.2 := ok_of wgR_ok (show Seen wgR_sp 25 wgZp3 from by unfold Seen; kernel_rfl)
def wgZp4 : List Line := [([.ag [] (ints [1]), .ag (ints [1]) (ints [4])], rrt 1 4)]
theorem wgZp4_all : ∀ x ∈ wgZp4, LineOK Tryz.prog 25 x.1 x.2 := ok_of wgR_ok (show Seen wgR_sp 25 wgZp4 from by unfold Seen; kernel_rfl)
def wgZp5 : List Line := [([.ag [] (ints [1]), .ag (ints [1]) (ints [5])], rrt 1 5)]
theorem wgZp5_all : ∀ x ∈ wgZp5, LineOK Tryz.prog 25 x.1 x.2 := ok_of wgR_ok (show Seen wgR_sp 25 wgZp5 from by unfold Seen; kernel_rfl)
def wgZp : List Line := wgZp1 ++ (wgZp2 ++ (wgZp3 ++ (wgZp4 ++ (wgZp5))))
theorem wgZp_all : ∀ x ∈ wgZp, LineOK Tryz.prog 25 x.1 x.2 := lines_append wgZp1_all (lines_append wgZp2_all (lines_append wgZp3_all (lines_append wgZp4_all (wgZp5_all))))
end Go.Proofs.YtkedcelpadiakaaGreat
namespace Go.Proofs.YtkedcelpadiakaaGreat
open Go Go.Abs Go.Num
def wgAAL : List Line := wgA0 ++ (wgA1 ++ (wgA2))
theorem wgAAL_all : ∀ x ∈ wgAAL, LineOK Tryz.prog 20 x.1 x.2 := lines_append wgA0_all (lines_append wgA1_all (wgA2_all))
noncomputable def wguA_sp : Abs.Spec := lay wgG_sp 20 wgAAL
theorem wguA_ok : Ok wguA_sp := ok_lay wgG_ok wgAAL_all
def wgLLL : List Line := wgL0 ++ (wgL1 ++ (wgL2))
theorem wgLLL_all : ∀ x ∈ wgLLL, LineOK Tryz.prog 21 x.1 x.2 := lines_append wgL0_all (lines_append wgL1_all (wgL2_all))
noncomputable def wguL_sp : Abs.Spec := lay wguA_sp 21 wgLLL
theorem wguL_ok : Ok wguL_sp := ok_lay wguA_ok wgLLL_all
def wgSSL : List Line := wgS0 ++ (wgS1 ++ (wgS2))
theorem wgSSL_all : ∀ x ∈ wgSSL, LineOK Tryz.prog 22 x.1 x.2 := lines_append wgS0_all (lines_append wgS1_all (wgS2_all))
noncomputable def wguS_sp : Abs.Spec := lay wguL_sp 22 wgSSL
theorem wguS_ok : Ok wguS_sp := ok_lay wguL_ok wgSSL_all
noncomputable def wguZ_sp : Abs.Spec := lay wguS_sp 19 wgZr
theorem wguZ_ok : Ok wguZ_sp := ok_lay wguS_ok wgZr_all
def wgPL : List Line := wgZp ++ (wgP0 ++ (wgP1 ++ (wgP2 ++ (wgP3))))
theorem wgPL_all : ∀ x ∈ wgPL, LineOK Tryz.prog 25 x.1 x.2 := lines_append wgZp_all (lines_append wgP0_all (lines_append wgP1_all (lines_append wgP2_all (wgP3_all))))
noncomputable def wg_sp : Abs.Spec := lay wguZ_sp 25 wgPL
theorem wg_ok : Ok wg_sp := ok_lay wguZ_ok wgPL_all
end Go.Proofs.YtkedcelpadiakaaGreat
namespace Go.Proofs.YtkedcelpadiakaaGreat
open Go Go.Abs Go.Num
theorem wgN : Abs.topC Tryz.prog okN (run wg_sp) 200 4 [.imm nilV] = RC.skip := by kernel_rfl
theorem wgLo : Abs.topC Tryz.prog okN (run wg_sp) 200 4 [.imm lostSlice] = RC.skip := by kernel_rfl
theorem wg1 : Abs.topC Tryz.prog okN (run wg_sp) 200 4 [.li (ints [1])] = RC.skip := by kernel_rfl
theorem wg2 : Abs.topC Tryz.prog okN (run wg_sp) 200 4 [.li (ints [2])] = RC.skip := by kernel_rfl
theorem wg11 : Abs.topC Tryz.prog okN (run wg_sp) 200 4 [.li (ints [1, 1])] = RC.skip := by kernel_rfl
theorem wg3 : Abs.topC Tryz.prog okN (run wg_sp) 200 4 [.li (ints [3])] = RC.skip := by kernel_rfl
theorem wg21 : Abs.topC Tryz.prog okN (run wg_sp) 200 4 [.li (ints [2, 1])] = RC.skip := by kernel_rfl
theorem wg111 : Abs.topC Tryz.prog okN (run wg_sp) 200 4 [.li (ints [1, 1, 1])] = RC.skip := by kernel_rfl
theorem wg4 : Abs.topC Tryz.prog okN (run wg_sp) 200 4 [.li (ints [4])] = RC.skip := by kernel_rfl
theorem wg31 : Abs.topC Tryz.prog okN (run wg_sp) 200 4 [.li (ints [3, 1])] = RC.skip := by kernel_rfl
theorem wg22 : Abs.topC Tryz.prog okN (run wg_sp) 200 4 [.li (ints [2, 2])] = RC.skip := by kernel_rfl
theorem wg211 : Abs.topC Tryz.prog okN (run wg_sp) 200 4 [.li (ints [2, 1, 1])] = RC.skip := by kernel_rfl
theorem wg1111 : Abs.topC Tryz.prog okN (run wg_sp) 200 4 [.li (ints [1, 1, 1, 1])] = RC.skip := by kernel_rfl
end Go.Proofs.YtkedcelpadiakaaGreat
