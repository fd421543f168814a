/- Of the law: texts of its proof, joined (part 41). -/
import Derived.Test.YtkedcelpadiakaaGreatQwg38
set_option linter.all false
namespace Go.Proofs.YtkedcelpadiakaaGreat
open Go Go.Abs Go.Num
def wgP0_0 : List Line := [([.ag (ints [1]) (ints [5]), .ag (ints [1]) (ints [5])], rrt 2 5)]
theorem wgP0_0_all : ∀ x ∈ wgP0_0, LineOK Tryz.prog 25 x.1 x.2 := ok_of wgR_ok (show Seen wgR_sp 25 wgP0_0 from by unfold Seen; kernel_rfl)
def wgP0_1 : List Line := [([.ag (ints [1]) (ints [4]), .ag (ints [1]) (ints [4])], rrt 1 2)]
theorem wgP0_1_all : ∀ x ∈ wgP0_1, LineOK Tryz.prog 25 x.1 x.2 := ok_of wgR_ok (show Seen wgR_sp 25 wgP0_1 from by unfold Seen; kernel_rfl)
def wgP0_2 : List Line := [([.ag (ints [1]) (ints [3]), .ag (ints [1]) (ints [3])], rrt 2 3)]
theorem wgP0_2_all : ∀ x ∈ wgP0_2, LineOK Tryz.prog 25 x.1 x.2 := ok_of wgR_ok (show Seen wgR_sp 25 wgP0_2 from by unfold Seen; kernel_rfl)
def wgP0_3 : List Line := [([.ag (ints [2]) (ints [5]), .ag (ints [1]) (ints [5])], rrt 3 5)]
theorem wgP0_3_all : ∀ x ∈ wgP0_3, LineOK Tryz.prog 25 x.1 x.2 := ok_of wgR_ok (show Seen wgR_sp 25 wgP0_3 from by unfold Seen; kernel_rfl)
def wgP0_4 : List Line := [([.ag (ints [1]) (ints [2]), .ag (ints [1]) (ints [2])], rrt 1 1)]
theorem wgP0_4_all : ∀ x ∈ wgP0_4, LineOK Tryz.prog 25 x.1 x.2 := ok_of wgR_ok (show Seen wgR_sp 25 wgP0_4 from by unfold Seen; kernel_rfl)
def wgP0_5 : List Line := [([.ag (ints [1]) (ints [2]), .ag (ints [1]) (ints [4])], rrt 3 4)]
theorem wgP0_5_all : ∀ x ∈ wgP0_5, LineOK Tryz.prog 25 x.1 x.2 := ok_of wgR_ok (show Seen wgR_sp 25 wgP0_5 from by unfold Seen; kernel_rfl)
def wgP0_6 : List Line := [([.ag (ints [3]) (ints [5]), .ag (ints [1]) (ints [5])], rrt 4 5)]
theorem wgP0_6_all : ∀ x ∈ wgP0_6, LineOK Tryz.prog 25 x.1 x.2 := ok_of wgR_ok (show Seen wgR_sp 25 wgP0_6 from by unfold Seen; kernel_rfl)
def wgP0_7 : List Line := [([.ag (ints [2]) (ints [3]), .ag (ints [1]) (ints [3])], rrt 1 1)]
theorem wgP0_7_all : ∀ x ∈ wgP0_7, LineOK Tryz.prog 25 x.1 x.2 := ok_of wgR_ok (show Seen wgR_sp 25 wgP0_7 from by unfold Seen; kernel_rfl)
def wgP0_8 : List Line := [([.ag (ints [3]) (ints [4]), .ag (ints [1]) (ints [4])], rrt 1 1)]
theorem wgP0_8_all : ∀ x ∈ wgP0_8, LineOK Tryz.prog 25 x.1 x.2 := ok_of wgR_ok (show Seen wgR_sp 25 wgP0_8 from by unfold Seen; kernel_rfl)
def wgP0_9 : List Line := [([.ag (ints [4]) (ints [5]), .ag (ints [1]) (ints [5])], rrt 1 1)]
theorem wgP0_9_all : ∀ x ∈ wgP0_9, LineOK Tryz.prog 25 x.1 x.2 := ok_of wgR_ok (show Seen wgR_sp 25 wgP0_9 from by unfold Seen; kernel_rfl)
def wgP0_10 : List Line := [([.ag (ints [1]) (ints [1]), .ag (ints [1]) (ints [1])], rrt 2 1)]
theorem wgP0_10_all : ∀ x ∈ wgP0_10, LineOK Tryz.prog 25 x.1 x.2 := ok_of wgR_ok (show Seen wgR_sp 25 wgP0_10 from by unfold Seen; kernel_rfl)
def wgP0_11 : List Line := [([.ag (ints [1]) (ints [1]), .ag (ints [1]) (ints [2])], rrt 3 2)]
theorem wgP0_11_all : ∀ x ∈ wgP0_11, LineOK Tryz.prog 25 x.1 x.2 := ok_of wgR_ok (show Seen wgR_sp 25 wgP0_11 from by unfold Seen; kernel_rfl)
def wgP0_12 : List Line := [([.ag (ints [1]) (ints [1]), .ag (ints [1]) (ints [3])], rrt 4 3)]
theorem wgP0_12_all : ∀ x ∈ wgP0_12, LineOK Tryz.prog 25 x.1 x.2 := ok_of wgR_ok (show Seen wgR_sp 25 wgP0_12 from by unfold Seen; kernel_rfl)
def wgP0_13 : List Line := [([.ag (ints [1]) (ints [1]), .ag (ints [1]) (ints [4])], rrt 5 4)]
theorem wgP0_13_all : ∀ x ∈ wgP0_13, LineOK Tryz.prog 25 x.1 x.2 := ok_of wgR_ok (show Seen wgR_sp 25 wgP0_13 from by unfold Seen; kernel_rfl)
def wgP0_14 : List Line := [([.ag (ints [1]) (ints [1]), .ag (ints [1]) (ints [5])], rrt 6 5)]
theorem wgP0_14_all : ∀ x ∈ wgP0_14, LineOK Tryz.prog 25 x.1 x.2 := ok_of wgR_ok (show Seen wgR_sp 25 wgP0_14 from by unfold Seen; kernel_rfl)
def wgP0 : List Line := wgP0_0 ++ (wgP0_1 ++ (wgP0_2 ++ (wgP0_3 ++ (wgP0_4 ++ (wgP0_5 ++ (wgP0_6 ++ (wgP0_7 ++ (wgP0_8 ++ (wgP0_9 ++ (wgP0_10 ++ (wgP0_11 ++ (wgP0_12 ++ (wgP0_13 ++ (wgP0_14))))))))))))))
theorem wgP0_all : ∀ x ∈ wgP0, LineOK Tryz.prog 25 x.1 x.2 := lines_append wgP0_0_all (lines_append wgP0_1_all (lines_append wgP0_2_all (lines_append wgP0_3_all (lines_append wgP0_4_all (lines_append wgP0_5_all (lines_append wgP0_6_all (lines_append wgP0_7_all (lines_append wgP0_8_all (lines_append wgP0_9_all (lines_append wgP0_10_all (lines_append wgP0_11_all (lines_append wgP0_12_all (lines_append wgP0_13_all (wgP0_14_all))))))))))))))
end Go.Proofs.YtkedcelpadiakaaGreat
