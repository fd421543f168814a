/- Of the law: texts of its proof, joined (part 42). -/
import Derived.Test.YtkedcelpadiakaaGreatQwg38
set_option linter.all false
namespace Go.Proofs.YtkedcelpadiakaaGreat
open Go Go.Abs Go.Num
def wgP1_0 : List Line := [([.ag (ints [5]) (ints [4]), .ag (ints [1]) (ints [4])], rrt 3 2)]
theorem wgP1_0_all : ∀ x ∈ wgP1_0, LineOK Tryz.prog 25 x.1 x.2 := ok_of wgR_ok (show Seen wgR_sp 25 wgP1_0 from by unfold Seen; kernel_rfl)
def wgP1_1 : List Line := [([.ag (ints [3]) (ints [2]), .ag (ints [1]) (ints [4])], rrt 7 4)]
theorem wgP1_1_all : ∀ x ∈ wgP1_1, LineOK Tryz.prog 25 x.1 x.2 := ok_of wgR_ok (show Seen wgR_sp 25 wgP1_1 from by unfold Seen; kernel_rfl)
def wgP1_2 : List Line := [([.ag (ints [2]) (ints [1]), .ag (ints [1]) (ints [1])], rrt 3 1)]
theorem wgP1_2_all : ∀ x ∈ wgP1_2, LineOK Tryz.prog 25 x.1 x.2 := ok_of wgR_ok (show Seen wgR_sp 25 wgP1_2 from by unfold Seen; kernel_rfl)
def wgP1_3 : List Line := [([.ag (ints [3]) (ints [1]), .ag (ints [1]) (ints [1])], rrt 4 1)]
theorem wgP1_3_all : ∀ x ∈ wgP1_3, LineOK Tryz.prog 25 x.1 x.2 := ok_of wgR_ok (show Seen wgR_sp 25 wgP1_3 from by unfold Seen; kernel_rfl)
def wgP1_4 : List Line := [([.ag (ints [4]) (ints [1]), .ag (ints [1]) (ints [1])], rrt 5 1)]
theorem wgP1_4_all : ∀ x ∈ wgP1_4, LineOK Tryz.prog 25 x.1 x.2 := ok_of wgR_ok (show Seen wgR_sp 25 wgP1_4 from by unfold Seen; kernel_rfl)
def wgP1_5 : List Line := [([.ag (ints [4]) (ints [1]), .ag (ints [1]) (ints [2])], rrt 9 2)]
theorem wgP1_5_all : ∀ x ∈ wgP1_5, LineOK Tryz.prog 25 x.1 x.2 := ok_of wgR_ok (show Seen wgR_sp 25 wgP1_5 from by unfold Seen; kernel_rfl)
def wgP1_6 : List Line := [([.ag (ints [9]) (ints [2]), .ag (ints [1]) (ints [1])], rrt 11 2)]
theorem wgP1_6_all : ∀ x ∈ wgP1_6, LineOK Tryz.prog 25 x.1 x.2 := ok_of wgR_ok (show Seen wgR_sp 25 wgP1_6 from by unfold Seen; kernel_rfl)
def wgP1_7 : List Line := [([.ag (ints [5]) (ints [1]), .ag (ints [1]) (ints [1])], rrt 6 1)]
theorem wgP1_7_all : ∀ x ∈ wgP1_7, LineOK Tryz.prog 25 x.1 x.2 := ok_of wgR_ok (show Seen wgR_sp 25 wgP1_7 from by unfold Seen; kernel_rfl)
def wgP1_8 : List Line := [([.ag (ints [11]) (ints [2]), .ag (ints [1]) (ints [2])], rrt 6 1)]
theorem wgP1_8_all : ∀ x ∈ wgP1_8, LineOK Tryz.prog 25 x.1 x.2 := ok_of wgR_ok (show Seen wgR_sp 25 wgP1_8 from by unfold Seen; kernel_rfl)
def wgP1_9 : List Line := [([.ag (ints [6]) (ints [1]), .ag (ints [1]) (ints [1])], rrt 7 1)]
theorem wgP1_9_all : ∀ x ∈ wgP1_9, LineOK Tryz.prog 25 x.1 x.2 := ok_of wgR_ok (show Seen wgR_sp 25 wgP1_9 from by unfold Seen; kernel_rfl)
def wgP1_10 : List Line := [([.ag (ints [6]) (ints [1]), .ag (ints [1]) (ints [2])], rrt 13 2)]
theorem wgP1_10_all : ∀ x ∈ wgP1_10, LineOK Tryz.prog 25 x.1 x.2 := ok_of wgR_ok (show Seen wgR_sp 25 wgP1_10 from by unfold Seen; kernel_rfl)
def wgP1_11 : List Line := [([.ag (ints [13]) (ints [2]), .ag (ints [1]) (ints [2])], rrt 7 1)]
theorem wgP1_11_all : ∀ x ∈ wgP1_11, LineOK Tryz.prog 25 x.1 x.2 := ok_of wgR_ok (show Seen wgR_sp 25 wgP1_11 from by unfold Seen; kernel_rfl)
def wgP1_12 : List Line := [([.ag (ints [7]) (ints [1]), .ag (ints [1]) (ints [1])], rrt 8 1)]
theorem wgP1_12_all : ∀ x ∈ wgP1_12, LineOK Tryz.prog 25 x.1 x.2 := ok_of wgR_ok (show Seen wgR_sp 25 wgP1_12 from by unfold Seen; kernel_rfl)
def wgP1_13 : List Line := [([.ag (ints [8]) (ints [1]), .ag (ints [1]) (ints [1])], rrt 9 1)]
theorem wgP1_13_all : ∀ x ∈ wgP1_13, LineOK Tryz.prog 25 x.1 x.2 := ok_of wgR_ok (show Seen wgR_sp 25 wgP1_13 from by unfold Seen; kernel_rfl)
def wgP1_14 : List Line := [([.ag (ints [9]) (ints [1]), .ag (ints [1]) (ints [1])], rrt 10 1)]
theorem wgP1_14_all : ∀ x ∈ wgP1_14, LineOK Tryz.prog 25 x.1 x.2 := ok_of wgR_ok (show Seen wgR_sp 25 wgP1_14 from by unfold Seen; kernel_rfl)
def wgP1 : List Line := wgP1_0 ++ (wgP1_1 ++ (wgP1_2 ++ (wgP1_3 ++ (wgP1_4 ++ (wgP1_5 ++ (wgP1_6 ++ (wgP1_7 ++ (wgP1_8 ++ (wgP1_9 ++ (wgP1_10 ++ (wgP1_11 ++ (wgP1_12 ++ (wgP1_13 ++ (wgP1_14))))))))))))))
theorem wgP1_all : ∀ x ∈ wgP1, LineOK Tryz.prog 25 x.1 x.2 := lines_append wgP1_0_all (lines_append wgP1_1_all (lines_append wgP1_2_all (lines_append wgP1_3_all (lines_append wgP1_4_all (lines_append wgP1_5_all (lines_append wgP1_6_all (lines_append wgP1_7_all (lines_append wgP1_8_all (lines_append wgP1_9_all (lines_append wgP1_10_all (lines_append wgP1_11_all (lines_append wgP1_12_all (lines_append wgP1_13_all (wgP1_14_all))))))))))))))
end Go.Proofs.YtkedcelpadiakaaGreat
