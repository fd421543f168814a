/- Of the law: texts of its proof, joined (part 43). -/
import Derived.Test.YtkedcelpadiakaaGreatQwg38
set_option linter.all false
namespace Go.Proofs.YtkedcelpadiakaaGreat
open Go Go.Abs Go.Num
def wgP2_0 : List Line := [([.ag (ints [10]) (ints [1]), .ag (ints [1]) (ints [1])], rrt 11 1)]
theorem wgP2_0_all : ∀ x ∈ wgP2_0, LineOK Tryz.prog 25 x.1 x.2 := ok_of wgR_ok (show Seen wgR_sp 25 wgP2_0 from by unfold Seen; kernel_rfl)
def wgP2_1 : List Line := [([.ag (ints [11]) (ints [1]), .ag (ints [1]) (ints [1])], rrt 12 1)]
theorem wgP2_1_all : ∀ x ∈ wgP2_1, LineOK Tryz.prog 25 x.1 x.2 := ok_of wgR_ok (show Seen wgR_sp 25 wgP2_1 from by unfold Seen; kernel_rfl)
def wgP2_2 : List Line := [([.ag (ints [12]) (ints [1]), .ag (ints [1]) (ints [1])], rrt 13 1)]
theorem wgP2_2_all : ∀ x ∈ wgP2_2, LineOK Tryz.prog 25 x.1 x.2 := ok_of wgR_ok (show Seen wgR_sp 25 wgP2_2 from by unfold Seen; kernel_rfl)
def wgP2_3 : List Line := [([.ag (ints [13]) (ints [1]), .ag (ints [1]) (ints [1])], rrt 14 1)]
theorem wgP2_3_all : ∀ x ∈ wgP2_3, LineOK Tryz.prog 25 x.1 x.2 := ok_of wgR_ok (show Seen wgR_sp 25 wgP2_3 from by unfold Seen; kernel_rfl)
def wgP2_4 : List Line := [([.ag (ints [14]) (ints [1]), .ag (ints [1]) (ints [1])], rrt 15 1)]
theorem wgP2_4_all : ∀ x ∈ wgP2_4, LineOK Tryz.prog 25 x.1 x.2 := ok_of wgR_ok (show Seen wgR_sp 25 wgP2_4 from by unfold Seen; kernel_rfl)
def wgP2_5 : List Line := [([.ag (ints [15]) (ints [1]), .ag (ints [1]) (ints [1])], rrt 16 1)]
theorem wgP2_5_all : ∀ x ∈ wgP2_5, LineOK Tryz.prog 25 x.1 x.2 := ok_of wgR_ok (show Seen wgR_sp 25 wgP2_5 from by unfold Seen; kernel_rfl)
def wgP2_6 : List Line := [([.ag (ints [16]) (ints [1]), .ag (ints [1]) (ints [1])], rrt 17 1)]
theorem wgP2_6_all : ∀ x ∈ wgP2_6, LineOK Tryz.prog 25 x.1 x.2 := ok_of wgR_ok (show Seen wgR_sp 25 wgP2_6 from by unfold Seen; kernel_rfl)
def wgP2_7 : List Line := [([.ag (ints [17]) (ints [1]), .ag (ints [1]) (ints [1])], rrt 18 1)]
theorem wgP2_7_all : ∀ x ∈ wgP2_7, LineOK Tryz.prog 25 x.1 x.2 := ok_of wgR_ok (show Seen wgR_sp 25 wgP2_7 from by unfold Seen; kernel_rfl)
def wgP2_8 : List Line := [([.ag (ints [18]) (ints [1]), .ag (ints [1]) (ints [1])], rrt 19 1)]
theorem wgP2_8_all : ∀ x ∈ wgP2_8, LineOK Tryz.prog 25 x.1 x.2 := ok_of wgR_ok (show Seen wgR_sp 25 wgP2_8 from by unfold Seen; kernel_rfl)
def wgP2_9 : List Line := [([.ag (ints [19]) (ints [1]), .ag (ints [1]) (ints [1])], rrt 20 1)]
theorem wgP2_9_all : ∀ x ∈ wgP2_9, LineOK Tryz.prog 25 x.1 x.2 := ok_of wgR_ok (show Seen wgR_sp 25 wgP2_9 from by unfold Seen; kernel_rfl)
def wgP2_10 : List Line := [([.ag (ints [20]) (ints [1]), .ag (ints [1]) (ints [1])], rrt 21 1)]
theorem wgP2_10_all : ∀ x ∈ wgP2_10, LineOK Tryz.prog 25 x.1 x.2 := ok_of wgR_ok (show Seen wgR_sp 25 wgP2_10 from by unfold Seen; kernel_rfl)
def wgP2_11 : List Line := [([.ag (ints [21]) (ints [1]), .ag (ints [1]) (ints [1])], rrt 22 1)]
theorem wgP2_11_all : ∀ x ∈ wgP2_11, LineOK Tryz.prog 25 x.1 x.2 := ok_of wgR_ok (show Seen wgR_sp 25 wgP2_11 from by unfold Seen; kernel_rfl)
def wgP2_12 : List Line := [([.ag (ints [22]) (ints [1]), .ag (ints [1]) (ints [1])], rrt 23 1)]
theorem wgP2_12_all : ∀ x ∈ wgP2_12, LineOK Tryz.prog 25 x.1 x.2 := ok_of wgR_ok (show Seen wgR_sp 25 wgP2_12 from by unfold Seen; kernel_rfl)
def wgP2_13 : List Line := [([.ag (ints [23]) (ints [1]), .ag (ints [1]) (ints [1])], rrt 24 1)]
theorem wgP2_13_all : ∀ x ∈ wgP2_13, LineOK Tryz.prog 25 x.1 x.2 := ok_of wgR_ok (show Seen wgR_sp 25 wgP2_13 from by unfold Seen; kernel_rfl)
def wgP2_14 : List Line := [([.ag (ints [24]) (ints [1]), .ag (ints [1]) (ints [1])], rrt 25 1)]
theorem wgP2_14_all : ∀ x ∈ wgP2_14, LineOK Tryz.prog 25 x.1 x.2 := ok_of wgR_ok (show Seen wgR_sp 25 wgP2_14 from by unfold Seen; kernel_rfl)
def wgP2 : List Line := wgP2_0 ++ (wgP2_1 ++ (wgP2_2 ++ (wgP2_3 ++ (wgP2_4 ++ (wgP2_5 ++ (wgP2_6 ++ (wgP2_7 ++ (wgP2_8 ++ (wgP2_9 ++ (wgP2_10 ++ (wgP2_11 ++ (wgP2_12 ++ (wgP2_13 ++ (wgP2_14))))))))))))))
theorem wgP2_all : ∀ x ∈ wgP2, LineOK Tryz.prog 25 x.1 x.2 := lines_append wgP2_0_all (lines_append wgP2_1_all (lines_append wgP2_2_all (lines_append wgP2_3_all (lines_append wgP2_4_all (lines_append wgP2_5_all (lines_append wgP2_6_all (lines_append wgP2_7_all (lines_append wgP2_8_all (lines_append wgP2_9_all (lines_append wgP2_10_all (lines_append wgP2_11_all (lines_append wgP2_12_all (lines_append wgP2_13_all (wgP2_14_all))))))))))))))
end Go.Proofs.YtkedcelpadiakaaGreat
namespace Go.Proofs.YtkedcelpadiakaaGreat
open Go Go.Abs Go.Num
def wgP3_0 : List Line := [([.ag (ints [25]) (ints [1]), .ag (ints [1]) (ints [1])], rrt 26 1)]
theorem wgP3_0_all : ∀ x ∈ wgP3_0, LineOK Tryz.prog 25 x.1 x.2 := ok_of wgR_ok (show Seen wgR_sp 25 wgP3_0 from by unfold Seen; kernel_rfl)
def wgP3_1 : List Line := [([.ag (ints [26]) (ints [1]), .ag (ints [1]) (ints [1])], rrt 27 1)]
theorem wgP3_1_all : ∀ x ∈ wgP3_1, LineOK Tryz.prog 25 x.1 x.2 := ok_of wgR_ok (show Seen wgR_sp 25 wgP3_1 from by unfold Seen; kernel_rfl)
def wgP3_2 : List Line := [([.ag (ints [27]) (ints [1]), .ag (ints [1]) (ints [1])], rrt 28 1)]
theorem wgP3_2_all : ∀ x ∈ wgP3_2, LineOK Tryz.prog 25 x.1 x.2 := ok_of wgR_ok (show Seen wgR_sp 25 wgP3_2 from by unfold Seen; kernel_rfl)
def wgP3_3 : List Line := [([.ag (ints [28]) (ints [1]), .ag (ints [1]) (ints [1])], rrt 29 1)]
theorem wgP3_3_all : ∀ x ∈ wgP3_3, LineOK Tryz.prog 25 x.1 x.2 := ok_of wgR_ok (show Seen wgR_sp 25 wgP3_3 from by unfold Seen; kernel_rfl)
def wgP3_4 : List Line := [([.ag (ints [29]) (ints [1]), .ag (ints [1]) (ints [1])], rrt 30 1)]
theorem wgP3_4_all : ∀ x ∈ wgP3_4, LineOK Tryz.prog 25 x.1 x.2 := ok_of wgR_ok (show Seen wgR_sp 25 wgP3_4 from by unfold Seen; kernel_rfl)
def wgP3_5 : List Line := [([.ag (ints [30]) (ints [1]), .ag (ints [1]) (ints [1])], rrt 31 1)]
theorem wgP3_5_all : ∀ x ∈ wgP3_5, LineOK Tryz.prog 25 x.1 x.2 := ok_of wgR_ok (show Seen wgR_sp 25 wgP3_5 from by unfold Seen; kernel_rfl)
def wgP3_6 : List Line := [([.ag (ints [31]) (ints [1]), .ag (ints [1]) (ints [1])], rrt 32 1)]
theorem wgP3_6_all : ∀ x ∈ wgP3_6, LineOK Tryz.prog 25 x.1 x.2 := ok_of wgR_ok (show Seen wgR_sp 25 wgP3_6 from by unfold Seen; kernel_rfl)
def wgP3_7 : List Line := [([.ag (ints [32]) (ints [1]), .ag (ints [1]) (ints [1])], rrt 33 1)]
theorem wgP3_7_all : ∀ x ∈ wgP3_7, LineOK Tryz.prog 25 x.1 x.2 := ok_of wgR_ok (show Seen wgR_sp 25 wgP3_7 from by unfold Seen; kernel_rfl)
def wgP3_8 : List Line := [([.ag (ints [33]) (ints [1]), .ag (ints [1]) (ints [1])], rrt 34 1)]
theorem wgP3_8_all : ∀ x ∈ wgP3_8, LineOK Tryz.prog 25 x.1 x.2 := ok_of wgR_ok (show Seen wgR_sp 25 wgP3_8 from by unfold Seen; kernel_rfl)
def wgP3_9 : List Line := [([.ag (ints [34]) (ints [1]), .ag (ints [1]) (ints [1])], rrt 35 1)]
theorem wgP3_9_all : ∀ x ∈ wgP3_9, LineOK Tryz.prog 25 x.1 x.2 := ok_of wgR_ok (show Seen wgR_sp 25 wgP3_9 from by unfold Seen; kernel_rfl)
def wgP3_10 : List Line := [([.ag (ints [35]) (ints [1]), .ag (ints [1]) (ints [1])], rrt 36 1)]
theorem wgP3_10_all : ∀ x ∈ wgP3_10, LineOK Tryz.prog 25 x.1 x.2 := ok_of wgR_ok (show Seen wgR_sp 25 wgP3_10 from by unfold Seen; kernel_rfl)
def wgP3_11 : List Line := [([.ag (ints [36]) (ints [1]), .ag (ints [1]) (ints [1])], rrt 37 1)]
theorem wgP3_11_all : ∀ x ∈ wgP3_11, LineOK Tryz.prog 25 x.1 x.2 := ok_of wgR_ok (show Seen wgR_sp 25 wgP3_11 from by unfold Seen; kernel_rfl)
def wgP3_12 : List Line := [([.ag (ints [37]) (ints [1]), .ag (ints [1]) (ints [1])], rrt 38 1)]
theorem wgP3_12_all : ∀ x ∈ wgP3_12, LineOK Tryz.prog 25 x.1 x.2 := ok_of wgR_ok (show Seen wgR_sp 25 wgP3_12 from by unfold Seen; kernel_rfl)
def wgP3_13 : List Line := [([.ag (ints [38]) (ints [1]), .ag (ints [1]) (ints [1])], rrt 39 1)]
theorem wgP3_13_all : ∀ x ∈ wgP3_13, LineOK Tryz.prog 25 x.1 x.2 := ok_of wgR_ok (show Seen wgR_sp 25 wgP3_13 from by unfold Seen; kernel_rfl)
def wgP3_14 : List Line := [([.ag (ints [39]) (ints [1]), .ag (ints [1]) (ints [1])], rrt 40 1)]
theorem wgP3_14_all : ∀ x ∈ wgP3_14, LineOK Tryz.prog 25 x.1 x.2 := ok_of wgR_ok (show Seen wgR_sp 25 wgP3_14 from by unfold Seen; kernel_rfl)
def wgP3 : List Line := wgP3_0 ++ (wgP3_1 ++ (wgP3_2 ++ (wgP3_3 ++ (wgP3_4 ++ (wgP3_5 ++ (wgP3_6 ++ (wgP3_7 ++ (wgP3_8 ++ (wgP3_9 ++ (wgP3_10 ++ (wgP3_11 ++ (wgP3_12 ++ (wgP3_13 ++ (wgP3_14))))))))))))))
theorem wgP3_all : ∀ x ∈ wgP3, LineOK Tryz.prog 25 x.1 x.2 := lines_append wgP3_0_all (lines_append wgP3_1_all (lines_append wgP3_2_all (lines_append wgP3_3_all (lines_append wgP3_4_all (lines_append wgP3_5_all (lines_append wgP3_6_all (lines_append wgP3_7_all (lines_append wgP3_8_all (lines_append wgP3_9_all (lines_append wgP3_10_all (lines_append wgP3_11_all (lines_append wgP3_12_all (lines_append wgP3_13_all (wgP3_14_all))))))))))))))
end Go.Proofs.YtkedcelpadiakaaGreat
