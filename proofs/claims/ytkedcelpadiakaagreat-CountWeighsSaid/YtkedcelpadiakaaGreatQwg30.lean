/- Of the law: texts of its proof, joined (part 30). -/
import Derived.Test.YtkedcelpadiakaaGreatQwg8
set_option linter.all false
namespace Go.Proofs.YtkedcelpadiakaaGreat
open Go Go.Abs
theorem awake_line : LineOK Tryz.prog 13 [] trueR :=
  ok_of (noSpec_good _) (l := [([], trueR)]) (show Seen noSpec 13 [([], trueR)] from by unfold Seen; kernel_rfl) _ (List.mem_singleton.2 rfl)
end Go.Proofs.YtkedcelpadiakaaGreat
namespace Go.Proofs.YtkedcelpadiakaaGreat
open Go Go.Abs
def apPSub0 : List Line := bin (· - ·) pN [(0, 0), (0, 3), (0, 4), (0, 5), (0, 6), (0, 7), (0, 9), (0, 11), (0, 13), (3, 0), (3, 3), (3, 4), (3, 5), (3, 6), (3, 7), (3, 13), (4, 0), (4, 3), (4, 5), (4, 11), (6, 3), (6, 5), (7, 3), (9, 9), (13, 3)]
theorem apPSub0_seen : ∀ x ∈ apPSub0, LineOK Tryz.prog 149 x.1 x.2 := ok_of (noSpec_good _) (show Seen noSpec 149 apPSub0 from by unfold Seen; kernel_rfl)
def apPSub : List Line := apPSub0
theorem apPSub_seen : ∀ x ∈ apPSub, LineOK Tryz.prog 149 x.1 x.2 := apPSub0_seen
noncomputable def apPSub_sp : Abs.Spec := lay noSpec 149 apPSub
theorem apPSub_ok : Ok apPSub_sp := ok_lay (noSpec_good _) apPSub_seen
def apPAdd0 : List Line := bin (· + ·) pN [(0, 0), (0, 3), (0, 4), (0, 5), (0, 6), (0, 7), (0, 9), (0, 11), (0, 13), (0, 19), (0, 21), (0, 33), (0, 37), (0, 49), (0, 241), (0, 577), (0, 1441), (0, 9601), (0, 10081), (0, 381601), (0, 12700801), (3, 0), (3, 3), (3, 5), (3, 7), (3, 9), (3, 11), (4, 3), (4, 6), (5, 3), (5, 5), (5, 6), (5, 7), (6, 3), (6, 4), (6, 7), (7, 3), (7, 5), (7, 7), (7, 13), (8, 5), (9, 3), (9, 11), (9, 13), (11, 3), (11, 9), (11, 13), (11, 19), (11, 21), (11, 33), (12, 13), (13, 0), (13, 8), (13, 9), (13, 13), (13, 14), (14, 11), (19, 11), (19, 21), (21, 11)]
theorem apPAdd0_seen : ∀ x ∈ apPAdd0, LineOK Tryz.prog 30 x.1 x.2 := ok_of apPSub_ok (show Seen apPSub_sp 30 apPAdd0 from by unfold Seen; kernel_rfl)
def apPAdd1 : List Line := bin (· + ·) pN [(21, 21), (23, 11), (25, 0), (25, 13), (25, 49), (33, 0), (33, 11), (33, 17), (33, 21), (33, 49), (37, 0), (37, 37), (39, 33), (49, 0), (49, 17), (49, 18), (49, 26), (49, 49), (49, 50), (53, 19), (65, 0), (65, 18), (65, 49), (81, 18), (97, 49), (145, 49), (161, 241), (181, 0), (181, 41), (181, 49), (181, 61), (193, 0), (193, 49), (205, 61), (209, 49), (221, 0), (221, 62), (229, 0), (229, 50), (241, 0), (241, 49), (241, 50), (241, 61), (241, 62), (241, 121), (241, 241), (241, 242), (253, 0), (253, 50), (257, 0), (257, 241), (265, 241), (289, 82), (301, 50), (361, 49), (361, 122), (409, 0), (409, 50), (481, 0), (481, 241)]
theorem apPAdd1_seen : ∀ x ∈ apPAdd1, LineOK Tryz.prog 30 x.1 x.2 := ok_of apPSub_ok (show Seen apPSub_sp 30 apPAdd1 from by unfold Seen; kernel_rfl)
def apPAdd2 : List Line := bin (· + ·) pN [(481, 289), (577, 337), (609, 1441), (721, 241), (737, 161), (769, 865), (897, 290), (913, 0), (913, 241), (961, 241), (1025, 0), (1025, 290), (1153, 0), (1153, 145), (1153, 161), (1153, 289), (1153, 481), (1201, 241), (1211, 0), (1211, 1441), (1281, 0), (1281, 91), (1281, 289), (1297, 0), (1297, 146), (1297, 289), (1297, 577), (1313, 0), (1313, 290), (1345, 866), (1371, 0), (1371, 162), (1441, 0), (1441, 146), (1441, 162), (1441, 241), (1441, 289), (1441, 290), (1441, 577), (1441, 865), (1441, 1441), (1441, 1442), (1549, 0), (1549, 577), (1569, 0), (1569, 161), (1569, 290), (1585, 0), (1585, 145), (1601, 289), (1633, 290), (1633, 482), (1693, 145), (1729, 161), (1729, 162), (1729, 290), (1837, 290), (1837, 577), (1873, 182), (1889, 0)]
theorem apPAdd2_seen : ∀ x ∈ apPAdd2, LineOK Tryz.prog 30 x.1 x.2 := ok_of apPSub_ok (show Seen apPSub_sp 30 apPAdd2 from by unfold Seen; kernel_rfl)
def apPAdd3 : List Line := bin (· + ·) pN [(1889, 161), (1889, 290), (2017, 0), (2017, 145), (2049, 289), (2125, 1441), (2161, 290), (2305, 481), (2305, 866), (2337, 1441), (2413, 0), (2413, 290), (2785, 289), (2785, 482), (2881, 1441), (3073, 289), (3073, 290), (3361, 0), (3361, 290), (4321, 1441), (5761, 1441), (7201, 1441), (7561, 10081), (8161, 1009), (8209, 10081), (8353, 0), (8353, 1441), (8353, 10081), (8401, 0), (8401, 481), (8401, 673), (8401, 721), (8401, 1441), (8401, 1681), (8449, 290), (8449, 1441), (8569, 0), (8569, 673), (8641, 1441), (8737, 289), (8881, 482), (9025, 481), (9025, 674), (9073, 0), (9073, 506), (9073, 721), (9121, 0), (9121, 722), (9169, 481), (9169, 722), (9217, 482), (9241, 0), (9241, 1682), (9361, 0), (9361, 289), (9361, 721), (9361, 1441), (9409, 0), (9409, 289), (9505, 0)]
theorem apPAdd3_seen : ∀ x ∈ apPAdd3, LineOK Tryz.prog 30 x.1 x.2 := ok_of apPSub_ok (show Seen apPSub_sp 30 apPAdd3 from by unfold Seen; kernel_rfl)
def apPAdd4 : List Line := bin (· + ·) pN [(9505, 289), (9505, 482), (9505, 2017), (9601, 0), (9601, 10081), (9649, 0), (9649, 290), (9649, 481), (9697, 0), (9697, 482), (9793, 0), (9793, 290), (9793, 674), (9793, 1442), (9841, 674), (9841, 1681), (9889, 1682), (10081, 0), (10081, 674), (10081, 722), (10081, 1441), (10081, 1681), (10081, 1682), (10081, 3361), (10081, 5041), (10081, 6721), (10081, 10081), (10081, 10082), (10129, 290), (10321, 0), (10321, 481), (10513, 1009), (10561, 722), (10801, 290), (10801, 481), (11041, 0), (11041, 722), (11089, 721), (11233, 0), (11233, 1441), (11281, 0), (11281, 722), (11521, 0), (11521, 289), (11521, 290), (11521, 481), (11521, 1441), (11521, 1442), (11521, 2018), (11521, 10081), (11761, 0), (11761, 674), (11761, 722), (11761, 1682), (11809, 290), (11809, 673), (11905, 481), (11953, 0), (11953, 10081), (12001, 482)]
theorem apPAdd4_seen : ∀ x ∈ apPAdd4, LineOK Tryz.prog 30 x.1 x.2 := ok_of apPSub_ok (show Seen apPSub_sp 30 apPAdd4 from by unfold Seen; kernel_rfl)
def apPAdd5 : List Line := bin (· + ·) pN [(12001, 1441), (12385, 0), (12385, 289), (12385, 482), (12481, 722), (12673, 290), (12673, 674), (12673, 722), (12961, 1441), (13345, 481), (13345, 1441), (13441, 0), (13441, 673), (13441, 1441), (13441, 3362), (13825, 481), (14017, 674), (14113, 1442), (14209, 1441), (14305, 290), (14401, 1441), (14785, 1441), (14881, 674), (15121, 1441), (15361, 2018), (15409, 2017), (15649, 290), (15697, 290), (16225, 3361), (16561, 2017), (16705, 1441), (16801, 4321), (16801, 6722), (17137, 1442), (17425, 722), (17569, 1009), (17857, 290), (18145, 5041), (18577, 722), (18577, 1442), (19585, 10081), (19681, 7441), (20161, 10081), (21121, 3361), (21121, 4322), (23185, 10081), (24001, 2882), (24481, 2881), (27121, 0), (27121, 1681), (27361, 1441), (27361, 3362), (28801, 0), (28801, 481), (28801, 1442), (29281, 482), (30241, 10081), (40321, 10081), (50401, 10081), (60481, 10081)]
theorem apPAdd5_seen : ∀ x ∈ apPAdd5, LineOK Tryz.prog 30 x.1 x.2 := ok_of apPSub_ok (show Seen apPSub_sp 30 apPAdd5 from by unfold Seen; kernel_rfl)
def apPAdd6 : List Line := bin (· + ·) pN [(70561, 10081), (80641, 10081), (90721, 10081), (100801, 10081), (110881, 10081), (120961, 10081), (131041, 10081), (141121, 10081), (381601, 184321), (565921, 0), (565921, 142561), (708481, 0), (708481, 142561), (851041, 0), (851041, 169921), (1020961, 0), (1020961, 15841), (12700801, 0), (12700801, 10886401), (23587201, 0), (23587201, 11612161), (35199361, 0), (35199361, 6168961), (41368321, 3840481), (45208801, 0), (45208801, 2328481), (47537281, 0), (47537281, 3114721), (50652001, 0), (50652001, 151201)]
theorem apPAdd6_seen : ∀ x ∈ apPAdd6, LineOK Tryz.prog 30 x.1 x.2 := ok_of apPSub_ok (show Seen apPSub_sp 30 apPAdd6 from by unfold Seen; kernel_rfl)
def apPAdd : List Line := apPAdd0 ++ apPAdd1 ++ apPAdd2 ++ apPAdd3 ++ apPAdd4 ++ apPAdd5 ++ apPAdd6
theorem apPAdd_seen : ∀ x ∈ apPAdd, LineOK Tryz.prog 30 x.1 x.2 := (lines_append (lines_append (lines_append (lines_append (lines_append (lines_append apPAdd0_seen apPAdd1_seen) apPAdd2_seen) apPAdd3_seen) apPAdd4_seen) apPAdd5_seen) apPAdd6_seen)
noncomputable def apPAdd_sp : Abs.Spec := lay apPSub_sp 30 apPAdd
theorem apPAdd_ok : Ok apPAdd_sp := ok_lay apPSub_ok apPAdd_seen
def apPMula0 : List Line := bin (· * ·) pN [(0, 7), (0, 17), (0, 25), (0, 41), (0, 49), (0, 61), (0, 91), (0, 145), (0, 161), (0, 289), (0, 481), (0, 505), (0, 673), (0, 721), (0, 1681), (3, 0), (3, 3), (3, 5), (3, 7), (3, 9), (3, 11), (3, 13), (3, 15), (3, 17), (3, 37), (3, 41), (3, 49), (3, 61), (3, 91), (3, 145), (3, 161), (3, 241), (3, 289), (3, 481), (3, 673), (3, 721), (3, 1441), (3, 1681), (3, 10081), (3, 15841), (3, 151201), (4, 5), (4, 7), (4, 13), (4, 17), (4, 25), (4, 49), (4, 61), (4, 145), (4, 161), (4, 241), (4, 289), (4, 481), (4, 505), (4, 673), (4, 721), (4, 1441), (4, 1681), (4, 10081), (5, 3)]
theorem apPMula0_seen : ∀ x ∈ apPMula0, LineOK Tryz.prog 123 x.1 x.2 := ok_of apPAdd_ok (show Seen apPAdd_sp 123 apPMula0 from by unfold Seen; kernel_rfl)
def apPMula1 : List Line := bin (· * ·) pN [(5, 5), (5, 7), (5, 9), (5, 19), (5, 25), (5, 61), (5, 145), (5, 289), (5, 505), (5, 721), (5, 1681), (6, 41), (6, 61), (6, 91), (6, 145), (6, 721), (6, 1681), (7, 0), (7, 3), (7, 5), (7, 13), (7, 17), (7, 113), (7, 161), (7, 289), (7, 481), (7, 673), (7, 1681), (8, 161), (8, 289), (8, 481), (8, 673), (9, 3), (9, 5), (9, 7), (9, 61), (9, 721), (9, 1681), (10, 505), (10, 721), (10, 1681), (11, 3), (11, 5), (11, 7), (11, 9), (11, 49), (11, 289), (11, 673), (12, 289), (12, 673), (13, 0), (13, 3), (13, 5), (13, 7), (13, 9), (13, 11), (13, 41), (13, 721), (13, 1681), (14, 721)]
theorem apPMula1_seen : ∀ x ∈ apPMula1, LineOK Tryz.prog 123 x.1 x.2 := ok_of apPAdd_ok (show Seen apPAdd_sp 123 apPMula1 from by unfold Seen; kernel_rfl)
def apPMula : List Line := apPMula0 ++ apPMula1
theorem apPMula_seen : ∀ x ∈ apPMula, LineOK Tryz.prog 123 x.1 x.2 := (lines_append apPMula0_seen apPMula1_seen)
noncomputable def apPMula_sp : Abs.Spec := lay apPAdd_sp 123 apPMula
theorem apPMula_ok : Ok apPMula_sp := ok_lay apPAdd_ok apPMula_seen
end Go.Proofs.YtkedcelpadiakaaGreat
namespace Go.Proofs.YtkedcelpadiakaaGreat
open Go Go.Abs
def apPMulb0 : List Line := bin (· * ·) pN [(15, 3), (15, 5), (15, 7), (15, 9), (15, 11), (15, 13), (17, 3), (17, 5), (17, 7), (17, 13), (17, 73), (19, 161), (21, 0), (21, 3), (21, 5), (21, 9), (21, 145), (25, 3), (25, 5), (25, 7), (25, 9), (25, 11), (29, 3), (29, 9), (29, 721), (31, 0), (31, 3), (31, 5), (31, 7), (31, 9), (31, 497), (31, 673), (33, 7), (33, 91), (37, 3), (37, 5), (37, 9), (41, 0), (41, 3), (41, 5), (41, 7), (41, 505), (43, 0), (43, 5), (43, 481), (49, 3), (49, 5), (49, 7), (49, 11), (49, 401), (57, 7), (61, 0), (61, 3), (61, 7), (61, 9), (71, 9), (71, 289), (73, 3), (73, 5), (81, 3)]
theorem apPMulb0_seen : ∀ x ∈ apPMulb0, LineOK Tryz.prog 123 x.1 x.2 := ok_of apPMula_ok (show Seen apPMula_sp 123 apPMulb0 from by unfold Seen; kernel_rfl)
def apPMulb : List Line := apPMulb0
theorem apPMulb_seen : ∀ x ∈ apPMulb, LineOK Tryz.prog 123 x.1 x.2 := apPMulb0_seen
noncomputable def apPMulb_sp : Abs.Spec := lay apPMula_sp 123 apPMulb
theorem apPMulb_ok : Ok apPMulb_sp := ok_lay apPMula_ok apPMulb_seen
def apPMulc0 : List Line := bin (· * ·) pN [(81, 5), (81, 3565), (85, 3), (85, 7), (85, 11), (91, 3), (91, 3777), (97, 3), (97, 7), (97, 11), (113, 7), (121, 3), (121, 5), (121, 7), (141, 33265), (145, 3), (145, 5), (161, 3), (169, 5), (181, 0), (181, 5), (181, 2049), (211, 0), (211, 29665), (241, 0), (241, 3), (241, 5), (241, 7), (241, 13), (253, 5), (281, 7), (289, 3), (289, 2651), (337, 3), (337, 5), (361, 3), (361, 5), (421, 0), (421, 9), (421, 18289), (481, 3), (505, 3), (561, 22033), (673, 3), (721, 3), (721, 5), (841, 0), (841, 5), (1009, 0), (1009, 21601), (1261, 18433), (1441, 3), (1441, 15), (1441, 17641), (1681, 0), (1681, 3), (1681, 7), (5041, 5), (10081, 3)]
theorem apPMulc0_seen : ∀ x ∈ apPMulc0, LineOK Tryz.prog 123 x.1 x.2 := ok_of apPMulb_ok (show Seen apPMulb_sp 123 apPMulc0 from by unfold Seen; kernel_rfl)
def apPMulc : List Line := apPMulc0
theorem apPMulc_seen : ∀ x ∈ apPMulc, LineOK Tryz.prog 123 x.1 x.2 := apPMulc0_seen
noncomputable def apPMulc_sp : Abs.Spec := lay apPMulb_sp 123 apPMulc
theorem apPMulc_ok : Ok apPMulc_sp := ok_lay apPMulb_ok apPMulc_seen
def apRMul0 : List Line := bin (· * ·) rN [(3, 3), (3, 5), (5, 5), (5, 7), (13, 7), (13, 9), (13, 13), (49, 11), (49, 49), (241, 13), (241, 15), (241, 241), (1441, 15), (1441, 23), (1441, 1441), (10081, 31), (10081, 10081)]
theorem apRMul0_seen : ∀ x ∈ apRMul0, LineOK Tryz.prog 32 x.1 x.2 := ok_of apPMulc_ok (show Seen apPMulc_sp 32 apRMul0 from by unfold Seen; kernel_rfl)
def apRMul : List Line := apRMul0
theorem apRMul_seen : ∀ x ∈ apRMul, LineOK Tryz.prog 32 x.1 x.2 := apRMul0_seen
noncomputable def apRMul_sp : Abs.Spec := lay apPMulc_sp 32 apRMul
theorem apRMul_ok : Ok apRMul_sp := ok_lay apPMulc_ok apRMul_seen
def apOf0 : List Line := ofs [0, 1, 2, 3, 4, 5, 6, 7]
theorem apOf0_seen : ∀ x ∈ apOf0, LineOK Tryz.prog 85 x.1 x.2 := ok_of apRMul_ok (show Seen apRMul_sp 85 apOf0 from by unfold Seen; kernel_rfl)
def apOf : List Line := apOf0
theorem apOf_seen : ∀ x ∈ apOf, LineOK Tryz.prog 85 x.1 x.2 := apOf0_seen
noncomputable def apOf_sp : Abs.Spec := lay apRMul_sp 85 apOf
theorem apOf_ok : Ok apOf_sp := ok_lay apRMul_ok apOf_seen
def apPovera0 : List Line := bin (· / ·) pN [(3, 3), (5, 3), (5, 5), (13, 3), (13, 5), (13, 7), (13, 13), (37, 13)]
theorem apPovera0_seen : ∀ x ∈ apPovera0, LineOK Tryz.prog 111 x.1 x.2 := ok_of apOf_ok (show Seen apOf_sp 111 apPovera0 from by unfold Seen; kernel_rfl)
def apPovera1 : List Line := bin (· / ·) pN [(49, 3), (49, 5), (49, 7), (49, 9), (49, 17), (49, 25), (49, 49), (241, 3)]
theorem apPovera1_seen : ∀ x ∈ apPovera1, LineOK Tryz.prog 111 x.1 x.2 := ok_of apOf_ok (show Seen apOf_sp 111 apPovera1 from by unfold Seen; kernel_rfl)
def apPovera2 : List Line := bin (· / ·) pN [(241, 9), (241, 11), (241, 13), (241, 17), (241, 25), (241, 41), (241, 49), (241, 61)]
theorem apPovera2_seen : ∀ x ∈ apPovera2, LineOK Tryz.prog 111 x.1 x.2 := ok_of apOf_ok (show Seen apOf_sp 111 apPovera2 from by unfold Seen; kernel_rfl)
def apPovera3 : List Line := bin (· / ·) pN [(241, 241), (1441, 3), (1441, 11), (1441, 13), (1441, 17), (1441, 19), (1441, 21), (1441, 33)]
theorem apPovera3_seen : ∀ x ∈ apPovera3, LineOK Tryz.prog 111 x.1 x.2 := ok_of apOf_ok (show Seen apOf_sp 111 apPovera3 from by unfold Seen; kernel_rfl)
def apPovera4 : List Line := bin (· / ·) pN [(1441, 37), (1441, 91), (1441, 97), (1441, 145), (1441, 161), (1441, 289), (1441, 1441), (10081, 3)]
theorem apPovera4_seen : ∀ x ∈ apPovera4, LineOK Tryz.prog 111 x.1 x.2 := ok_of apOf_ok (show Seen apOf_sp 111 apPovera4 from by unfold Seen; kernel_rfl)
def apPovera5 : List Line := bin (· / ·) pN [(10081, 13), (10081, 15), (10081, 17), (10081, 21), (10081, 25), (10081, 29), (10081, 31), (10081, 37)]
theorem apPovera5_seen : ∀ x ∈ apPovera5, LineOK Tryz.prog 111 x.1 x.2 := ok_of apOf_ok (show Seen apOf_sp 111 apPovera5 from by unfold Seen; kernel_rfl)
def apPovera : List Line := apPovera0 ++ apPovera1 ++ apPovera2 ++ apPovera3 ++ apPovera4 ++ apPovera5
theorem apPovera_seen : ∀ x ∈ apPovera, LineOK Tryz.prog 111 x.1 x.2 := (lines_append (lines_append (lines_append (lines_append (lines_append apPovera0_seen apPovera1_seen) apPovera2_seen) apPovera3_seen) apPovera4_seen) apPovera5_seen)
noncomputable def apPovera_sp : Abs.Spec := lay apOf_sp 111 apPovera
theorem apPovera_ok : Ok apPovera_sp := ok_lay apOf_ok apPovera_seen
end Go.Proofs.YtkedcelpadiakaaGreat
