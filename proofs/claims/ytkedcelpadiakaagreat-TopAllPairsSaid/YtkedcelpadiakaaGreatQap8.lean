/- Of the law: texts of its proof, joined (part 8). -/
import Derived.Test.YtkedcelpadiakaaGreatQap7
set_option linter.all false
namespace Go.Proofs.YtkedcelpadiakaaGreat
open Go Go.Abs
def apPMulb0 : List Line := bin (· * ·) pN [(15, 3), (15, 5), (15, 7), (15, 9), (15, 11), (15, 13), (17, 3), (17, 5), (17, 7), (17, 13), (17, 73), (19, 161), (21, 0), (21, 3), (21, 5), (21, 9), (21, 145), (25, 3), (25, 5), (25, 7), (25, 9), (25, 11), (29, 3), (29, 9), (29, 721), (31, 0), (31, 3), (31, 5), (31, 7), (31, 9), (31, 497), (31, 673), (33, 7), (33, 91), (37, 3), (37, 5), (37, 9), (41, 0), (41, 3), (41, 5), (41, 7), (41, 505), (43, 0), (43, 5), (43, 481), (49, 3), (49, 5), (49, 7), (49, 11), (49, 401), (57, 7), (61, 0), (61, 3), (61, 7), (61, 9), (71, 9), (71, 289), (73, 3), (73, 5), (81, 3)]
theorem apPMulb0_seen : ∀ x ∈ apPMulb0, LineOK Tryz.prog 123 x.1 x.2 := ok_of apPMula_ok (show Seen apPMula_sp 123 apPMulb0 from by unfold Seen; kernel_rfl)
def apPMulb : List Line := apPMulb0
theorem apPMulb_seen : ∀ x ∈ apPMulb, LineOK Tryz.prog 123 x.1 x.2 := apPMulb0_seen
noncomputable def apPMulb_sp : Abs.Spec := lay apPMula_sp 123 apPMulb
theorem apPMulb_ok : Ok apPMulb_sp := ok_lay apPMula_ok apPMulb_seen
def apPMulc0 : List Line := bin (· * ·) pN [(81, 5), (81, 3565), (85, 3), (85, 7), (85, 11), (91, 3), (91, 3777), (97, 3), (97, 7), (97, 11), (113, 7), (121, 3), (121, 5), (121, 7), (141, 33265), (145, 3), (145, 5), (161, 3), (169, 5), (181, 0), (181, 5), (181, 2049), (211, 0), (211, 29665), (241, 0), (241, 3), (241, 5), (241, 7), (241, 13), (253, 5), (281, 7), (289, 3), (289, 2651), (337, 3), (337, 5), (361, 3), (361, 5), (421, 0), (421, 9), (421, 18289), (481, 3), (505, 3), (561, 22033), (673, 3), (721, 3), (721, 5), (841, 0), (841, 5), (1009, 0), (1009, 21601), (1261, 18433), (1441, 3), (1441, 15), (1441, 17641), (1681, 0), (1681, 3), (1681, 7), (5041, 5), (10081, 3)]
theorem apPMulc0_seen : ∀ x ∈ apPMulc0, LineOK Tryz.prog 123 x.1 x.2 := ok_of apPMulb_ok (show Seen apPMulb_sp 123 apPMulc0 from by unfold Seen; kernel_rfl)
def apPMulc : List Line := apPMulc0
theorem apPMulc_seen : ∀ x ∈ apPMulc, LineOK Tryz.prog 123 x.1 x.2 := apPMulc0_seen
noncomputable def apPMulc_sp : Abs.Spec := lay apPMulb_sp 123 apPMulc
theorem apPMulc_ok : Ok apPMulc_sp := ok_lay apPMulb_ok apPMulc_seen
def apRMul0 : List Line := bin (· * ·) rN [(3, 3), (3, 5), (5, 5), (5, 7), (13, 7), (13, 9), (13, 13), (49, 11), (49, 49), (241, 13), (241, 15), (241, 241), (1441, 15), (1441, 23), (1441, 1441), (10081, 31), (10081, 10081)]
theorem apRMul0_seen : ∀ x ∈ apRMul0, LineOK Tryz.prog 32 x.1 x.2 := ok_of apPMulc_ok (show Seen apPMulc_sp 32 apRMul0 from by unfold Seen; kernel_rfl)
def apRMul : List Line := apRMul0
theorem apRMul_seen : ∀ x ∈ apRMul, LineOK Tryz.prog 32 x.1 x.2 := apRMul0_seen
noncomputable def apRMul_sp : Abs.Spec := lay apPMulc_sp 32 apRMul
theorem apRMul_ok : Ok apRMul_sp := ok_lay apPMulc_ok apRMul_seen
def apOf0 : List Line := ofs [0, 1, 2, 3, 4, 5, 6, 7]
theorem apOf0_seen : ∀ x ∈ apOf0, LineOK Tryz.prog 85 x.1 x.2 := ok_of apRMul_ok (show Seen apRMul_sp 85 apOf0 from by unfold Seen; kernel_rfl)
def apOf : List Line := apOf0
theorem apOf_seen : ∀ x ∈ apOf, LineOK Tryz.prog 85 x.1 x.2 := apOf0_seen
noncomputable def apOf_sp : Abs.Spec := lay apRMul_sp 85 apOf
theorem apOf_ok : Ok apOf_sp := ok_lay apRMul_ok apOf_seen
def apPovera0 : List Line := bin (· / ·) pN [(3, 3), (5, 3), (5, 5), (13, 3), (13, 5), (13, 7), (13, 13), (37, 13)]
theorem apPovera0_seen : ∀ x ∈ apPovera0, LineOK Tryz.prog 111 x.1 x.2 := ok_of apOf_ok (show Seen apOf_sp 111 apPovera0 from by unfold Seen; kernel_rfl)
def apPovera1 : List Line := bin (· / ·) pN [(49, 3), (49, 5), (49, 7), (49, 9), (49, 17), (49, 25), (49, 49), (241, 3)]
theorem apPovera1_seen : ∀ x ∈ apPovera1, LineOK Tryz.prog 111 x.1 x.2 := ok_of apOf_ok (show Seen apOf_sp 111 apPovera1 from by unfold Seen; kernel_rfl)
def apPovera2 : List Line := bin (· / ·) pN [(241, 9), (241, 11), (241, 13), (241, 17), (241, 25), (241, 41), (241, 49), (241, 61)]
theorem apPovera2_seen : ∀ x ∈ apPovera2, LineOK Tryz.prog 111 x.1 x.2 := ok_of apOf_ok (show Seen apOf_sp 111 apPovera2 from by unfold Seen; kernel_rfl)
def apPovera3 : List Line := bin (· / ·) pN [(241, 241), (1441, 3), (1441, 11), (1441, 13), (1441, 17), (1441, 19), (1441, 21), (1441, 33)]
theorem apPovera3_seen : ∀ x ∈ apPovera3, LineOK Tryz.prog 111 x.1 x.2 := ok_of apOf_ok (show Seen apOf_sp 111 apPovera3 from by unfold Seen; kernel_rfl)
def apPovera4 : List Line := bin (· / ·) pN [(1441, 37), (1441, 91), (1441, 97), (1441, 145), (1441, 161), (1441, 289), (1441, 1441), (10081, 3)]
theorem apPovera4_seen : ∀ x ∈ apPovera4, LineOK Tryz.prog 111 x.1 x.2 := ok_of apOf_ok (show Seen apOf_sp 111 apPovera4 from by unfold Seen; kernel_rfl)
def apPovera5 : List Line := bin (· / ·) pN [(10081, 13), (10081, 15), (10081, 17), (10081, 21), (10081, 25), (10081, 29), (10081, 31), (10081, 37)]
theorem apPovera5_seen : ∀ x ∈ apPovera5, LineOK Tryz.prog 111 x.1 x.2 := ok_of apOf_ok (show Seen apOf_sp 111 apPovera5 from by unfold Seen; kernel_rfl)
def apPovera : List Line := apPovera0 ++ apPovera1 ++ apPovera2 ++ apPovera3 ++ apPovera4 ++ apPovera5
theorem apPovera_seen : ∀ x ∈ apPovera, LineOK Tryz.prog 111 x.1 x.2 := (lines_append (lines_append (lines_append (lines_append (lines_append apPovera0_seen apPovera1_seen) apPovera2_seen) apPovera3_seen) apPovera4_seen) apPovera5_seen)
noncomputable def apPovera_sp : Abs.Spec := lay apOf_sp 111 apPovera
theorem apPovera_ok : Ok apPovera_sp := ok_lay apOf_ok apPovera_seen
end Go.Proofs.YtkedcelpadiakaaGreat
