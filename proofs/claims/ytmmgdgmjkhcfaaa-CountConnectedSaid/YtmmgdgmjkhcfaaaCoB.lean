/- Connected pairs and weights of the program. -/
import Derived.Test.YtmmgdgmjkhcfaaaCoA2
set_option linter.all false
namespace Go.Proofs.Ytmmgdgmjkhcfaaa
open Go Go.Abs
/-- Answers with OK: a number; a rate. -/
def okR (z : Int) : Res := match dZ z with
  | [] => (.tuple #[nilV, posV 0], [])
  | l => (.tuple #[sliceA 0 0 l.length 1, posV 0], [l])
def rtR (a b : Int) : Value × List (List Value) := match dZ a with
  | [] => (.agg #[nilV, sliceA 0 0 (dZ b).length 1], [dZ b])
  | l => (.agg #[sliceA 0 0 l.length 1, sliceA 1 0 (dZ b).length 1], [l, dZ b])
def okW (a b : Int) : Res := (.tuple #[(rtR a b).1, posV 0], (rtR a b).2)
def rrtR (a b : Int) : Res := (.agg #[sliceA 0 0 (dZ a).length 1, sliceA 1 0 (dZ b).length 1], [dZ a, dZ b])
def coBin0 : List Line := [([i 0, i 0], pN 1), ([i 1, i 0], pN 1), ([i 1, i 1], pN 1), ([i 2, i 0], pN 1), ([i 2, i 1], pN 2), ([i 2, i 2], pN 1), ([i 3, i 0], pN 1), ([i 3, i 1], pN 3), ([i 3, i 2], pN 3), ([i 3, i 3], pN 1), ([i 4, i 0], pN 1), ([i 4, i 1], pN 4), ([i 4, i 2], pN 6), ([i 4, i 3], pN 4), ([i 4, i 4], pN 1), ([i 5, i 0], pN 1), ([i 5, i 1], pN 5), ([i 5, i 2], pN 10), ([i 5, i 3], pN 10), ([i 5, i 4], pN 5), ([i 5, i 5], pN 1), ([i 6, i 0], pN 1), ([i 6, i 1], pN 6), ([i 6, i 2], pN 15), ([i 6, i 3], pN 20), ([i 6, i 4], pN 15), ([i 6, i 5], pN 6), ([i 6, i 6], pN 1)]
theorem coBin0_seen : ∀ x ∈ coBin0, LineOK Try.prog 106 x.1 x.2 := ok_of coRGcd_ok (show Seen coRGcd_sp 106 coBin0 from by unfold Seen; kernel_rfl)
def coBin : List Line := coBin0
theorem coBin_seen : ∀ x ∈ coBin, LineOK Try.prog 106 x.1 x.2 := coBin0_seen
noncomputable def coBin_sp : Abs.Spec := lay coRGcd_sp 106 coBin
theorem coBin_ok : Ok coBin_sp := ok_lay coRGcd_ok coBin_seen
def coConn0 : List Line := [([L [1]], okR (1)), ([L [2]], okR (0)), ([L [1,1]], okR (3)), ([L [3]], okR (18)), ([L [2,1]], okR (0)), ([L [1,1,1]], okR (8))]
theorem coConn0_seen : ∀ x ∈ coConn0, LineOK Try.prog 23 x.1 x.2 := ok_of coBin_ok (show Seen coBin_sp 23 coConn0 from by unfold Seen; kernel_rfl)
def coConn1 : List Line := [([L [4]], okR (0)), ([L [3,1]], okR (216)), ([L [2,2]], okR (168)), ([L [2,1,1]], okR (0)), ([L [1,1,1,1]], okR (42)), ([L [5]], okR (4800))]
theorem coConn1_seen : ∀ x ∈ coConn1, LineOK Try.prog 23 x.1 x.2 := ok_of coBin_ok (show Seen coBin_sp 23 coConn1 from by unfold Seen; kernel_rfl)
def coConn2 : List Line := [([L [4,1]], okR (0)), ([L [3,2]], okR (0)), ([L [3,1,1]], okR (3240)), ([L [2,2,1]], okR (2880)), ([L [2,1,1,1]], okR (0)), ([L [1,1,1,1,1]], okR (144))]
theorem coConn2_seen : ∀ x ∈ coConn2, LineOK Try.prog 23 x.1 x.2 := ok_of coBin_ok (show Seen coBin_sp 23 coConn2 from by unfold Seen; kernel_rfl)
def coConn3 : List Line := [([L [6]], okR (0)), ([L [5,1]], okR (162000)), ([L [4,2]], okR (92160)), ([L [4,1,1]], okR (0)), ([L [3,3]], okR (68040)), ([L [3,2,1]], okR (0))]
theorem coConn3_seen : ∀ x ∈ coConn3, LineOK Try.prog 23 x.1 x.2 := ok_of coBin_ok (show Seen coBin_sp 23 coConn3 from by unfold Seen; kernel_rfl)
def coConn4 : List Line := [([L [3,1,1,1]], okR (32400)), ([L [2,2,2]], okR (0)), ([L [2,2,1,1]], okR (57600)), ([L [2,1,1,1,1]], okR (0)), ([L [1,1,1,1,1,1]], okR (1440)), ([L [7]], okR (6350400))]
theorem coConn4_seen : ∀ x ∈ coConn4, LineOK Try.prog 23 x.1 x.2 := ok_of coBin_ok (show Seen coBin_sp 23 coConn4 from by unfold Seen; kernel_rfl)
def coConn5 : List Line := [([L [6,1]], okR (0)), ([L [5,2]], okR (0)), ([L [5,1,1]], okR (3906000)), ([L [4,3]], okR (0)), ([L [4,2,1]], okR (5160960)), ([L [4,1,1,1]], okR (0))]
theorem coConn5_seen : ∀ x ∈ coConn5, LineOK Try.prog 23 x.1 x.2 := ok_of coBin_ok (show Seen coBin_sp 23 coConn5 from by unfold Seen; kernel_rfl)
def coConn6 : List Line := [([L [3,3,1]], okR (2449440)), ([L [3,2,2]], okR (1814400)), ([L [3,2,1,1]], okR (0)), ([L [3,1,1,1,1]], okR (453600)), ([L [2,2,2,1]], okR (0)), ([L [2,2,1,1,1]], okR (806400))]
theorem coConn6_seen : ∀ x ∈ coConn6, LineOK Try.prog 23 x.1 x.2 := ok_of coBin_ok (show Seen coBin_sp 23 coConn6 from by unfold Seen; kernel_rfl)
def coConn7 : List Line := [([L [2,1,1,1,1,1]], okR (0)), ([L [1,1,1,1,1,1,1]], okR (5760))]
theorem coConn7_seen : ∀ x ∈ coConn7, LineOK Try.prog 23 x.1 x.2 := ok_of coBin_ok (show Seen coBin_sp 23 coConn7 from by unfold Seen; kernel_rfl)
def coConn : List Line := coConn0 ++ coConn1 ++ coConn2 ++ coConn3 ++ coConn4 ++ coConn5 ++ coConn6 ++ coConn7
theorem coConn_seen : ∀ x ∈ coConn, LineOK Try.prog 23 x.1 x.2 := (lines_append (lines_append (lines_append (lines_append (lines_append (lines_append (lines_append coConn0_seen coConn1_seen) coConn2_seen) coConn3_seen) coConn4_seen) coConn5_seen) coConn6_seen) coConn7_seen)
noncomputable def coConn_sp : Abs.Spec := lay coBin_sp 23 coConn
theorem coConn_ok : Ok coConn_sp := ok_lay coBin_ok coConn_seen
def coWt0 : List Line := [([L [1]], okW (1) (1)), ([L [2]], okW (0) (1)), ([L [1,1]], okW (3) (2)), ([L [3]], okW (3) (1)), ([L [2,1]], okW (0) (1)), ([L [1,1,1]], okW (4) (3)), ([L [4]], okW (0) (1)), ([L [3,1]], okW (9) (1)), ([L [2,2]], okW (7) (1)), ([L [2,1,1]], okW (0) (1)), ([L [1,1,1,1]], okW (7) (4)), ([L [5]], okW (40) (1)), ([L [4,1]], okW (0) (1)), ([L [3,2]], okW (0) (1)), ([L [3,1,1]], okW (27) (1)), ([L [2,2,1]], okW (24) (1)), ([L [2,1,1,1]], okW (0) (1)), ([L [1,1,1,1,1]], okW (6) (5)), ([L [6]], okW (0) (1)), ([L [5,1]], okW (225) (1))]
theorem coWt0_seen : ∀ x ∈ coWt0, LineOK Try.prog 24 x.1 x.2 := ok_of coConn_ok (show Seen coConn_sp 24 coWt0 from by unfold Seen; kernel_rfl)
def coWt1 : List Line := [([L [4,2]], okW (128) (1)), ([L [4,1,1]], okW (0) (1)), ([L [3,3]], okW (189) (2)), ([L [3,2,1]], okW (0) (1)), ([L [3,1,1,1]], okW (45) (1)), ([L [2,2,2]], okW (0) (1)), ([L [2,2,1,1]], okW (80) (1)), ([L [2,1,1,1,1]], okW (0) (1)), ([L [1,1,1,1,1,1]], okW (2) (1)), ([L [7]], okW (1260) (1)), ([L [6,1]], okW (0) (1)), ([L [5,2]], okW (0) (1)), ([L [5,1,1]], okW (775) (1)), ([L [4,3]], okW (0) (1)), ([L [4,2,1]], okW (1024) (1)), ([L [4,1,1,1]], okW (0) (1)), ([L [3,3,1]], okW (486) (1)), ([L [3,2,2]], okW (360) (1)), ([L [3,2,1,1]], okW (0) (1)), ([L [3,1,1,1,1]], okW (90) (1))]
theorem coWt1_seen : ∀ x ∈ coWt1, LineOK Try.prog 24 x.1 x.2 := ok_of coConn_ok (show Seen coConn_sp 24 coWt1 from by unfold Seen; kernel_rfl)
def coWt2 : List Line := [([L [2,2,2,1]], okW (0) (1)), ([L [2,2,1,1,1]], okW (160) (1)), ([L [2,1,1,1,1,1]], okW (0) (1)), ([L [1,1,1,1,1,1,1]], okW (8) (7))]
theorem coWt2_seen : ∀ x ∈ coWt2, LineOK Try.prog 24 x.1 x.2 := ok_of coConn_ok (show Seen coConn_sp 24 coWt2 from by unfold Seen; kernel_rfl)
def coWt : List Line := coWt0 ++ coWt1 ++ coWt2
theorem coWt_seen : ∀ x ∈ coWt, LineOK Try.prog 24 x.1 x.2 := (lines_append (lines_append coWt0_seen coWt1_seen) coWt2_seen)
noncomputable def coWt_sp : Abs.Spec := lay coConn_sp 24 coWt
theorem coWt_ok : Ok coWt_sp := ok_lay coConn_ok coWt_seen
end Go.Proofs.Ytmmgdgmjkhcfaaa
