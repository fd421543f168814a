/- Of the law: texts of its proof, joined (part 35). -/
import Derived.Test.YtkedcelpadiakaaGreatQtp34
set_option linter.all false
namespace Go.Proofs.YtkedcelpadiakaaGreat
open Go Go.Abs
def lab5 : List Line := (lab5_0 ++ (lab5_1 ++ (lab5_2 ++ (lab5_3 ++ (lab5_4 ++ (lab5_5 ++ (lab5_6 ++ (lab5_7 ++ (lab5_8 ++ (lab5_9 ++ (lab5_10 ++ (lab5_11 ++ (lab5_12 ++ (lab5_13 ++ (lab5_14 ++ (lab5_15 ++ (lab5_16 ++ (lab5_17 ++ (lab5_18 ++ (lab5_19 ++ lab5_20))))))))))))))))))))
theorem lab5_all : ∀ x ∈ lab5, LineOK Tryz.prog 21 x.1 x.2 := (lines_append lab5_0_all (lines_append lab5_1_all (lines_append lab5_2_all (lines_append lab5_3_all (lines_append lab5_4_all (lines_append lab5_5_all (lines_append lab5_6_all (lines_append lab5_7_all (lines_append lab5_8_all (lines_append lab5_9_all (lines_append lab5_10_all (lines_append lab5_11_all (lines_append lab5_12_all (lines_append lab5_13_all (lines_append lab5_14_all (lines_append lab5_15_all (lines_append lab5_16_all (lines_append lab5_17_all (lines_append lab5_18_all (lines_append lab5_19_all lab5_20_all))))))))))))))))))))
end Go.Proofs.YtkedcelpadiakaaGreat
