/- Of the law: texts of its proof, joined (part 38). -/
import Derived.Test.YtkedcelpadiakaaGreatQwg30
import Derived.Test.YtkedcelpadiakaaGreatQwg31
import Derived.Test.YtkedcelpadiakaaGreatQwg36
import Derived.Test.YtkedcelpadiakaaGreatQwg37
set_option linter.all false
namespace Go.Proofs.YtkedcelpadiakaaGreat
open Go Go.Abs Go.Num
def cS : List Key2 := []
theorem cL : LineOK Tryz.prog 14 [.li (ints [])] (clsS cS) := cls_of (noSpec_good _) cP (by kernel_rfl) (by kernel_rfl) (by kernel_rfl) (by kernel_rfl) (by kernel_rfl)
def cS1 : List Key2 := [([0], [0])]
theorem cL1 : LineOK Tryz.prog 14 [.li (ints [1])] (clsS cS1) := cls_of (noSpec_good _) cP1 (by kernel_rfl) (by kernel_rfl) (by kernel_rfl) (by kernel_rfl) (by kernel_rfl)
def cS2 : List Key2 := []
theorem cL2 : LineOK Tryz.prog 14 [.li (ints [2])] (clsS cS2) := cls_of (noSpec_good _) cP2 (by kernel_rfl) (by kernel_rfl) (by kernel_rfl) (by kernel_rfl) (by kernel_rfl)
def cS11 : List Key2 := [([0, 1], [1, 0]), ([1, 0], [0, 1]), ([1, 0], [1, 0])]
theorem cL11 : LineOK Tryz.prog 14 [.li (ints [1, 1])] (clsS cS11) := cls_of (noSpec_good _) cP11 (by kernel_rfl) (by kernel_rfl) (by kernel_rfl) (by kernel_rfl) (by kernel_rfl)
def cS3 : List Key2 := [([0, 2, 1], [1, 0, 2]), ([0, 2, 1], [1, 2, 0]), ([1, 2, 0], [0, 2, 1])]
theorem cL3 : LineOK Tryz.prog 14 [.li (ints [3])] (clsS cS3) := cls_of (noSpec_good _) cP3 (by kernel_rfl) (by kernel_rfl) (by kernel_rfl) (by kernel_rfl) (by kernel_rfl)
def cS21 : List Key2 := []
theorem cL21 : LineOK Tryz.prog 14 [.li (ints [2, 1])] (clsS cS21) := cls_of (noSpec_good _) cP21 (by kernel_rfl) (by kernel_rfl) (by kernel_rfl) (by kernel_rfl) (by kernel_rfl)
def cS111 : List Key2 := [([0, 1, 2], [1, 2, 0]), ([1, 2, 0], [0, 1, 2]), ([1, 2, 0], [1, 2, 0]), ([1, 2, 0], [2, 0, 1])]
theorem cL111 : LineOK Tryz.prog 14 [.li (ints [1, 1, 1])] (clsS cS111) := cls_of (noSpec_good _) cP111 (by kernel_rfl) (by kernel_rfl) (by kernel_rfl) (by kernel_rfl) (by kernel_rfl)
def cS4 : List Key2 := []
theorem cL4 : LineOK Tryz.prog 14 [.li (ints [4])] (clsS cS4) := cls_of spC4_ok cP4 (by kernel_rfl) (by kernel_rfl) (by kernel_rfl) (by kernel_rfl) (by kernel_rfl)
def cS31 : List Key2 := [([0, 1, 3, 2], [1, 2, 0, 3]), ([0, 1, 3, 2], [1, 2, 3, 0]), ([0, 2, 3, 1], [1, 0, 2, 3]), ([0, 2, 3, 1], [1, 2, 3, 0]), ([0, 2, 3, 1], [1, 3, 0, 2]), ([1, 2, 3, 0], [0, 1, 3, 2]), ([1, 2, 3, 0], [0, 2, 3, 1]), ([1, 2, 3, 0], [0, 3, 1, 2]), ([1, 2, 3, 0], [1, 3, 0, 2])]
theorem cL31 : LineOK Tryz.prog 14 [.li (ints [3, 1])] (clsS cS31) := cls_of spC4_ok cP31 (by kernel_rfl) (by kernel_rfl) (by kernel_rfl) (by kernel_rfl) (by kernel_rfl)
def cS22 : List Key2 := [([0, 2, 1, 3], [1, 0, 3, 2]), ([0, 2, 1, 3], [1, 3, 0, 2]), ([0, 2, 3, 1], [1, 0, 3, 2]), ([0, 2, 3, 1], [1, 2, 0, 3]), ([0, 2, 3, 1], [1, 3, 2, 0]), ([1, 0, 3, 2], [0, 2, 1, 3]), ([1, 0, 3, 2], [0, 2, 3, 1]), ([1, 0, 3, 2], [1, 2, 3, 0]), ([1, 2, 3, 0], [0, 3, 2, 1]), ([1, 2, 3, 0], [1, 0, 3, 2])]
theorem cL22 : LineOK Tryz.prog 14 [.li (ints [2, 2])] (clsS cS22) := cls_of spC4_ok cP22 (by kernel_rfl) (by kernel_rfl) (by kernel_rfl) (by kernel_rfl) (by kernel_rfl)
def cS211 : List Key2 := []
theorem cL211 : LineOK Tryz.prog 14 [.li (ints [2, 1, 1])] (clsS cS211) := cls_of spC4_ok cP211 (by kernel_rfl) (by kernel_rfl) (by kernel_rfl) (by kernel_rfl) (by kernel_rfl)
def cS1111 : List Key2 := [([0, 1, 2, 3], [1, 2, 3, 0]), ([1, 0, 3, 2], [2, 3, 0, 1]), ([1, 0, 3, 2], [2, 3, 1, 0]), ([1, 2, 3, 0], [0, 1, 2, 3]), ([1, 2, 3, 0], [1, 2, 3, 0]), ([1, 2, 3, 0], [2, 3, 0, 1]), ([1, 3, 0, 2], [2, 0, 3, 1])]
theorem cL1111 : LineOK Tryz.prog 14 [.li (ints [1, 1, 1, 1])] (clsS cS1111) := cls_of spC4_ok cP1111 (by kernel_rfl) (by kernel_rfl) (by kernel_rfl) (by kernel_rfl) (by kernel_rfl)
def cS5 : List Key2 := [([0, 2, 1, 4, 3], [1, 0, 3, 2, 4]), ([0, 2, 1, 4, 3], [1, 0, 3, 4, 2]), ([0, 2, 1, 4, 3], [1, 2, 3, 0, 4]), ([0, 2, 1, 4, 3], [1, 2, 3, 4, 0]), ([0, 2, 1, 4, 3], [1, 3, 0, 2, 4]), ([0, 2, 1, 4, 3], [1, 3, 0, 4, 2]), ([0, 2, 1, 4, 3], [1, 3, 2, 0, 4]), ([0, 2, 1, 4, 3], [1, 3, 2, 4, 0]), ([0, 2, 3, 1, 4], [1, 0, 2, 4, 3]), ([0, 2, 3, 1, 4], [1, 0, 3, 4, 2]), ([0, 2, 3, 1, 4], [1, 0, 4, 2, 3]), ([0, 2, 3, 1, 4], [1, 2, 4, 0, 3]), ([0, 2, 3, 1, 4], [1, 3, 0, 4, 2]), ([0, 2, 3, 4, 1], [1, 0, 2, 4, 3]), ([0, 2, 3, 4, 1], [1, 0, 3, 2, 4]), ([0, 2, 3, 4, 1], [1, 0, 4, 3, 2]), ([0, 2, 3, 4, 1], [1, 2, 0, 4, 3]), ([0, 2, 3, 4, 1], [1, 2, 4, 0, 3]), ([0, 2, 3, 4, 1], [1, 2, 4, 3, 0]), ([0, 2, 3, 4, 1], [1, 3, 0, 2, 4]), ([0, 2, 3, 4, 1], [1, 3, 2, 0, 4]), ([0, 2, 3, 4, 1], [1, 3, 2, 4, 0]), ([0, 2, 4, 1, 3], [1, 3, 0, 2, 4]), ([0, 2, 4, 1, 3], [1, 3, 4, 0, 2]), ([0, 2, 4, 1, 3], [1, 3, 4, 2, 0]), ([0, 2, 4, 3, 1], [1, 3, 0, 2, 4]), ([1, 0, 3, 4, 2], [0, 2, 1, 4, 3]), ([1, 0, 3, 4, 2], [0, 2, 3, 1, 4]), ([1, 0, 3, 4, 2], [0, 2, 4, 3, 1]), ([1, 0, 3, 4, 2], [1, 2, 0, 4, 3]), ([1, 0, 3, 4, 2], [1, 2, 3, 0, 4]), ([1, 0, 3, 4, 2], [1, 2, 4, 3, 0]), ([1, 2, 3, 4, 0], [0, 2, 1, 4, 3]), ([1, 2, 3, 4, 0], [0, 2, 4, 1, 3]), ([1, 2, 3, 4, 0], [0, 2, 4, 3, 1]), ([1, 2, 3, 4, 0], [0, 3, 1, 4, 2]), ([1, 2, 3, 4, 0], [1, 0, 4, 3, 2]), ([1, 2, 3, 4, 0], [1, 3, 0, 4, 2]), ([1, 2, 3, 4, 0], [2, 0, 4, 1, 3]), ([1, 2, 4, 0, 3], [0, 3, 1, 2, 4])]
def cE5 : List Key2 := [([0, 2, 1, 4, 3], [1, 0, 3, 2, 4]), ([0, 2, 1, 4, 3], [1, 3, 2, 4, 0]), ([0, 2, 1, 4, 3], [1, 3, 0, 2, 4]), ([0, 2, 1, 4, 3], [1, 3, 2, 0, 4]), ([0, 2, 1, 4, 3], [1, 2, 3, 0, 4]), ([0, 2, 1, 4, 3], [1, 0, 3, 4, 2]), ([0, 2, 1, 4, 3], [1, 2, 3, 4, 0]), ([0, 2, 1, 4, 3], [1, 3, 0, 4, 2]), ([0, 2, 3, 1, 4], [1, 0, 2, 4, 3]), ([0, 2, 4, 3, 1], [1, 3, 0, 2, 4]), ([0, 2, 3, 1, 4], [1, 0, 3, 4, 2]), ([0, 2, 3, 1, 4], [1, 2, 4, 0, 3]), ([0, 2, 3, 1, 4], [1, 3, 0, 4, 2]), ([0, 2, 3, 1, 4], [1, 0, 4, 2, 3]), ([1, 0, 3, 4, 2], [0, 2, 3, 1, 4]), ([1, 0, 3, 4, 2], [1, 2, 3, 0, 4]), ([1, 0, 3, 4, 2], [0, 2, 4, 3, 1]), ([1, 0, 3, 4, 2], [1, 2, 4, 3, 0]), ([1, 0, 3, 4, 2], [0, 2, 1, 4, 3]), ([1, 0, 3, 4, 2], [1, 2, 0, 4, 3]), ([0, 2, 3, 4, 1], [1, 0, 2, 4, 3]), ([0, 2, 3, 4, 1], [1, 3, 2, 4, 0]), ([0, 2, 4, 1, 3], [1, 3, 0, 2, 4]), ([0, 2, 3, 4, 1], [1, 3, 2, 0, 4]), ([0, 2, 3, 4, 1], [1, 0, 4, 3, 2]), ([0, 2, 3, 4, 1], [1, 3, 0, 2, 4]), ([0, 2, 3, 4, 1], [1, 2, 4, 3, 0]), ([0, 2, 3, 4, 1], [1, 0, 3, 2, 4]), ([0, 2, 3, 4, 1], [1, 2, 0, 4, 3]), ([0, 2, 4, 1, 3], [1, 3, 4, 0, 2]), ([0, 2, 3, 4, 1], [1, 2, 4, 0, 3]), ([0, 2, 4, 1, 3], [1, 3, 4, 2, 0]), ([1, 2, 3, 4, 0], [0, 2, 1, 4, 3]), ([1, 2, 3, 4, 0], [0, 2, 4, 1, 3]), ([1, 2, 3, 4, 0], [0, 2, 4, 3, 1]), ([1, 2, 3, 4, 0], [0, 3, 1, 4, 2]), ([1, 2, 4, 0, 3], [0, 3, 1, 2, 4]), ([1, 2, 3, 4, 0], [1, 0, 4, 3, 2]), ([1, 2, 3, 4, 0], [1, 3, 0, 4, 2]), ([1, 2, 3, 4, 0], [2, 0, 4, 1, 3])]
theorem cL5 : LineOK Tryz.prog 14 [.li (ints [5])] (clsS cS5) := cls5_of (E := cE5) (by kernel_rfl) (by kernel_rfl) (by kernel_rfl) (by kernel_rfl) (by kernel_rfl) (by kernel_rfl) (by kernel_rfl) (by kernel_rfl)
def cS41 : List Key2 := []
def cE41 : List Key2 := []
theorem cL41 : LineOK Tryz.prog 14 [.li (ints [4, 1])] (clsS cS41) := cls5_of (E := cE41) (by kernel_rfl) (by kernel_rfl) (by kernel_rfl) (by kernel_rfl) (by kernel_rfl) (by kernel_rfl) (by kernel_rfl) (by kernel_rfl)
def cS32 : List Key2 := []
def cE32 : List Key2 := []
theorem cL32 : LineOK Tryz.prog 14 [.li (ints [3, 2])] (clsS cS32) := cls5_of (E := cE32) (by kernel_rfl) (by kernel_rfl) (by kernel_rfl) (by kernel_rfl) (by kernel_rfl) (by kernel_rfl) (by kernel_rfl) (by kernel_rfl)
def cS311 : List Key2 := [([0, 1, 2, 4, 3], [1, 2, 3, 0, 4]), ([0, 1, 2, 4, 3], [1, 2, 3, 4, 0]), ([0, 1, 3, 4, 2], [1, 2, 0, 3, 4]), ([0, 1, 3, 4, 2], [1, 2, 3, 4, 0]), ([0, 1, 3, 4, 2], [1, 2, 4, 0, 3]), ([0, 2, 1, 4, 3], [1, 3, 4, 0, 2]), ([0, 2, 1, 4, 3], [1, 3, 4, 2, 0]), ([0, 2, 3, 4, 1], [1, 0, 2, 3, 4]), ([0, 2, 3, 4, 1], [1, 2, 3, 4, 0]), ([0, 2, 3, 4, 1], [1, 3, 4, 0, 2]), ([0, 2, 4, 1, 3], [1, 3, 0, 4, 2]), ([1, 0, 3, 4, 2], [2, 3, 0, 1, 4]), ([1, 0, 3, 4, 2], [2, 3, 0, 4, 1]), ([1, 0, 3, 4, 2], [2, 3, 1, 0, 4]), ([1, 0, 3, 4, 2], [2, 3, 1, 4, 0]), ([1, 0, 3, 4, 2], [2, 3, 4, 0, 1]), ([1, 0, 3, 4, 2], [2, 3, 4, 1, 0]), ([1, 2, 3, 4, 0], [0, 1, 2, 4, 3]), ([1, 2, 3, 4, 0], [0, 1, 3, 4, 2]), ([1, 2, 3, 4, 0], [0, 1, 4, 2, 3]), ([1, 2, 3, 4, 0], [0, 2, 3, 4, 1]), ([1, 2, 3, 4, 0], [0, 3, 4, 1, 2]), ([1, 2, 3, 4, 0], [1, 2, 4, 0, 3]), ([1, 2, 3, 4, 0], [1, 3, 4, 0, 2]), ([1, 2, 4, 0, 3], [0, 3, 1, 4, 2]), ([1, 2, 4, 0, 3], [1, 3, 0, 4, 2]), ([1, 2, 4, 0, 3], [2, 3, 0, 4, 1])]
def cE311 : List Key2 := [([0, 1, 2, 4, 3], [1, 2, 3, 0, 4]), ([0, 1, 2, 4, 3], [1, 2, 3, 4, 0]), ([0, 2, 1, 4, 3], [1, 3, 4, 0, 2]), ([0, 2, 1, 4, 3], [1, 3, 4, 2, 0]), ([0, 1, 3, 4, 2], [1, 2, 0, 3, 4]), ([0, 1, 3, 4, 2], [1, 2, 3, 4, 0]), ([0, 1, 3, 4, 2], [1, 2, 4, 0, 3]), ([1, 0, 3, 4, 2], [2, 3, 0, 1, 4]), ([1, 0, 3, 4, 2], [2, 3, 1, 0, 4]), ([1, 0, 3, 4, 2], [2, 3, 0, 4, 1]), ([1, 0, 3, 4, 2], [2, 3, 1, 4, 0]), ([1, 0, 3, 4, 2], [2, 3, 4, 0, 1]), ([1, 0, 3, 4, 2], [2, 3, 4, 1, 0]), ([0, 2, 3, 4, 1], [1, 0, 2, 3, 4]), ([0, 2, 3, 4, 1], [1, 2, 3, 4, 0]), ([0, 2, 3, 4, 1], [1, 3, 4, 0, 2]), ([0, 2, 4, 1, 3], [1, 3, 0, 4, 2]), ([1, 2, 3, 4, 0], [0, 1, 2, 4, 3]), ([1, 2, 3, 4, 0], [0, 1, 3, 4, 2]), ([1, 2, 3, 4, 0], [0, 1, 4, 2, 3]), ([1, 2, 3, 4, 0], [0, 2, 3, 4, 1]), ([1, 2, 3, 4, 0], [0, 3, 4, 1, 2]), ([1, 2, 4, 0, 3], [0, 3, 1, 4, 2]), ([1, 2, 3, 4, 0], [1, 2, 4, 0, 3]), ([1, 2, 3, 4, 0], [1, 3, 4, 0, 2]), ([1, 2, 4, 0, 3], [1, 3, 0, 4, 2]), ([1, 2, 4, 0, 3], [2, 3, 0, 4, 1])]
theorem cL311 : LineOK Tryz.prog 14 [.li (ints [3, 1, 1])] (clsS cS311) := cls5_of (E := cE311) (by kernel_rfl) (by kernel_rfl) (by kernel_rfl) (by kernel_rfl) (by kernel_rfl) (by kernel_rfl) (by kernel_rfl) (by kernel_rfl)
def cS221 : List Key2 := [([0, 1, 3, 2, 4], [1, 2, 0, 4, 3]), ([0, 1, 3, 2, 4], [1, 2, 4, 0, 3]), ([0, 1, 3, 4, 2], [1, 2, 0, 4, 3]), ([0, 1, 3, 4, 2], [1, 2, 3, 0, 4]), ([0, 1, 3, 4, 2], [1, 2, 4, 3, 0]), ([0, 2, 3, 4, 1], [1, 0, 3, 4, 2]), ([0, 2, 3, 4, 1], [1, 0, 4, 2, 3]), ([0, 2, 3, 4, 1], [1, 2, 0, 3, 4]), ([0, 2, 3, 4, 1], [1, 2, 3, 0, 4]), ([0, 2, 3, 4, 1], [1, 3, 0, 4, 2]), ([0, 2, 3, 4, 1], [1, 3, 4, 2, 0]), ([0, 2, 4, 1, 3], [1, 3, 2, 0, 4]), ([0, 2, 4, 1, 3], [1, 3, 2, 4, 0]), ([1, 0, 3, 4, 2], [0, 2, 1, 3, 4]), ([1, 0, 3, 4, 2], [0, 2, 3, 4, 1]), ([1, 0, 3, 4, 2], [0, 2, 4, 1, 3]), ([1, 0, 3, 4, 2], [1, 2, 0, 3, 4]), ([1, 0, 3, 4, 2], [1, 2, 3, 4, 0]), ([1, 0, 3, 4, 2], [1, 2, 4, 0, 3]), ([1, 2, 3, 4, 0], [0, 1, 4, 3, 2]), ([1, 2, 3, 4, 0], [0, 3, 4, 2, 1]), ([1, 2, 3, 4, 0], [1, 0, 3, 4, 2]), ([1, 2, 3, 4, 0], [1, 0, 4, 2, 3]), ([1, 2, 4, 0, 3], [0, 3, 4, 2, 1])]
def cE221 : List Key2 := [([0, 1, 3, 2, 4], [1, 2, 0, 4, 3]), ([0, 1, 3, 2, 4], [1, 2, 4, 0, 3]), ([0, 1, 3, 4, 2], [1, 2, 3, 0, 4]), ([0, 1, 3, 4, 2], [1, 2, 4, 3, 0]), ([0, 1, 3, 4, 2], [1, 2, 0, 4, 3]), ([1, 0, 3, 4, 2], [0, 2, 1, 3, 4]), ([1, 0, 3, 4, 2], [1, 2, 0, 3, 4]), ([1, 0, 3, 4, 2], [0, 2, 3, 4, 1]), ([1, 0, 3, 4, 2], [1, 2, 3, 4, 0]), ([1, 0, 3, 4, 2], [0, 2, 4, 1, 3]), ([1, 0, 3, 4, 2], [1, 2, 4, 0, 3]), ([0, 2, 3, 4, 1], [1, 2, 0, 3, 4]), ([0, 2, 4, 1, 3], [1, 3, 2, 0, 4]), ([0, 2, 3, 4, 1], [1, 2, 3, 0, 4]), ([0, 2, 4, 1, 3], [1, 3, 2, 4, 0]), ([0, 2, 3, 4, 1], [1, 0, 3, 4, 2]), ([0, 2, 3, 4, 1], [1, 3, 0, 4, 2]), ([0, 2, 3, 4, 1], [1, 0, 4, 2, 3]), ([0, 2, 3, 4, 1], [1, 3, 4, 2, 0]), ([1, 2, 3, 4, 0], [0, 1, 4, 3, 2]), ([1, 2, 3, 4, 0], [0, 3, 4, 2, 1]), ([1, 2, 4, 0, 3], [0, 3, 4, 2, 1]), ([1, 2, 3, 4, 0], [1, 0, 3, 4, 2]), ([1, 2, 3, 4, 0], [1, 0, 4, 2, 3])]
theorem cL221 : LineOK Tryz.prog 14 [.li (ints [2, 2, 1])] (clsS cS221) := cls5_of (E := cE221) (by kernel_rfl) (by kernel_rfl) (by kernel_rfl) (by kernel_rfl) (by kernel_rfl) (by kernel_rfl) (by kernel_rfl) (by kernel_rfl)
def cS2111 : List Key2 := []
def cE2111 : List Key2 := []
theorem cL2111 : LineOK Tryz.prog 14 [.li (ints [2, 1, 1, 1])] (clsS cS2111) := cls5_of (E := cE2111) (by kernel_rfl) (by kernel_rfl) (by kernel_rfl) (by kernel_rfl) (by kernel_rfl) (by kernel_rfl) (by kernel_rfl) (by kernel_rfl)
def cS11111 : List Key2 := [([0, 1, 2, 3, 4], [1, 2, 3, 4, 0]), ([1, 2, 3, 4, 0], [0, 1, 2, 3, 4]), ([1, 2, 3, 4, 0], [1, 2, 3, 4, 0]), ([1, 2, 3, 4, 0], [2, 3, 4, 0, 1]), ([1, 3, 0, 4, 2], [2, 0, 4, 1, 3]), ([1, 3, 4, 2, 0], [2, 4, 1, 0, 3])]
def cE11111 : List Key2 := [([0, 1, 2, 3, 4], [1, 2, 3, 4, 0]), ([1, 2, 3, 4, 0], [0, 1, 2, 3, 4]), ([1, 2, 3, 4, 0], [1, 2, 3, 4, 0]), ([1, 2, 3, 4, 0], [2, 3, 4, 0, 1]), ([1, 3, 4, 2, 0], [2, 4, 1, 0, 3]), ([1, 3, 0, 4, 2], [2, 0, 4, 1, 3])]
theorem cL11111 : LineOK Tryz.prog 14 [.li (ints [1, 1, 1, 1, 1])] (clsS cS11111) := cls5_of (E := cE11111) (by kernel_rfl) (by kernel_rfl) (by kernel_rfl) (by kernel_rfl) (by kernel_rfl) (by kernel_rfl) (by kernel_rfl) (by kernel_rfl)
def clsL : List Line := [([.li (ints [])], clsS cS), ([.li (ints [1])], clsS cS1), ([.li (ints [2])], clsS cS2), ([.li (ints [1, 1])], clsS cS11), ([.li (ints [3])], clsS cS3), ([.li (ints [2, 1])], clsS cS21), ([.li (ints [1, 1, 1])], clsS cS111), ([.li (ints [4])], clsS cS4), ([.li (ints [3, 1])], clsS cS31), ([.li (ints [2, 2])], clsS cS22), ([.li (ints [2, 1, 1])], clsS cS211), ([.li (ints [1, 1, 1, 1])], clsS cS1111), ([.li (ints [5])], clsS cS5), ([.li (ints [4, 1])], clsS cS41), ([.li (ints [3, 2])], clsS cS32), ([.li (ints [3, 1, 1])], clsS cS311), ([.li (ints [2, 2, 1])], clsS cS221), ([.li (ints [2, 1, 1, 1])], clsS cS2111), ([.li (ints [1, 1, 1, 1, 1])], clsS cS11111)]
theorem clsL_all : ∀ x ∈ clsL, LineOK Tryz.prog 14 x.1 x.2 := by
  intro x hx
  simp only [clsL, List.mem_cons, List.not_mem_nil, or_false] at hx
  rcases hx with rfl | rfl | rfl | rfl | rfl | rfl | rfl | rfl | rfl | rfl | rfl | rfl | rfl | rfl | rfl | rfl | rfl | rfl | rfl
  · exact cL
  · exact cL1
  · exact cL2
  · exact cL11
  · exact cL3
  · exact cL21
  · exact cL111
  · exact cL4
  · exact cL31
  · exact cL22
  · exact cL211
  · exact cL1111
  · exact cL5
  · exact cL41
  · exact cL32
  · exact cL311
  · exact cL221
  · exact cL2111
  · exact cL11111
end Go.Proofs.YtkedcelpadiakaaGreat
namespace Go.Proofs.YtkedcelpadiakaaGreat
open Go Go.Abs Go.Num
def rtR (a b : Int) : Value × List (List Value) := match dZ a with
  | [] => (.agg #[nilV, sliceA 0 0 (dZ b).length 1], [dZ b])
  | l => (.agg #[sliceA 0 0 l.length 1, sliceA 1 0 (dZ b).length 1], [l, dZ b])
def okW (a b : Int) : Res := (.tuple #[(rtR a b).1, posV 0], (rtR a b).2)
def wgW0 : List Line := [([ni], okW 0 1), ([lo], okW 0 1), ([L [1]], okW (1) (1)), ([L [2]], okW (0) (1)), ([L [1,1]], okW (3) (2)), ([L [3]], okW (3) (1)), ([L [2,1]], okW (0) (1)), ([L [1,1,1]], okW (4) (3)), ([L [4]], okW (0) (1)), ([L [3,1]], okW (9) (1))]
theorem wgW0_all : ∀ x ∈ wgW0, LineOK Tryz.prog 18 x.1 x.2 := ok_of apCls_ok (show Seen apCls_sp 18 wgW0 from by unfold Seen; kernel_rfl)
def wgW1 : List Line := [([L [2,2]], okW (7) (1)), ([L [2,1,1]], okW (0) (1)), ([L [1,1,1,1]], okW (7) (4))]
theorem wgW1_all : ∀ x ∈ wgW1, LineOK Tryz.prog 18 x.1 x.2 := ok_of apCls_ok (show Seen apCls_sp 18 wgW1 from by unfold Seen; kernel_rfl)
def wgW2 : List Line := [([L [5]], okW (40) (1)), ([L [4,1]], okW (0) (1)), ([L [3,2]], okW (0) (1))]
theorem wgW2_all : ∀ x ∈ wgW2, LineOK Tryz.prog 18 x.1 x.2 := ok_of apCls_ok (show Seen apCls_sp 18 wgW2 from by unfold Seen; kernel_rfl)
def wgW3 : List Line := [([L [3,1,1]], okW (27) (1)), ([L [2,2,1]], okW (24) (1)), ([L [2,1,1,1]], okW (0) (1)), ([L [1,1,1,1,1]], okW (6) (5))]
theorem wgW3_all : ∀ x ∈ wgW3, LineOK Tryz.prog 18 x.1 x.2 := ok_of apCls_ok (show Seen apCls_sp 18 wgW3 from by unfold Seen; kernel_rfl)
def wgWL : List Line := wgW0 ++ (wgW1 ++ (wgW2 ++ (wgW3)))
theorem wgWL_all : ∀ x ∈ wgWL, LineOK Tryz.prog 18 x.1 x.2 := lines_append wgW0_all (lines_append wgW1_all (lines_append wgW2_all (wgW3_all)))
noncomputable def wgW_sp : Abs.Spec := lay apCls_sp 18 wgWL
theorem wgW_ok : Ok wgW_sp := ok_lay apCls_ok wgWL_all
theorem cLni : LineOK Tryz.prog 14 [ni] (clsS cS) := cls_of (noSpec_good _) (show PreC noSpec ni cE from by unfold PreC; kernel_rfl) (by kernel_rfl) (by kernel_rfl) (by kernel_rfl) (by kernel_rfl) (by kernel_rfl)
theorem cLlo : LineOK Tryz.prog 14 [lo] (clsS cS) := cls_of (noSpec_good _) (show PreC noSpec lo cE from by unfold PreC; kernel_rfl) (by kernel_rfl) (by kernel_rfl) (by kernel_rfl) (by kernel_rfl) (by kernel_rfl)
def wgCL : List Line := ([ni], clsS cS) :: ([lo], clsS cS) :: clsL
theorem wgCL_all : ∀ x ∈ wgCL, LineOK Tryz.prog 14 x.1 x.2 := fun x hx => by
  rcases List.mem_cons.1 hx with rfl | hx
  · exact cLni
  rcases List.mem_cons.1 hx with rfl | hx
  · exact cLlo
  exact clsL_all x hx
noncomputable def wgC_sp : Abs.Spec := lay wgW_sp 14 wgCL
theorem wgC_ok : Ok wgC_sp := ok_lay wgW_ok wgCL_all
def wgAL : List Line := [([], trueR)]
theorem wgAL_all : ∀ x ∈ wgAL, LineOK Tryz.prog 13 x.1 x.2 := fun x hx => by rw [List.mem_singleton.1 hx]; exact awake_line
def rrt (a b : Int) : Res := (.agg #[sliceA 0 0 1 1, sliceA 1 0 1 1], [ints [a], ints [b]])
def liE (l : List Nat) : Res := (.tuple #[sliceA 0 0 l.length 1, posV 0], [l.map posV])
noncomputable def wgK_sp : Abs.Spec := lay wgC_sp 13 wgAL
theorem wgK_ok : Ok wgK_sp := ok_lay wgC_ok wgAL_all
def wgOL : List Line := [([L [1]], liE [0]), ([L [2]], liE [1]), ([L [1,1]], liE [0,0]), ([L [3]], liE [2]), ([L [2,1]], liE [1,0]), ([L [1,1,1]], liE [0,0,0]), ([L [4]], liE [3]), ([L [3,1]], liE [2,0]), ([L [2,2]], liE [1,1]), ([L [2,1,1]], liE [1,0,0]), ([L [1,1,1,1]], liE [0,0,0,0]), ([L [5]], liE [4]), ([L [4,1]], liE [3,0]), ([L [3,2]], liE [2,1]), ([L [3,1,1]], liE [2,0,0]), ([L [2,2,1]], liE [1,1,0]), ([L [2,1,1,1]], liE [1,0,0,0]), ([L [1,1,1,1,1]], liE [0,0,0,0,0])]
theorem wgOL_all : ∀ x ∈ wgOL, LineOK Tryz.prog 23 x.1 x.2 := ok_of wgK_ok (show Seen wgK_sp 23 wgOL from by unfold Seen; kernel_rfl)
noncomputable def wgO_sp : Abs.Spec := lay wgK_sp 23 wgOL
theorem wgO_ok : Ok wgO_sp := ok_lay wgK_ok wgOL_all
def wgQ1 : List Line := [([.li (ints [1]), .li (ints [1])], sl (ints [1]))]
theorem wgQ1_all : ∀ x ∈ wgQ1, LineOK Tryz.prog 64 x.1 x.2 := ok_of wgO_ok (show Seen wgO_sp 64 wgQ1 from by unfold Seen; kernel_rfl)
noncomputable def wgQ_sp : Abs.Spec := lay wgO_sp 64 wgQ1
theorem wgQ_ok : Ok wgQ_sp := ok_lay wgO_ok wgQ1_all
def wgM1 : List Line := wgQ1
theorem wgM1_all : ∀ x ∈ wgM1, LineOK Tryz.prog 32 x.1 x.2 := ok_of wgQ_ok (show Seen wgQ_sp 32 wgM1 from by unfold Seen; kernel_rfl)
noncomputable def wgR_sp : Abs.Spec := lay wgQ_sp 32 wgM1
theorem wgR_ok : Ok wgR_sp := ok_lay wgQ_ok wgM1_all
end Go.Proofs.YtkedcelpadiakaaGreat
