/- Of the law: texts of its proof, joined (part 47). -/
import Derived.Test.YtkedcelpadiakaaGreatQtp46
set_option linter.all false
namespace Go.Proofs.YtkedcelpadiakaaGreat
open Go Go.Abs Go.Num
def cS : List Key2 := []
theorem cL : LineOK Tryz.prog 14 [.li (ints [])] (clsS cS) := cls_of (noSpec_good _) cP (by kernel_rfl) (by kernel_rfl) (by kernel_rfl) (by kernel_rfl) (by kernel_rfl)
def cS1 : List Key2 := [([0], [0])]
theorem cL1 : LineOK Tryz.prog 14 [.li (ints [1])] (clsS cS1) := cls_of (noSpec_good _) cP1 (by kernel_rfl) (by kernel_rfl) (by kernel_rfl) (by kernel_rfl) (by kernel_rfl)
def cS2 : List Key2 := []
theorem cL2 : LineOK Tryz.prog 14 [.li (ints [2])] (clsS cS2) := cls_of (noSpec_good _) cP2 (by kernel_rfl) (by kernel_rfl) (by kernel_rfl) (by kernel_rfl) (by kernel_rfl)
def cS11 : List Key2 := [([0, 1], [1, 0]), ([1, 0], [0, 1]), ([1, 0], [1, 0])]
theorem cL11 : LineOK Tryz.prog 14 [.li (ints [1, 1])] (clsS cS11) := cls_of (noSpec_good _) cP11 (by kernel_rfl) (by kernel_rfl) (by kernel_rfl) (by kernel_rfl) (by kernel_rfl)
def cS3 : List Key2 := [([0, 2, 1], [1, 0, 2]), ([0, 2, 1], [1, 2, 0]), ([1, 2, 0], [0, 2, 1])]
theorem cL3 : LineOK Tryz.prog 14 [.li (ints [3])] (clsS cS3) := cls_of (noSpec_good _) cP3 (by kernel_rfl) (by kernel_rfl) (by kernel_rfl) (by kernel_rfl) (by kernel_rfl)
def cS21 : List Key2 := []
theorem cL21 : LineOK Tryz.prog 14 [.li (ints [2, 1])] (clsS cS21) := cls_of (noSpec_good _) cP21 (by kernel_rfl) (by kernel_rfl) (by kernel_rfl) (by kernel_rfl) (by kernel_rfl)
def cS111 : List Key2 := [([0, 1, 2], [1, 2, 0]), ([1, 2, 0], [0, 1, 2]), ([1, 2, 0], [1, 2, 0]), ([1, 2, 0], [2, 0, 1])]
theorem cL111 : LineOK Tryz.prog 14 [.li (ints [1, 1, 1])] (clsS cS111) := cls_of (noSpec_good _) cP111 (by kernel_rfl) (by kernel_rfl) (by kernel_rfl) (by kernel_rfl) (by kernel_rfl)
def cS4 : List Key2 := []
theorem cL4 : LineOK Tryz.prog 14 [.li (ints [4])] (clsS cS4) := cls_of spC4_ok cP4 (by kernel_rfl) (by kernel_rfl) (by kernel_rfl) (by kernel_rfl) (by kernel_rfl)
def cS31 : List Key2 := [([0, 1, 3, 2], [1, 2, 0, 3]), ([0, 1, 3, 2], [1, 2, 3, 0]), ([0, 2, 3, 1], [1, 0, 2, 3]), ([0, 2, 3, 1], [1, 2, 3, 0]), ([0, 2, 3, 1], [1, 3, 0, 2]), ([1, 2, 3, 0], [0, 1, 3, 2]), ([1, 2, 3, 0], [0, 2, 3, 1]), ([1, 2, 3, 0], [0, 3, 1, 2]), ([1, 2, 3, 0], [1, 3, 0, 2])]
theorem cL31 : LineOK Tryz.prog 14 [.li (ints [3, 1])] (clsS cS31) := cls_of spC4_ok cP31 (by kernel_rfl) (by kernel_rfl) (by kernel_rfl) (by kernel_rfl) (by kernel_rfl)
def cS22 : List Key2 := [([0, 2, 1, 3], [1, 0, 3, 2]), ([0, 2, 1, 3], [1, 3, 0, 2]), ([0, 2, 3, 1], [1, 0, 3, 2]), ([0, 2, 3, 1], [1, 2, 0, 3]), ([0, 2, 3, 1], [1, 3, 2, 0]), ([1, 0, 3, 2], [0, 2, 1, 3]), ([1, 0, 3, 2], [0, 2, 3, 1]), ([1, 0, 3, 2], [1, 2, 3, 0]), ([1, 2, 3, 0], [0, 3, 2, 1]), ([1, 2, 3, 0], [1, 0, 3, 2])]
theorem cL22 : LineOK Tryz.prog 14 [.li (ints [2, 2])] (clsS cS22) := cls_of spC4_ok cP22 (by kernel_rfl) (by kernel_rfl) (by kernel_rfl) (by kernel_rfl) (by kernel_rfl)
def cS211 : List Key2 := []
theorem cL211 : LineOK Tryz.prog 14 [.li (ints [2, 1, 1])] (clsS cS211) := cls_of spC4_ok cP211 (by kernel_rfl) (by kernel_rfl) (by kernel_rfl) (by kernel_rfl) (by kernel_rfl)
def cS1111 : List Key2 := [([0, 1, 2, 3], [1, 2, 3, 0]), ([1, 0, 3, 2], [2, 3, 0, 1]), ([1, 0, 3, 2], [2, 3, 1, 0]), ([1, 2, 3, 0], [0, 1, 2, 3]), ([1, 2, 3, 0], [1, 2, 3, 0]), ([1, 2, 3, 0], [2, 3, 0, 1]), ([1, 3, 0, 2], [2, 0, 3, 1])]
theorem cL1111 : LineOK Tryz.prog 14 [.li (ints [1, 1, 1, 1])] (clsS cS1111) := cls_of spC4_ok cP1111 (by kernel_rfl) (by kernel_rfl) (by kernel_rfl) (by kernel_rfl) (by kernel_rfl)
def cS5 : List Key2 := [([0, 2, 1, 4, 3], [1, 0, 3, 2, 4]), ([0, 2, 1, 4, 3], [1, 0, 3, 4, 2]), ([0, 2, 1, 4, 3], [1, 2, 3, 0, 4]), ([0, 2, 1, 4, 3], [1, 2, 3, 4, 0]), ([0, 2, 1, 4, 3], [1, 3, 0, 2, 4]), ([0, 2, 1, 4, 3], [1, 3, 0, 4, 2]), ([0, 2, 1, 4, 3], [1, 3, 2, 0, 4]), ([0, 2, 1, 4, 3], [1, 3, 2, 4, 0]), ([0, 2, 3, 1, 4], [1, 0, 2, 4, 3]), ([0, 2, 3, 1, 4], [1, 0, 3, 4, 2]), ([0, 2, 3, 1, 4], [1, 0, 4, 2, 3]), ([0, 2, 3, 1, 4], [1, 2, 4, 0, 3]), ([0, 2, 3, 1, 4], [1, 3, 0, 4, 2]), ([0, 2, 3, 4, 1], [1, 0, 2, 4, 3]), ([0, 2, 3, 4, 1], [1, 0, 3, 2, 4]), ([0, 2, 3, 4, 1], [1, 0, 4, 3, 2]), ([0, 2, 3, 4, 1], [1, 2, 0, 4, 3]), ([0, 2, 3, 4, 1], [1, 2, 4, 0, 3]), ([0, 2, 3, 4, 1], [1, 2, 4, 3, 0]), ([0, 2, 3, 4, 1], [1, 3, 0, 2, 4]), ([0, 2, 3, 4, 1], [1, 3, 2, 0, 4]), ([0, 2, 3, 4, 1], [1, 3, 2, 4, 0]), ([0, 2, 4, 1, 3], [1, 3, 0, 2, 4]), ([0, 2, 4, 1, 3], [1, 3, 4, 0, 2]), ([0, 2, 4, 1, 3], [1, 3, 4, 2, 0]), ([0, 2, 4, 3, 1], [1, 3, 0, 2, 4]), ([1, 0, 3, 4, 2], [0, 2, 1, 4, 3]), ([1, 0, 3, 4, 2], [0, 2, 3, 1, 4]), ([1, 0, 3, 4, 2], [0, 2, 4, 3, 1]), ([1, 0, 3, 4, 2], [1, 2, 0, 4, 3]), ([1, 0, 3, 4, 2], [1, 2, 3, 0, 4]), ([1, 0, 3, 4, 2], [1, 2, 4, 3, 0]), ([1, 2, 3, 4, 0], [0, 2, 1, 4, 3]), ([1, 2, 3, 4, 0], [0, 2, 4, 1, 3]), ([1, 2, 3, 4, 0], [0, 2, 4, 3, 1]), ([1, 2, 3, 4, 0], [0, 3, 1, 4, 2]), ([1, 2, 3, 4, 0], [1, 0, 4, 3, 2]), ([1, 2, 3, 4, 0], [1, 3, 0, 4, 2]), ([1, 2, 3, 4, 0], [2, 0, 4, 1, 3]), ([1, 2, 4, 0, 3], [0, 3, 1, 2, 4])]
def cE5 : List Key2 := [([0, 2, 1, 4, 3], [1, 0, 3, 2, 4]), ([0, 2, 1, 4, 3], [1, 3, 2, 4, 0]), ([0, 2, 1, 4, 3], [1, 3, 0, 2, 4]), ([0, 2, 1, 4, 3], [1, 3, 2, 0, 4]), ([0, 2, 1, 4, 3], [1, 2, 3, 0, 4]), ([0, 2, 1, 4, 3], [1, 0, 3, 4, 2]), ([0, 2, 1, 4, 3], [1, 2, 3, 4, 0]), ([0, 2, 1, 4, 3], [1, 3, 0, 4, 2]), ([0, 2, 3, 1, 4], [1, 0, 2, 4, 3]), ([0, 2, 4, 3, 1], [1, 3, 0, 2, 4]), ([0, 2, 3, 1, 4], [1, 0, 3, 4, 2]), ([0, 2, 3, 1, 4], [1, 2, 4, 0, 3]), ([0, 2, 3, 1, 4], [1, 3, 0, 4, 2]), ([0, 2, 3, 1, 4], [1, 0, 4, 2, 3]), ([1, 0, 3, 4, 2], [0, 2, 3, 1, 4]), ([1, 0, 3, 4, 2], [1, 2, 3, 0, 4]), ([1, 0, 3, 4, 2], [0, 2, 4, 3, 1]), ([1, 0, 3, 4, 2], [1, 2, 4, 3, 0]), ([1, 0, 3, 4, 2], [0, 2, 1, 4, 3]), ([1, 0, 3, 4, 2], [1, 2, 0, 4, 3]), ([0, 2, 3, 4, 1], [1, 0, 2, 4, 3]), ([0, 2, 3, 4, 1], [1, 3, 2, 4, 0]), ([0, 2, 4, 1, 3], [1, 3, 0, 2, 4]), ([0, 2, 3, 4, 1], [1, 3, 2, 0, 4]), ([0, 2, 3, 4, 1], [1, 0, 4, 3, 2]), ([0, 2, 3, 4, 1], [1, 3, 0, 2, 4]), ([0, 2, 3, 4, 1], [1, 2, 4, 3, 0]), ([0, 2, 3, 4, 1], [1, 0, 3, 2, 4]), ([0, 2, 3, 4, 1], [1, 2, 0, 4, 3]), ([0, 2, 4, 1, 3], [1, 3, 4, 0, 2]), ([0, 2, 3, 4, 1], [1, 2, 4, 0, 3]), ([0, 2, 4, 1, 3], [1, 3, 4, 2, 0]), ([1, 2, 3, 4, 0], [0, 2, 1, 4, 3]), ([1, 2, 3, 4, 0], [0, 2, 4, 1, 3]), ([1, 2, 3, 4, 0], [0, 2, 4, 3, 1]), ([1, 2, 3, 4, 0], [0, 3, 1, 4, 2]), ([1, 2, 4, 0, 3], [0, 3, 1, 2, 4]), ([1, 2, 3, 4, 0], [1, 0, 4, 3, 2]), ([1, 2, 3, 4, 0], [1, 3, 0, 4, 2]), ([1, 2, 3, 4, 0], [2, 0, 4, 1, 3])]
theorem cL5 : LineOK Tryz.prog 14 [.li (ints [5])] (clsS cS5) := cls5_of (E := cE5) (by kernel_rfl) (by kernel_rfl) (by kernel_rfl) (by kernel_rfl) (by kernel_rfl) (by kernel_rfl) (by kernel_rfl) (by kernel_rfl)
def cS41 : List Key2 := []
def cE41 : List Key2 := []
theorem cL41 : LineOK Tryz.prog 14 [.li (ints [4, 1])] (clsS cS41) := cls5_of (E := cE41) (by kernel_rfl) (by kernel_rfl) (by kernel_rfl) (by kernel_rfl) (by kernel_rfl) (by kernel_rfl) (by kernel_rfl) (by kernel_rfl)
def cS32 : List Key2 := []
def cE32 : List Key2 := []
theorem cL32 : LineOK Tryz.prog 14 [.li (ints [3, 2])] (clsS cS32) := cls5_of (E := cE32) (by kernel_rfl) (by kernel_rfl) (by kernel_rfl) (by kernel_rfl) (by kernel_rfl) (by kernel_rfl) (by kernel_rfl) (by kernel_rfl)
def cS311 : List Key2 := [([0, 1, 2, 4, 3], [1, 2, 3, 0, 4]), ([0, 1, 2, 4, 3], [1, 2, 3, 4, 0]), ([0, 1, 3, 4, 2], [1, 2, 0, 3, 4]), ([0, 1, 3, 4, 2], [1, 2, 3, 4, 0]), ([0, 1, 3, 4, 2], [1, 2, 4, 0, 3]), ([0, 2, 1, 4, 3], [1, 3, 4, 0, 2]), ([0, 2, 1, 4, 3], [1, 3, 4, 2, 0]), ([0, 2, 3, 4, 1], [1, 0, 2, 3, 4]), ([0, 2, 3, 4, 1], [1, 2, 3, 4, 0]), ([0, 2, 3, 4, 1], [1, 3, 4, 0, 2]), ([0, 2, 4, 1, 3], [1, 3, 0, 4, 2]), ([1, 0, 3, 4, 2], [2, 3, 0, 1, 4]), ([1, 0, 3, 4, 2], [2, 3, 0, 4, 1]), ([1, 0, 3, 4, 2], [2, 3, 1, 0, 4]), ([1, 0, 3, 4, 2], [2, 3, 1, 4, 0]), ([1, 0, 3, 4, 2], [2, 3, 4, 0, 1]), ([1, 0, 3, 4, 2], [2, 3, 4, 1, 0]), ([1, 2, 3, 4, 0], [0, 1, 2, 4, 3]), ([1, 2, 3, 4, 0], [0, 1, 3, 4, 2]), ([1, 2, 3, 4, 0], [0, 1, 4, 2, 3]), ([1, 2, 3, 4, 0], [0, 2, 3, 4, 1]), ([1, 2, 3, 4, 0], [0, 3, 4, 1, 2]), ([1, 2, 3, 4, 0], [1, 2, 4, 0, 3]), ([1, 2, 3, 4, 0], [1, 3, 4, 0, 2]), ([1, 2, 4, 0, 3], [0, 3, 1, 4, 2]), ([1, 2, 4, 0, 3], [1, 3, 0, 4, 2]), ([1, 2, 4, 0, 3], [2, 3, 0, 4, 1])]
def cE311 : List Key2 := [([0, 1, 2, 4, 3], [1, 2, 3, 0, 4]), ([0, 1, 2, 4, 3], [1, 2, 3, 4, 0]), ([0, 2, 1, 4, 3], [1, 3, 4, 0, 2]), ([0, 2, 1, 4, 3], [1, 3, 4, 2, 0]), ([0, 1, 3, 4, 2], [1, 2, 0, 3, 4]), ([0, 1, 3, 4, 2], [1, 2, 3, 4, 0]), ([0, 1, 3, 4, 2], [1, 2, 4, 0, 3]), ([1, 0, 3, 4, 2], [2, 3, 0, 1, 4]), ([1, 0, 3, 4, 2], [2, 3, 1, 0, 4]), ([1, 0, 3, 4, 2], [2, 3, 0, 4, 1]), ([1, 0, 3, 4, 2], [2, 3, 1, 4, 0]), ([1, 0, 3, 4, 2], [2, 3, 4, 0, 1]), ([1, 0, 3, 4, 2], [2, 3, 4, 1, 0]), ([0, 2, 3, 4, 1], [1, 0, 2, 3, 4]), ([0, 2, 3, 4, 1], [1, 2, 3, 4, 0]), ([0, 2, 3, 4, 1], [1, 3, 4, 0, 2]), ([0, 2, 4, 1, 3], [1, 3, 0, 4, 2]), ([1, 2, 3, 4, 0], [0, 1, 2, 4, 3]), ([1, 2, 3, 4, 0], [0, 1, 3, 4, 2]), ([1, 2, 3, 4, 0], [0, 1, 4, 2, 3]), ([1, 2, 3, 4, 0], [0, 2, 3, 4, 1]), ([1, 2, 3, 4, 0], [0, 3, 4, 1, 2]), ([1, 2, 4, 0, 3], [0, 3, 1, 4, 2]), ([1, 2, 3, 4, 0], [1, 2, 4, 0, 3]), ([1, 2, 3, 4, 0], [1, 3, 4, 0, 2]), ([1, 2, 4, 0, 3], [1, 3, 0, 4, 2]), ([1, 2, 4, 0, 3], [2, 3, 0, 4, 1])]
theorem cL311 : LineOK Tryz.prog 14 [.li (ints [3, 1, 1])] (clsS cS311) := cls5_of (E := cE311) (by kernel_rfl) (by kernel_rfl) (by kernel_rfl) (by kernel_rfl) (by kernel_rfl) (by kernel_rfl) (by kernel_rfl) (by kernel_rfl)
def cS221 : List Key2 := [([0, 1, 3, 2, 4], [1, 2, 0, 4, 3]), ([0, 1, 3, 2, 4], [1, 2, 4, 0, 3]), ([0, 1, 3, 4, 2], [1, 2, 0, 4, 3]), ([0, 1, 3, 4, 2], [1, 2, 3, 0, 4]), ([0, 1, 3, 4, 2], [1, 2, 4, 3, 0]), ([0, 2, 3, 4, 1], [1, 0, 3, 4, 2]), ([0, 2, 3, 4, 1], [1, 0, 4, 2, 3]), ([0, 2, 3, 4, 1], [1, 2, 0, 3, 4]), ([0, 2, 3, 4, 1], [1, 2, 3, 0, 4]), ([0, 2, 3, 4, 1], [1, 3, 0, 4, 2]), ([0, 2, 3, 4, 1], [1, 3, 4, 2, 0]), ([0, 2, 4, 1, 3], [1, 3, 2, 0, 4]), ([0, 2, 4, 1, 3], [1, 3, 2, 4, 0]), ([1, 0, 3, 4, 2], [0, 2, 1, 3, 4]), ([1, 0, 3, 4, 2], [0, 2, 3, 4, 1]), ([1, 0, 3, 4, 2], [0, 2, 4, 1, 3]), ([1, 0, 3, 4, 2], [1, 2, 0, 3, 4]), ([1, 0, 3, 4, 2], [1, 2, 3, 4, 0]), ([1, 0, 3, 4, 2], [1, 2, 4, 0, 3]), ([1, 2, 3, 4, 0], [0, 1, 4, 3, 2]), ([1, 2, 3, 4, 0], [0, 3, 4, 2, 1]), ([1, 2, 3, 4, 0], [1, 0, 3, 4, 2]), ([1, 2, 3, 4, 0], [1, 0, 4, 2, 3]), ([1, 2, 4, 0, 3], [0, 3, 4, 2, 1])]
def cE221 : List Key2 := [([0, 1, 3, 2, 4], [1, 2, 0, 4, 3]), ([0, 1, 3, 2, 4], [1, 2, 4, 0, 3]), ([0, 1, 3, 4, 2], [1, 2, 3, 0, 4]), ([0, 1, 3, 4, 2], [1, 2, 4, 3, 0]), ([0, 1, 3, 4, 2], [1, 2, 0, 4, 3]), ([1, 0, 3, 4, 2], [0, 2, 1, 3, 4]), ([1, 0, 3, 4, 2], [1, 2, 0, 3, 4]), ([1, 0, 3, 4, 2], [0, 2, 3, 4, 1]), ([1, 0, 3, 4, 2], [1, 2, 3, 4, 0]), ([1, 0, 3, 4, 2], [0, 2, 4, 1, 3]), ([1, 0, 3, 4, 2], [1, 2, 4, 0, 3]), ([0, 2, 3, 4, 1], [1, 2, 0, 3, 4]), ([0, 2, 4, 1, 3], [1, 3, 2, 0, 4]), ([0, 2, 3, 4, 1], [1, 2, 3, 0, 4]), ([0, 2, 4, 1, 3], [1, 3, 2, 4, 0]), ([0, 2, 3, 4, 1], [1, 0, 3, 4, 2]), ([0, 2, 3, 4, 1], [1, 3, 0, 4, 2]), ([0, 2, 3, 4, 1], [1, 0, 4, 2, 3]), ([0, 2, 3, 4, 1], [1, 3, 4, 2, 0]), ([1, 2, 3, 4, 0], [0, 1, 4, 3, 2]), ([1, 2, 3, 4, 0], [0, 3, 4, 2, 1]), ([1, 2, 4, 0, 3], [0, 3, 4, 2, 1]), ([1, 2, 3, 4, 0], [1, 0, 3, 4, 2]), ([1, 2, 3, 4, 0], [1, 0, 4, 2, 3])]
theorem cL221 : LineOK Tryz.prog 14 [.li (ints [2, 2, 1])] (clsS cS221) := cls5_of (E := cE221) (by kernel_rfl) (by kernel_rfl) (by kernel_rfl) (by kernel_rfl) (by kernel_rfl) (by kernel_rfl) (by kernel_rfl) (by kernel_rfl)
def cS2111 : List Key2 := []
def cE2111 : List Key2 := []
theorem cL2111 : LineOK Tryz.prog 14 [.li (ints [2, 1, 1, 1])] (clsS cS2111) := cls5_of (E := cE2111) (by kernel_rfl) (by kernel_rfl) (by kernel_rfl) (by kernel_rfl) (by kernel_rfl) (by kernel_rfl) (by kernel_rfl) (by kernel_rfl)
def cS11111 : List Key2 := [([0, 1, 2, 3, 4], [1, 2, 3, 4, 0]), ([1, 2, 3, 4, 0], [0, 1, 2, 3, 4]), ([1, 2, 3, 4, 0], [1, 2, 3, 4, 0]), ([1, 2, 3, 4, 0], [2, 3, 4, 0, 1]), ([1, 3, 0, 4, 2], [2, 0, 4, 1, 3]), ([1, 3, 4, 2, 0], [2, 4, 1, 0, 3])]
def cE11111 : List Key2 := [([0, 1, 2, 3, 4], [1, 2, 3, 4, 0]), ([1, 2, 3, 4, 0], [0, 1, 2, 3, 4]), ([1, 2, 3, 4, 0], [1, 2, 3, 4, 0]), ([1, 2, 3, 4, 0], [2, 3, 4, 0, 1]), ([1, 3, 4, 2, 0], [2, 4, 1, 0, 3]), ([1, 3, 0, 4, 2], [2, 0, 4, 1, 3])]
theorem cL11111 : LineOK Tryz.prog 14 [.li (ints [1, 1, 1, 1, 1])] (clsS cS11111) := cls5_of (E := cE11111) (by kernel_rfl) (by kernel_rfl) (by kernel_rfl) (by kernel_rfl) (by kernel_rfl) (by kernel_rfl) (by kernel_rfl) (by kernel_rfl)
def clsL : List Line := [([.li (ints [])], clsS cS), ([.li (ints [1])], clsS cS1), ([.li (ints [2])], clsS cS2), ([.li (ints [1, 1])], clsS cS11), ([.li (ints [3])], clsS cS3), ([.li (ints [2, 1])], clsS cS21), ([.li (ints [1, 1, 1])], clsS cS111), ([.li (ints [4])], clsS cS4), ([.li (ints [3, 1])], clsS cS31), ([.li (ints [2, 2])], clsS cS22), ([.li (ints [2, 1, 1])], clsS cS211), ([.li (ints [1, 1, 1, 1])], clsS cS1111), ([.li (ints [5])], clsS cS5), ([.li (ints [4, 1])], clsS cS41), ([.li (ints [3, 2])], clsS cS32), ([.li (ints [3, 1, 1])], clsS cS311), ([.li (ints [2, 2, 1])], clsS cS221), ([.li (ints [2, 1, 1, 1])], clsS cS2111), ([.li (ints [1, 1, 1, 1, 1])], clsS cS11111)]
theorem clsL_all : ∀ x ∈ clsL, LineOK Tryz.prog 14 x.1 x.2 := by
  intro x hx
  simp only [clsL, List.mem_cons, List.not_mem_nil, or_false] at hx
  rcases hx with rfl | rfl | rfl | rfl | rfl | rfl | rfl | rfl | rfl | rfl | rfl | rfl | rfl | rfl | rfl | rfl | rfl | rfl | rfl
  · exact cL
  · exact cL1
  · exact cL2
  · exact cL11
  · exact cL3
  · exact cL21
  · exact cL111
  · exact cL4
  · exact cL31
  · exact cL22
  · exact cL211
  · exact cL1111
  · exact cL5
  · exact cL41
  · exact cL32
  · exact cL311
  · exact cL221
  · exact cL2111
  · exact cL11111
end Go.Proofs.YtkedcelpadiakaaGreat
