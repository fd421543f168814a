/- Of the law: texts of its proof, joined (part 45). -/
import Derived.Test.YtkedcelpadiakaaGreatQcc30
import Derived.Test.YtkedcelpadiakaaGreatQcc34
import Derived.Test.YtkedcelpadiakaaGreatQcc35
import Derived.Test.YtkedcelpadiakaaGreatQcc36
import Derived.Test.YtkedcelpadiakaaGreatQcc37
import Derived.Test.YtkedcelpadiakaaGreatQcc38
import Derived.Test.YtkedcelpadiakaaGreatQcc39
import Derived.Test.YtkedcelpadiakaaGreatQcc40
import Derived.Test.YtkedcelpadiakaaGreatQcc43
import Derived.Test.YtkedcelpadiakaaGreatQcc44
set_option linter.all false
namespace Go.Proofs.YtkedcelpadiakaaGreat
open Go Go.Abs Go.Num
def cS : List Key2 := []
theorem cL : LineOK Tryz.prog 14 [.li (ints [])] (clsS cS) := cls_of (noSpec_good _) cP (by kernel_rfl) (by kernel_rfl) (by kernel_rfl) (by kernel_rfl) (by kernel_rfl)
def cS1 : List Key2 := [([0], [0])]
theorem cL1 : LineOK Tryz.prog 14 [.li (ints [1])] (clsS cS1) := cls_of (noSpec_good _) cP1 (by kernel_rfl) (by kernel_rfl) (by kernel_rfl) (by kernel_rfl) (by kernel_rfl)
def cS2 : List Key2 := []
theorem cL2 : LineOK Tryz.prog 14 [.li (ints [2])] (clsS cS2) := cls_of (noSpec_good _) cP2 (by kernel_rfl) (by kernel_rfl) (by kernel_rfl) (by kernel_rfl) (by kernel_rfl)
def cS11 : List Key2 := [([0, 1], [1, 0]), ([1, 0], [0, 1]), ([1, 0], [1, 0])]
theorem cL11 : LineOK Tryz.prog 14 [.li (ints [1, 1])] (clsS cS11) := cls_of (noSpec_good _) cP11 (by kernel_rfl) (by kernel_rfl) (by kernel_rfl) (by kernel_rfl) (by kernel_rfl)
def cS3 : List Key2 := [([0, 2, 1], [1, 0, 2]), ([0, 2, 1], [1, 2, 0]), ([1, 2, 0], [0, 2, 1])]
theorem cL3 : LineOK Tryz.prog 14 [.li (ints [3])] (clsS cS3) := cls_of (noSpec_good _) cP3 (by kernel_rfl) (by kernel_rfl) (by kernel_rfl) (by kernel_rfl) (by kernel_rfl)
def cS21 : List Key2 := []
theorem cL21 : LineOK Tryz.prog 14 [.li (ints [2, 1])] (clsS cS21) := cls_of (noSpec_good _) cP21 (by kernel_rfl) (by kernel_rfl) (by kernel_rfl) (by kernel_rfl) (by kernel_rfl)
def cS111 : List Key2 := [([0, 1, 2], [1, 2, 0]), ([1, 2, 0], [0, 1, 2]), ([1, 2, 0], [1, 2, 0]), ([1, 2, 0], [2, 0, 1])]
theorem cL111 : LineOK Tryz.prog 14 [.li (ints [1, 1, 1])] (clsS cS111) := cls_of (noSpec_good _) cP111 (by kernel_rfl) (by kernel_rfl) (by kernel_rfl) (by kernel_rfl) (by kernel_rfl)
def cS4 : List Key2 := []
theorem cL4 : LineOK Tryz.prog 14 [.li (ints [4])] (clsS cS4) := cls_of spC4_ok cP4 (by kernel_rfl) (by kernel_rfl) (by kernel_rfl) (by kernel_rfl) (by kernel_rfl)
def cS31 : List Key2 := [([0, 1, 3, 2], [1, 2, 0, 3]), ([0, 1, 3, 2], [1, 2, 3, 0]), ([0, 2, 3, 1], [1, 0, 2, 3]), ([0, 2, 3, 1], [1, 2, 3, 0]), ([0, 2, 3, 1], [1, 3, 0, 2]), ([1, 2, 3, 0], [0, 1, 3, 2]), ([1, 2, 3, 0], [0, 2, 3, 1]), ([1, 2, 3, 0], [0, 3, 1, 2]), ([1, 2, 3, 0], [1, 3, 0, 2])]
theorem cL31 : LineOK Tryz.prog 14 [.li (ints [3, 1])] (clsS cS31) := cls_of spC4_ok cP31 (by kernel_rfl) (by kernel_rfl) (by kernel_rfl) (by kernel_rfl) (by kernel_rfl)
def cS22 : List Key2 := [([0, 2, 1, 3], [1, 0, 3, 2]), ([0, 2, 1, 3], [1, 3, 0, 2]), ([0, 2, 3, 1], [1, 0, 3, 2]), ([0, 2, 3, 1], [1, 2, 0, 3]), ([0, 2, 3, 1], [1, 3, 2, 0]), ([1, 0, 3, 2], [0, 2, 1, 3]), ([1, 0, 3, 2], [0, 2, 3, 1]), ([1, 0, 3, 2], [1, 2, 3, 0]), ([1, 2, 3, 0], [0, 3, 2, 1]), ([1, 2, 3, 0], [1, 0, 3, 2])]
theorem cL22 : LineOK Tryz.prog 14 [.li (ints [2, 2])] (clsS cS22) := cls_of spC4_ok cP22 (by kernel_rfl) (by kernel_rfl) (by kernel_rfl) (by kernel_rfl) (by kernel_rfl)
def cS211 : List Key2 := []
theorem cL211 : LineOK Tryz.prog 14 [.li (ints [2, 1, 1])] (clsS cS211) := cls_of spC4_ok cP211 (by kernel_rfl) (by kernel_rfl) (by kernel_rfl) (by kernel_rfl) (by kernel_rfl)
def cS1111 : List Key2 := [([0, 1, 2, 3], [1, 2, 3, 0]), ([1, 0, 3, 2], [2, 3, 0, 1]), ([1, 0, 3, 2], [2, 3, 1, 0]), ([1, 2, 3, 0], [0, 1, 2, 3]), ([1, 2, 3, 0], [1, 2, 3, 0]), ([1, 2, 3, 0], [2, 3, 0, 1]), ([1, 3, 0, 2], [2, 0, 3, 1])]
theorem cL1111 : LineOK Tryz.prog 14 [.li (ints [1, 1, 1, 1])] (clsS cS1111) := cls_of spC4_ok cP1111 (by kernel_rfl) (by kernel_rfl) (by kernel_rfl) (by kernel_rfl) (by kernel_rfl)
def cS5 : List Key2 := [([0, 2, 1, 4, 3], [1, 0, 3, 2, 4]), ([0, 2, 1, 4, 3], [1, 0, 3, 4, 2]), ([0, 2, 1, 4, 3], [1, 2, 3, 0, 4]), ([0, 2, 1, 4, 3], [1, 2, 3, 4, 0]), ([0, 2, 1, 4, 3], [1, 3, 0, 2, 4]), ([0, 2, 1, 4, 3], [1, 3, 0, 4, 2]), ([0, 2, 1, 4, 3], [1, 3, 2, 0, 4]), ([0, 2, 1, 4, 3], [1, 3, 2, 4, 0]), ([0, 2, 3, 1, 4], [1, 0, 2, 4, 3]), ([0, 2, 3, 1, 4], [1, 0, 3, 4, 2]), ([0, 2, 3, 1, 4], [1, 0, 4, 2, 3]), ([0, 2, 3, 1, 4], [1, 2, 4, 0, 3]), ([0, 2, 3, 1, 4], [1, 3, 0, 4, 2]), ([0, 2, 3, 4, 1], [1, 0, 2, 4, 3]), ([0, 2, 3, 4, 1], [1, 0, 3, 2, 4]), ([0, 2, 3, 4, 1], [1, 0, 4, 3, 2]), ([0, 2, 3, 4, 1], [1, 2, 0, 4, 3]), ([0, 2, 3, 4, 1], [1, 2, 4, 0, 3]), ([0, 2, 3, 4, 1], [1, 2, 4, 3, 0]), ([0, 2, 3, 4, 1], [1, 3, 0, 2, 4]), ([0, 2, 3, 4, 1], [1, 3, 2, 0, 4]), ([0, 2, 3, 4, 1], [1, 3, 2, 4, 0]), ([0, 2, 4, 1, 3], [1, 3, 0, 2, 4]), ([0, 2, 4, 1, 3], [1, 3, 4, 0, 2]), ([0, 2, 4, 1, 3], [1, 3, 4, 2, 0]), ([0, 2, 4, 3, 1], [1, 3, 0, 2, 4]), ([1, 0, 3, 4, 2], [0, 2, 1, 4, 3]), ([1, 0, 3, 4, 2], [0, 2, 3, 1, 4]), ([1, 0, 3, 4, 2], [0, 2, 4, 3, 1]), ([1, 0, 3, 4, 2], [1, 2, 0, 4, 3]), ([1, 0, 3, 4, 2], [1, 2, 3, 0, 4]), ([1, 0, 3, 4, 2], [1, 2, 4, 3, 0]), ([1, 2, 3, 4, 0], [0, 2, 1, 4, 3]), ([1, 2, 3, 4, 0], [0, 2, 4, 1, 3]), ([1, 2, 3, 4, 0], [0, 2, 4, 3, 1]), ([1, 2, 3, 4, 0], [0, 3, 1, 4, 2]), ([1, 2, 3, 4, 0], [1, 0, 4, 3, 2]), ([1, 2, 3, 4, 0], [1, 3, 0, 4, 2]), ([1, 2, 3, 4, 0], [2, 0, 4, 1, 3]), ([1, 2, 4, 0, 3], [0, 3, 1, 2, 4])]
def cE5 : List Key2 := [([0, 2, 1, 4, 3], [1, 0, 3, 2, 4]), ([0, 2, 1, 4, 3], [1, 3, 2, 4, 0]), ([0, 2, 1, 4, 3], [1, 3, 0, 2, 4]), ([0, 2, 1, 4, 3], [1, 3, 2, 0, 4]), ([0, 2, 1, 4, 3], [1, 2, 3, 0, 4]), ([0, 2, 1, 4, 3], [1, 0, 3, 4, 2]), ([0, 2, 1, 4, 3], [1, 2, 3, 4, 0]), ([0, 2, 1, 4, 3], [1, 3, 0, 4, 2]), ([0, 2, 3, 1, 4], [1, 0, 2, 4, 3]), ([0, 2, 4, 3, 1], [1, 3, 0, 2, 4]), ([0, 2, 3, 1, 4], [1, 0, 3, 4, 2]), ([0, 2, 3, 1, 4], [1, 2, 4, 0, 3]), ([0, 2, 3, 1, 4], [1, 3, 0, 4, 2]), ([0, 2, 3, 1, 4], [1, 0, 4, 2, 3]), ([1, 0, 3, 4, 2], [0, 2, 3, 1, 4]), ([1, 0, 3, 4, 2], [1, 2, 3, 0, 4]), ([1, 0, 3, 4, 2], [0, 2, 4, 3, 1]), ([1, 0, 3, 4, 2], [1, 2, 4, 3, 0]), ([1, 0, 3, 4, 2], [0, 2, 1, 4, 3]), ([1, 0, 3, 4, 2], [1, 2, 0, 4, 3]), ([0, 2, 3, 4, 1], [1, 0, 2, 4, 3]), ([0, 2, 3, 4, 1], [1, 3, 2, 4, 0]), ([0, 2, 4, 1, 3], [1, 3, 0, 2, 4]), ([0, 2, 3, 4, 1], [1, 3, 2, 0, 4]), ([0, 2, 3, 4, 1], [1, 0, 4, 3, 2]), ([0, 2, 3, 4, 1], [1, 3, 0, 2, 4]), ([0, 2, 3, 4, 1], [1, 2, 4, 3, 0]), ([0, 2, 3, 4, 1], [1, 0, 3, 2, 4]), ([0, 2, 3, 4, 1], [1, 2, 0, 4, 3]), ([0, 2, 4, 1, 3], [1, 3, 4, 0, 2]), ([0, 2, 3, 4, 1], [1, 2, 4, 0, 3]), ([0, 2, 4, 1, 3], [1, 3, 4, 2, 0]), ([1, 2, 3, 4, 0], [0, 2, 1, 4, 3]), ([1, 2, 3, 4, 0], [0, 2, 4, 1, 3]), ([1, 2, 3, 4, 0], [0, 2, 4, 3, 1]), ([1, 2, 3, 4, 0], [0, 3, 1, 4, 2]), ([1, 2, 4, 0, 3], [0, 3, 1, 2, 4]), ([1, 2, 3, 4, 0], [1, 0, 4, 3, 2]), ([1, 2, 3, 4, 0], [1, 3, 0, 4, 2]), ([1, 2, 3, 4, 0], [2, 0, 4, 1, 3])]
theorem cL5 : LineOK Tryz.prog 14 [.li (ints [5])] (clsS cS5) := cls5_of (E := cE5) (by kernel_rfl) (by kernel_rfl) (by kernel_rfl) (by kernel_rfl) (by kernel_rfl) (by kernel_rfl) (by kernel_rfl) (by kernel_rfl)
def cS41 : List Key2 := []
def cE41 : List Key2 := []
theorem cL41 : LineOK Tryz.prog 14 [.li (ints [4, 1])] (clsS cS41) := cls5_of (E := cE41) (by kernel_rfl) (by kernel_rfl) (by kernel_rfl) (by kernel_rfl) (by kernel_rfl) (by kernel_rfl) (by kernel_rfl) (by kernel_rfl)
def cS32 : List Key2 := []
def cE32 : List Key2 := []
theorem cL32 : LineOK Tryz.prog 14 [.li (ints [3, 2])] (clsS cS32) := cls5_of (E := cE32) (by kernel_rfl) (by kernel_rfl) (by kernel_rfl) (by kernel_rfl) (by kernel_rfl) (by kernel_rfl) (by kernel_rfl) (by kernel_rfl)
def cS311 : List Key2 := [([0, 1, 2, 4, 3], [1, 2, 3, 0, 4]), ([0, 1, 2, 4, 3], [1, 2, 3, 4, 0]), ([0, 1, 3, 4, 2], [1, 2, 0, 3, 4]), ([0, 1, 3, 4, 2], [1, 2, 3, 4, 0]), ([0, 1, 3, 4, 2], [1, 2, 4, 0, 3]), ([0, 2, 1, 4, 3], [1, 3, 4, 0, 2]), ([0, 2, 1, 4, 3], [1, 3, 4, 2, 0]), ([0, 2, 3, 4, 1], [1, 0, 2, 3, 4]), ([0, 2, 3, 4, 1], [1, 2, 3, 4, 0]), ([0, 2, 3, 4, 1], [1, 3, 4, 0, 2]), ([0, 2, 4, 1, 3], [1, 3, 0, 4, 2]), ([1, 0, 3, 4, 2], [2, 3, 0, 1, 4]), ([1, 0, 3, 4, 2], [2, 3, 0, 4, 1]), ([1, 0, 3, 4, 2], [2, 3, 1, 0, 4]), ([1, 0, 3, 4, 2], [2, 3, 1, 4, 0]), ([1, 0, 3, 4, 2], [2, 3, 4, 0, 1]), ([1, 0, 3, 4, 2], [2, 3, 4, 1, 0]), ([1, 2, 3, 4, 0], [0, 1, 2, 4, 3]), ([1, 2, 3, 4, 0], [0, 1, 3, 4, 2]), ([1, 2, 3, 4, 0], [0, 1, 4, 2, 3]), ([1, 2, 3, 4, 0], [0, 2, 3, 4, 1]), ([1, 2, 3, 4, 0], [0, 3, 4, 1, 2]), ([1, 2, 3, 4, 0], [1, 2, 4, 0, 3]), ([1, 2, 3, 4, 0], [1, 3, 4, 0, 2]), ([1, 2, 4, 0, 3], [0, 3, 1, 4, 2]), ([1, 2, 4, 0, 3], [1, 3, 0, 4, 2]), ([1, 2, 4, 0, 3], [2, 3, 0, 4, 1])]
def cE311 : List Key2 := [([0, 1, 2, 4, 3], [1, 2, 3, 0, 4]), ([0, 1, 2, 4, 3], [1, 2, 3, 4, 0]), ([0, 2, 1, 4, 3], [1, 3, 4, 0, 2]), ([0, 2, 1, 4, 3], [1, 3, 4, 2, 0]), ([0, 1, 3, 4, 2], [1, 2, 0, 3, 4]), ([0, 1, 3, 4, 2], [1, 2, 3, 4, 0]), ([0, 1, 3, 4, 2], [1, 2, 4, 0, 3]), ([1, 0, 3, 4, 2], [2, 3, 0, 1, 4]), ([1, 0, 3, 4, 2], [2, 3, 1, 0, 4]), ([1, 0, 3, 4, 2], [2, 3, 0, 4, 1]), ([1, 0, 3, 4, 2], [2, 3, 1, 4, 0]), ([1, 0, 3, 4, 2], [2, 3, 4, 0, 1]), ([1, 0, 3, 4, 2], [2, 3, 4, 1, 0]), ([0, 2, 3, 4, 1], [1, 0, 2, 3, 4]), ([0, 2, 3, 4, 1], [1, 2, 3, 4, 0]), ([0, 2, 3, 4, 1], [1, 3, 4, 0, 2]), ([0, 2, 4, 1, 3], [1, 3, 0, 4, 2]), ([1, 2, 3, 4, 0], [0, 1, 2, 4, 3]), ([1, 2, 3, 4, 0], [0, 1, 3, 4, 2]), ([1, 2, 3, 4, 0], [0, 1, 4, 2, 3]), ([1, 2, 3, 4, 0], [0, 2, 3, 4, 1]), ([1, 2, 3, 4, 0], [0, 3, 4, 1, 2]), ([1, 2, 4, 0, 3], [0, 3, 1, 4, 2]), ([1, 2, 3, 4, 0], [1, 2, 4, 0, 3]), ([1, 2, 3, 4, 0], [1, 3, 4, 0, 2]), ([1, 2, 4, 0, 3], [1, 3, 0, 4, 2]), ([1, 2, 4, 0, 3], [2, 3, 0, 4, 1])]
theorem cL311 : LineOK Tryz.prog 14 [.li (ints [3, 1, 1])] (clsS cS311) := cls5_of (E := cE311) (by kernel_rfl) (by kernel_rfl) (by kernel_rfl) (by kernel_rfl) (by kernel_rfl) (by kernel_rfl) (by kernel_rfl) (by kernel_rfl)
def cS221 : List Key2 := [([0, 1, 3, 2, 4], [1, 2, 0, 4, 3]), ([0, 1, 3, 2, 4], [1, 2, 4, 0, 3]), ([0, 1, 3, 4, 2], [1, 2, 0, 4, 3]), ([0, 1, 3, 4, 2], [1, 2, 3, 0, 4]), ([0, 1, 3, 4, 2], [1, 2, 4, 3, 0]), ([0, 2, 3, 4, 1], [1, 0, 3, 4, 2]), ([0, 2, 3, 4, 1], [1, 0, 4, 2, 3]), ([0, 2, 3, 4, 1], [1, 2, 0, 3, 4]), ([0, 2, 3, 4, 1], [1, 2, 3, 0, 4]), ([0, 2, 3, 4, 1], [1, 3, 0, 4, 2]), ([0, 2, 3, 4, 1], [1, 3, 4, 2, 0]), ([0, 2, 4, 1, 3], [1, 3, 2, 0, 4]), ([0, 2, 4, 1, 3], [1, 3, 2, 4, 0]), ([1, 0, 3, 4, 2], [0, 2, 1, 3, 4]), ([1, 0, 3, 4, 2], [0, 2, 3, 4, 1]), ([1, 0, 3, 4, 2], [0, 2, 4, 1, 3]), ([1, 0, 3, 4, 2], [1, 2, 0, 3, 4]), ([1, 0, 3, 4, 2], [1, 2, 3, 4, 0]), ([1, 0, 3, 4, 2], [1, 2, 4, 0, 3]), ([1, 2, 3, 4, 0], [0, 1, 4, 3, 2]), ([1, 2, 3, 4, 0], [0, 3, 4, 2, 1]), ([1, 2, 3, 4, 0], [1, 0, 3, 4, 2]), ([1, 2, 3, 4, 0], [1, 0, 4, 2, 3]), ([1, 2, 4, 0, 3], [0, 3, 4, 2, 1])]
def cE221 : List Key2 := [([0, 1, 3, 2, 4], [1, 2, 0, 4, 3]), ([0, 1, 3, 2, 4], [1, 2, 4, 0, 3]), ([0, 1, 3, 4, 2], [1, 2, 3, 0, 4]), ([0, 1, 3, 4, 2], [1, 2, 4, 3, 0]), ([0, 1, 3, 4, 2], [1, 2, 0, 4, 3]), ([1, 0, 3, 4, 2], [0, 2, 1, 3, 4]), ([1, 0, 3, 4, 2], [1, 2, 0, 3, 4]), ([1, 0, 3, 4, 2], [0, 2, 3, 4, 1]), ([1, 0, 3, 4, 2], [1, 2, 3, 4, 0]), ([1, 0, 3, 4, 2], [0, 2, 4, 1, 3]), ([1, 0, 3, 4, 2], [1, 2, 4, 0, 3]), ([0, 2, 3, 4, 1], [1, 2, 0, 3, 4]), ([0, 2, 4, 1, 3], [1, 3, 2, 0, 4]), ([0, 2, 3, 4, 1], [1, 2, 3, 0, 4]), ([0, 2, 4, 1, 3], [1, 3, 2, 4, 0]), ([0, 2, 3, 4, 1], [1, 0, 3, 4, 2]), ([0, 2, 3, 4, 1], [1, 3, 0, 4, 2]), ([0, 2, 3, 4, 1], [1, 0, 4, 2, 3]), ([0, 2, 3, 4, 1], [1, 3, 4, 2, 0]), ([1, 2, 3, 4, 0], [0, 1, 4, 3, 2]), ([1, 2, 3, 4, 0], [0, 3, 4, 2, 1]), ([1, 2, 4, 0, 3], [0, 3, 4, 2, 1]), ([1, 2, 3, 4, 0], [1, 0, 3, 4, 2]), ([1, 2, 3, 4, 0], [1, 0, 4, 2, 3])]
theorem cL221 : LineOK Tryz.prog 14 [.li (ints [2, 2, 1])] (clsS cS221) := cls5_of (E := cE221) (by kernel_rfl) (by kernel_rfl) (by kernel_rfl) (by kernel_rfl) (by kernel_rfl) (by kernel_rfl) (by kernel_rfl) (by kernel_rfl)
def cS2111 : List Key2 := []
def cE2111 : List Key2 := []
theorem cL2111 : LineOK Tryz.prog 14 [.li (ints [2, 1, 1, 1])] (clsS cS2111) := cls5_of (E := cE2111) (by kernel_rfl) (by kernel_rfl) (by kernel_rfl) (by kernel_rfl) (by kernel_rfl) (by kernel_rfl) (by kernel_rfl) (by kernel_rfl)
def cS11111 : List Key2 := [([0, 1, 2, 3, 4], [1, 2, 3, 4, 0]), ([1, 2, 3, 4, 0], [0, 1, 2, 3, 4]), ([1, 2, 3, 4, 0], [1, 2, 3, 4, 0]), ([1, 2, 3, 4, 0], [2, 3, 4, 0, 1]), ([1, 3, 0, 4, 2], [2, 0, 4, 1, 3]), ([1, 3, 4, 2, 0], [2, 4, 1, 0, 3])]
def cE11111 : List Key2 := [([0, 1, 2, 3, 4], [1, 2, 3, 4, 0]), ([1, 2, 3, 4, 0], [0, 1, 2, 3, 4]), ([1, 2, 3, 4, 0], [1, 2, 3, 4, 0]), ([1, 2, 3, 4, 0], [2, 3, 4, 0, 1]), ([1, 3, 4, 2, 0], [2, 4, 1, 0, 3]), ([1, 3, 0, 4, 2], [2, 0, 4, 1, 3])]
theorem cL11111 : LineOK Tryz.prog 14 [.li (ints [1, 1, 1, 1, 1])] (clsS cS11111) := cls5_of (E := cE11111) (by kernel_rfl) (by kernel_rfl) (by kernel_rfl) (by kernel_rfl) (by kernel_rfl) (by kernel_rfl) (by kernel_rfl) (by kernel_rfl)
def clsL : List Line := [([.li (ints [])], clsS cS), ([.li (ints [1])], clsS cS1), ([.li (ints [2])], clsS cS2), ([.li (ints [1, 1])], clsS cS11), ([.li (ints [3])], clsS cS3), ([.li (ints [2, 1])], clsS cS21), ([.li (ints [1, 1, 1])], clsS cS111), ([.li (ints [4])], clsS cS4), ([.li (ints [3, 1])], clsS cS31), ([.li (ints [2, 2])], clsS cS22), ([.li (ints [2, 1, 1])], clsS cS211), ([.li (ints [1, 1, 1, 1])], clsS cS1111), ([.li (ints [5])], clsS cS5), ([.li (ints [4, 1])], clsS cS41), ([.li (ints [3, 2])], clsS cS32), ([.li (ints [3, 1, 1])], clsS cS311), ([.li (ints [2, 2, 1])], clsS cS221), ([.li (ints [2, 1, 1, 1])], clsS cS2111), ([.li (ints [1, 1, 1, 1, 1])], clsS cS11111)]
theorem clsL_all : ∀ x ∈ clsL, LineOK Tryz.prog 14 x.1 x.2 := by
  intro x hx
  simp only [clsL, List.mem_cons, List.not_mem_nil, or_false] at hx
  rcases hx with rfl | rfl | rfl | rfl | rfl | rfl | rfl | rfl | rfl | rfl | rfl | rfl | rfl | rfl | rfl | rfl | rfl | rfl | rfl
  · exact cL
  · exact cL1
  · exact cL2
  · exact cL11
  · exact cL3
  · exact cL21
  · exact cL111
  · exact cL4
  · exact cL31
  · exact cL22
  · exact cL211
  · exact cL1111
  · exact cL5
  · exact cL41
  · exact cL32
  · exact cL311
  · exact cL221
  · exact cL2111
  · exact cL11111
end Go.Proofs.YtkedcelpadiakaaGreat
namespace Go.Proofs.YtkedcelpadiakaaGreat
open Go Go.Abs
def ccL : List Line := ccL_0 ++ (ccL_1 ++ (ccL_2 ++ (ccL_3 ++ (ccL_4 ++ (ccL_5 ++ (ccL_6 ++ (ccL_7 ++ (ccL_8 ++ (ccL_9 ++ (ccL_10 ++ (ccL_11 ++ (ccL_12 ++ (ccL_13 ++ (ccL_14 ++ (ccL_15 ++ (ccL_16 ++ (ccL_17 ++ (ccL_18 ++ (ccL_19 ++ (ccL_20 ++ (ccL_21 ++ (ccL_22 ++ (ccL_23 ++ (ccL_24 ++ (ccL_25)))))))))))))))))))))))))
theorem ccL_all : ∀ x ∈ ccL, LineOK Tryz.prog 57 x.1 x.2 := lines_append ccL_0_all (lines_append ccL_1_all (lines_append ccL_2_all (lines_append ccL_3_all (lines_append ccL_4_all (lines_append ccL_5_all (lines_append ccL_6_all (lines_append ccL_7_all (lines_append ccL_8_all (lines_append ccL_9_all (lines_append ccL_10_all (lines_append ccL_11_all (lines_append ccL_12_all (lines_append ccL_13_all (lines_append ccL_14_all (lines_append ccL_15_all (lines_append ccL_16_all (lines_append ccL_17_all (lines_append ccL_18_all (lines_append ccL_19_all (lines_append ccL_20_all (lines_append ccL_21_all (lines_append ccL_22_all (lines_append ccL_23_all (lines_append ccL_24_all (ccL_25_all)))))))))))))))))))))))))
def ccC : List Line := ccC_0 ++ (ccC_1 ++ (ccC_2 ++ (ccC_3 ++ (ccC_4 ++ (ccC_5 ++ (ccC_6 ++ (ccC_7 ++ (ccC_8 ++ (ccC_9 ++ (ccC_10 ++ (ccC_11 ++ (ccC_12 ++ (ccC_13 ++ (ccC_14 ++ (ccC_15 ++ (ccC_16 ++ (ccC_17)))))))))))))))))
theorem ccC_all : ∀ x ∈ ccC, LineOK Tryz.prog 56 x.1 x.2 := lines_append ccC_0_all (lines_append ccC_1_all (lines_append ccC_2_all (lines_append ccC_3_all (lines_append ccC_4_all (lines_append ccC_5_all (lines_append ccC_6_all (lines_append ccC_7_all (lines_append ccC_8_all (lines_append ccC_9_all (lines_append ccC_10_all (lines_append ccC_11_all (lines_append ccC_12_all (lines_append ccC_13_all (lines_append ccC_14_all (lines_append ccC_15_all (lines_append ccC_16_all (ccC_17_all)))))))))))))))))
def ccT : List Line := ccT_0 ++ (ccT_1 ++ (ccT_2 ++ (ccT_3 ++ (ccT_4 ++ (ccT_5 ++ (ccT_6 ++ (ccT_7 ++ (ccT_8 ++ (ccT_9 ++ (ccT_10 ++ (ccT_11 ++ (ccT_12 ++ (ccT_13 ++ (ccT_14 ++ (ccT_15 ++ (ccT_16 ++ (ccT_17)))))))))))))))))
theorem ccT_all : ∀ x ∈ ccT, LineOK Tryz.prog 55 x.1 x.2 := lines_append ccT_0_all (lines_append ccT_1_all (lines_append ccT_2_all (lines_append ccT_3_all (lines_append ccT_4_all (lines_append ccT_5_all (lines_append ccT_6_all (lines_append ccT_7_all (lines_append ccT_8_all (lines_append ccT_9_all (lines_append ccT_10_all (lines_append ccT_11_all (lines_append ccT_12_all (lines_append ccT_13_all (lines_append ccT_14_all (lines_append ccT_15_all (lines_append ccT_16_all (ccT_17_all)))))))))))))))))
def ccAL : List Line := [([], trueR)]
theorem ccAL_all : ∀ x ∈ ccAL, LineOK Tryz.prog 13 x.1 x.2 := fun x hx => by rw [List.mem_singleton.1 hx]; exact awake_line
theorem ccLni : LineOK Tryz.prog 14 [ni] (clsS cS) := cls_of (noSpec_good _) (show PreC noSpec ni cE from by unfold PreC; kernel_rfl) (by kernel_rfl) (by kernel_rfl) (by kernel_rfl) (by kernel_rfl) (by kernel_rfl)
theorem ccLlo : LineOK Tryz.prog 14 [lo] (clsS cS) := cls_of (noSpec_good _) (show PreC noSpec lo cE from by unfold PreC; kernel_rfl) (by kernel_rfl) (by kernel_rfl) (by kernel_rfl) (by kernel_rfl) (by kernel_rfl)
def ccCL : List Line := ([ni], clsS cS) :: ([lo], clsS cS) :: clsL
theorem ccCL_all : ∀ x ∈ ccCL, LineOK Tryz.prog 14 x.1 x.2 := fun x hx => by
  rcases List.mem_cons.1 hx with rfl | hx
  · exact ccLni
  rcases List.mem_cons.1 hx with rfl | hx
  · exact ccLlo
  exact clsL_all x hx
noncomputable def ccu1_sp : Abs.Spec := lay noSpec 57 ccL
theorem ccu1_ok : Ok ccu1_sp := ok_lay (noSpec_good _) ccL_all
noncomputable def ccu2_sp : Abs.Spec := lay ccu1_sp 56 ccC
theorem ccu2_ok : Ok ccu2_sp := ok_lay ccu1_ok ccC_all
noncomputable def ccu3_sp : Abs.Spec := lay ccu2_sp 55 ccT
theorem ccu3_ok : Ok ccu3_sp := ok_lay ccu2_ok ccT_all
noncomputable def ccu4_sp : Abs.Spec := lay ccu3_sp 14 ccCL
theorem ccu4_ok : Ok ccu4_sp := ok_lay ccu3_ok ccCL_all
noncomputable def ccuccB_sp : Abs.Spec := lay ccu4_sp 58 ccB
theorem ccuccB_ok : Ok ccuccB_sp := ok_lay ccu4_ok ccB_all
noncomputable def ccuccE_sp : Abs.Spec := lay ccuccB_sp 59 ccE
theorem ccuccE_ok : Ok ccuccE_sp := ok_lay ccuccB_ok ccE_all
noncomputable def ccuccI_sp : Abs.Spec := lay ccuccE_sp 24 ccI
theorem ccuccI_ok : Ok ccuccI_sp := ok_lay ccuccE_ok ccI_all
noncomputable def cc_sp : Abs.Spec := lay ccuccI_sp 13 ccAL
theorem cc_ok : Ok cc_sp := ok_lay ccuccI_ok ccAL_all
end Go.Proofs.YtkedcelpadiakaaGreat
