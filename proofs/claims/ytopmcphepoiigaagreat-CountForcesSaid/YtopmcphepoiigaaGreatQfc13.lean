/- Of the law: texts of its proof, joined (part 13). -/
import Derived.Test.YtopmcphepoiigaaGreatQfc12
set_option linter.all false
namespace Go.Proofs.YtopmcphepoiigaaGreat
open Go Go.Abs Go.Num
def typR (k : List Int) : Res := (sliceA 0 0 k.length 1, [ints k])
def typL (n : Nat) (rs : List (List Int)) : List Line := rs.flatMap fun r => (permsP n).map fun u => ([.li (ints r), .li (ints u)], typR (kindP r u))
theorem typ1 : ∀ x ∈ typL 1 (permsP 1), LineOK Tryz.prog 40 x.1 x.2 := ok_of (noSpec_good _) (show Seen noSpec 40 _ from by unfold Seen; kernel_rfl)
theorem typ2 : ∀ x ∈ typL 2 (permsP 2), LineOK Tryz.prog 40 x.1 x.2 := ok_of (noSpec_good _) (show Seen noSpec 40 _ from by unfold Seen; kernel_rfl)
theorem typ3 : ∀ x ∈ typL 3 (permsP 3), LineOK Tryz.prog 40 x.1 x.2 := ok_of (noSpec_good _) (show Seen noSpec 40 _ from by unfold Seen; kernel_rfl)
theorem typ4_0 : ∀ x ∈ typL 4 (((permsP 4).drop 0).take 3), LineOK Tryz.prog 40 x.1 x.2 := ok_of (noSpec_good _) (show Seen noSpec 40 _ from by unfold Seen; kernel_rfl)
theorem typ4_1 : ∀ x ∈ typL 4 (((permsP 4).drop 3).take 3), LineOK Tryz.prog 40 x.1 x.2 := ok_of (noSpec_good _) (show Seen noSpec 40 _ from by unfold Seen; kernel_rfl)
theorem typ4_2 : ∀ x ∈ typL 4 (((permsP 4).drop 6).take 3), LineOK Tryz.prog 40 x.1 x.2 := ok_of (noSpec_good _) (show Seen noSpec 40 _ from by unfold Seen; kernel_rfl)
theorem typ4_3 : ∀ x ∈ typL 4 (((permsP 4).drop 9).take 3), LineOK Tryz.prog 40 x.1 x.2 := ok_of (noSpec_good _) (show Seen noSpec 40 _ from by unfold Seen; kernel_rfl)
theorem typ4_4 : ∀ x ∈ typL 4 (((permsP 4).drop 12).take 3), LineOK Tryz.prog 40 x.1 x.2 := ok_of (noSpec_good _) (show Seen noSpec 40 _ from by unfold Seen; kernel_rfl)
theorem typ4_5 : ∀ x ∈ typL 4 (((permsP 4).drop 15).take 3), LineOK Tryz.prog 40 x.1 x.2 := ok_of (noSpec_good _) (show Seen noSpec 40 _ from by unfold Seen; kernel_rfl)
theorem typ4_6 : ∀ x ∈ typL 4 (((permsP 4).drop 18).take 3), LineOK Tryz.prog 40 x.1 x.2 := ok_of (noSpec_good _) (show Seen noSpec 40 _ from by unfold Seen; kernel_rfl)
theorem typ4_7 : ∀ x ∈ typL 4 (((permsP 4).drop 21).take 3), LineOK Tryz.prog 40 x.1 x.2 := ok_of (noSpec_good _) (show Seen noSpec 40 _ from by unfold Seen; kernel_rfl)
def typLines : List Line := typL 1 (permsP 1) ++ (typL 2 (permsP 2) ++ (typL 3 (permsP 3) ++ (typL 4 (((permsP 4).drop 0).take 3) ++ (typL 4 (((permsP 4).drop 3).take 3) ++ (typL 4 (((permsP 4).drop 6).take 3) ++ (typL 4 (((permsP 4).drop 9).take 3) ++ (typL 4 (((permsP 4).drop 12).take 3) ++ (typL 4 (((permsP 4).drop 15).take 3) ++ (typL 4 (((permsP 4).drop 18).take 3) ++ (typL 4 (((permsP 4).drop 21).take 3)))))))))))
theorem typ_seen : ∀ x ∈ typLines, LineOK Tryz.prog 40 x.1 x.2 := (lines_append typ1 (lines_append typ2 (lines_append typ3 (lines_append typ4_0 (lines_append typ4_1 (lines_append typ4_2 (lines_append typ4_3 (lines_append typ4_4 (lines_append typ4_5 (lines_append typ4_6 typ4_7))))))))))
noncomputable def typ_sp : Abs.Spec := lay noSpec 40 typLines
theorem typ_ok : Ok typ_sp := ok_lay (noSpec_good _) typ_seen
end Go.Proofs.YtopmcphepoiigaaGreat
