/- Of the law: texts of its proof, joined (part 13). -/
import Derived.Test.YtopmcphepoiigaaQfb12
set_option linter.all false
namespace Go.Proofs.Ytopmcphepoiigaa
open Go Go.Abs Go.Num
def okS (z : Int) : Res := bif decide (z = 0) then (.tuple #[nilV, posV 0], []) else (.tuple #[sliceA 0 0 1 1, posV 0], [[.int .i64 z]])
def frcL (l : List (List Int × Int)) : List Line := l.map fun x => ([.li (ints x.1)], okS x.2)
theorem frcN : LineOK Try.prog 14 [.imm nilV] (okS 1) := ok_of (noSpec_good _) (l := [([.imm nilV], okS 1)]) (show Seen noSpec 14 _ from by unfold Seen; kernel_rfl) _ (List.mem_singleton.2 rfl)
theorem frcLo : LineOK Try.prog 14 [.imm lostSlice] (okS 1) := ok_of (noSpec_good _) (l := [([.imm lostSlice], okS 1)]) (show Seen noSpec 14 _ from by unfold Seen; kernel_rfl) _ (List.mem_singleton.2 rfl)
theorem frc0 : ∀ x ∈ frcL ((frcT.drop 0).take 7), LineOK Try.prog 14 x.1 x.2 := ok_of (noSpec_good _) (show Seen noSpec 14 _ from by unfold Seen; kernel_rfl)
theorem frc1 : ∀ x ∈ frcL ((frcT.drop 7).take 5), LineOK Try.prog 14 x.1 x.2 := ok_of (noSpec_good _) (show Seen noSpec 14 _ from by unfold Seen; kernel_rfl)
theorem frc2 : ∀ x ∈ frcL ((frcT.drop 12).take 1), LineOK Try.prog 14 x.1 x.2 := ok_of (noSpec_good _) (show Seen noSpec 14 _ from by unfold Seen; kernel_rfl)
theorem frc3 : ∀ x ∈ frcL ((frcT.drop 13).take 1), LineOK Try.prog 14 x.1 x.2 := ok_of (noSpec_good _) (show Seen noSpec 14 _ from by unfold Seen; kernel_rfl)
theorem frc4 : ∀ x ∈ frcL ((frcT.drop 14).take 1), LineOK Try.prog 14 x.1 x.2 := ok_of (noSpec_good _) (show Seen noSpec 14 _ from by unfold Seen; kernel_rfl)
theorem frc5 : ∀ x ∈ frcL ((frcT.drop 15).take 1), LineOK Try.prog 14 x.1 x.2 := ok_of (noSpec_good _) (show Seen noSpec 14 _ from by unfold Seen; kernel_rfl)
theorem frc6 : ∀ x ∈ frcL ((frcT.drop 16).take 1), LineOK Try.prog 14 x.1 x.2 := ok_of (noSpec_good _) (show Seen noSpec 14 _ from by unfold Seen; kernel_rfl)
theorem frc7 : ∀ x ∈ frcL ((frcT.drop 17).take 1), LineOK Try.prog 14 x.1 x.2 := ok_of (noSpec_good _) (show Seen noSpec 14 _ from by unfold Seen; kernel_rfl)
theorem frc8 : ∀ x ∈ frcL ((frcT.drop 18).take 1), LineOK Try.prog 14 x.1 x.2 := ok_of (noSpec_good _) (show Seen noSpec 14 _ from by unfold Seen; kernel_rfl)
theorem frc_all {x : List Int × Int} (h : x ∈ frcT) : LineOK Try.prog 14 [.li (ints x.1)] (okS x.2) := by
  have mk : ∀ {l : List (List Int × Int)}, (∀ y ∈ frcL l, LineOK Try.prog 14 y.1 y.2) → x ∈ l → LineOK Try.prog 14 [.li (ints x.1)] (okS x.2) := fun h hm => h ([.li (ints x.1)], okS x.2) (List.mem_map.2 ⟨x, hm, rfl⟩)
  have e : frcT = (frcT.drop 0).take 7 ++ (frcT.drop 7).take 5 ++ (frcT.drop 12).take 1 ++ (frcT.drop 13).take 1 ++ (frcT.drop 14).take 1 ++ (frcT.drop 15).take 1 ++ (frcT.drop 16).take 1 ++ (frcT.drop 17).take 1 ++ (frcT.drop 18).take 1 := rfl
  rw [e] at h
  simp only [List.mem_append] at h
  rcases h with ((((((((h | h) | h) | h) | h) | h) | h) | h) | h)
  · exact mk frc0 h
  · exact mk frc1 h
  · exact mk frc2 h
  · exact mk frc3 h
  · exact mk frc4 h
  · exact mk frc5 h
  · exact mk frc6 h
  · exact mk frc7 h
  · exact mk frc8 h
end Go.Proofs.Ytopmcphepoiigaa
