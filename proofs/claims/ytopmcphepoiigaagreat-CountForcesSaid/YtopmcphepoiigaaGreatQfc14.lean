/- Of the law: texts of its proof, joined (part 14). -/
import Derived.Test.YtopmcphepoiigaaGreatQfc13
set_option linter.all false
namespace Go.Proofs.YtopmcphepoiigaaGreat
open Go Go.Abs Go.Num
def refS (z : Int) : Res := bif decide (z = 0) then (sliceA 0 0 0 1, [[]]) else (sliceA 0 0 1 1, [[.int .i64 z]])
def rfL (l : List (List Int × Int)) : List Line := l.map fun x => ([.li (ints x.1)], refS x.2)
theorem rfN : LineOK Tryz.prog 14 [.imm nilV] (refS 1) := ok_of typ_ok (l := [([.imm nilV], refS 1)]) (show Seen typ_sp 14 _ from by unfold Seen; kernel_rfl) _ (List.mem_singleton.2 rfl)
theorem rfLo : LineOK Tryz.prog 14 [.imm lostSlice] (refS 1) := ok_of typ_ok (l := [([.imm lostSlice], refS 1)]) (show Seen typ_sp 14 _ from by unfold Seen; kernel_rfl) _ (List.mem_singleton.2 rfl)
theorem rf0 : ∀ x ∈ rfL ((frcT.drop 0).take 7), LineOK Tryz.prog 14 x.1 x.2 := ok_of typ_ok (show Seen typ_sp 14 _ from by unfold Seen; kernel_rfl)
theorem rf1 : ∀ x ∈ rfL ((frcT.drop 7).take 1), LineOK Tryz.prog 14 x.1 x.2 := ok_of typ_ok (show Seen typ_sp 14 _ from by unfold Seen; kernel_rfl)
theorem rf2 : ∀ x ∈ rfL ((frcT.drop 8).take 1), LineOK Tryz.prog 14 x.1 x.2 := ok_of typ_ok (show Seen typ_sp 14 _ from by unfold Seen; kernel_rfl)
theorem rf3 : ∀ x ∈ rfL ((frcT.drop 9).take 1), LineOK Tryz.prog 14 x.1 x.2 := ok_of typ_ok (show Seen typ_sp 14 _ from by unfold Seen; kernel_rfl)
theorem rf4 : ∀ x ∈ rfL ((frcT.drop 10).take 1), LineOK Tryz.prog 14 x.1 x.2 := ok_of typ_ok (show Seen typ_sp 14 _ from by unfold Seen; kernel_rfl)
theorem rf5 : ∀ x ∈ rfL ((frcT.drop 11).take 1), LineOK Tryz.prog 14 x.1 x.2 := ok_of typ_ok (show Seen typ_sp 14 _ from by unfold Seen; kernel_rfl)
theorem rf_all {x : List Int × Int} (h : x ∈ frcT.take 12) : LineOK Tryz.prog 14 [.li (ints x.1)] (refS x.2) := by
  have mk : ∀ {l : List (List Int × Int)}, (∀ y ∈ rfL l, LineOK Tryz.prog 14 y.1 y.2) → x ∈ l → LineOK Tryz.prog 14 [.li (ints x.1)] (refS x.2) := fun h hm => h ([.li (ints x.1)], refS x.2) (List.mem_map.2 ⟨x, hm, rfl⟩)
  have e : frcT.take 12 = (frcT.drop 0).take 7 ++ (frcT.drop 7).take 1 ++ (frcT.drop 8).take 1 ++ (frcT.drop 9).take 1 ++ (frcT.drop 10).take 1 ++ (frcT.drop 11).take 1 := rfl
  rw [e] at h
  simp only [List.mem_append] at h
  rcases h with (((((h | h) | h) | h) | h) | h)
  · exact mk rf0 h
  · exact mk rf1 h
  · exact mk rf2 h
  · exact mk rf3 h
  · exact mk rf4 h
  · exact mk rf5 h
end Go.Proofs.YtopmcphepoiigaaGreat
