/- Of the law: texts of its proof, joined (part 8). -/
import Derived.Test.YtkedcelpadiakaaGreatQtp7
set_option linter.all false
namespace Go.Proofs.YtkedcelpadiakaaGreat
open Go Go.Abs Go.Num
def cycR (f : List Int) : Res := match cycP f with
  | [] => (nilV, [])
  | x :: l => (sliceA 0 0 (x :: l).length 1, [ints (x :: l)])
def cycL (l : List (List Int)) : List Line := l.map fun f => ([.li (ints f)], cycR f)
theorem cyc0 : ∀ x ∈ cycL (permsP 0), LineOK Tryz.prog 99 x.1 x.2 := ok_of (noSpec_good _) (show Seen noSpec 99 _ from by unfold Seen; kernel_rfl)
theorem cyc1 : ∀ x ∈ cycL (permsP 1), LineOK Tryz.prog 99 x.1 x.2 := ok_of (noSpec_good _) (show Seen noSpec 99 _ from by unfold Seen; kernel_rfl)
theorem cyc2 : ∀ x ∈ cycL (permsP 2), LineOK Tryz.prog 99 x.1 x.2 := ok_of (noSpec_good _) (show Seen noSpec 99 _ from by unfold Seen; kernel_rfl)
theorem cyc3 : ∀ x ∈ cycL (permsP 3), LineOK Tryz.prog 99 x.1 x.2 := ok_of (noSpec_good _) (show Seen noSpec 99 _ from by unfold Seen; kernel_rfl)
theorem cyc4 : ∀ x ∈ cycL (permsP 4), LineOK Tryz.prog 99 x.1 x.2 := ok_of (noSpec_good _) (show Seen noSpec 99 _ from by unfold Seen; kernel_rfl)
theorem cyc5a : ∀ x ∈ cycL ((permsP 5).take 60), LineOK Tryz.prog 99 x.1 x.2 := ok_of (noSpec_good _) (show Seen noSpec 99 _ from by unfold Seen; kernel_rfl)
theorem cyc5b : ∀ x ∈ cycL ((permsP 5).drop 60), LineOK Tryz.prog 99 x.1 x.2 := ok_of (noSpec_good _) (show Seen noSpec 99 _ from by unfold Seen; kernel_rfl)
theorem cycN : LineOK Tryz.prog 99 [.imm nilV] (nilV, []) := ok_of (noSpec_good _) (l := [([.imm nilV], (nilV, []))]) (show Seen noSpec 99 _ from by unfold Seen; kernel_rfl) _ (List.mem_singleton.2 rfl)
theorem cycLo : LineOK Tryz.prog 99 [.imm lostSlice] (nilV, []) := ok_of (noSpec_good _) (l := [([.imm lostSlice], (nilV, []))]) (show Seen noSpec 99 _ from by unfold Seen; kernel_rfl) _ (List.mem_singleton.2 rfl)
theorem cyc_all {n : Nat} (hn : n ≤ 5) {f : List Int} (hf : f ∈ permsP n) : LineOK Tryz.prog 99 [.li (ints f)] (cycR f) := by
  have mk : ∀ {l : List (List Int)}, (∀ x ∈ cycL l, LineOK Tryz.prog 99 x.1 x.2) → f ∈ l → LineOK Tryz.prog 99 [.li (ints f)] (cycR f) := fun h hm => h ([.li (ints f)], cycR f) (List.mem_map.2 ⟨f, hm, rfl⟩)
  have h : n = 0 ∨ n = 1 ∨ n = 2 ∨ n = 3 ∨ n = 4 ∨ n = 5 := by omega
  rcases h with rfl | rfl | rfl | rfl | rfl | rfl
  · exact mk cyc0 hf
  · exact mk cyc1 hf
  · exact mk cyc2 hf
  · exact mk cyc3 hf
  · exact mk cyc4 hf
  · rw [← List.take_append_drop 60 (permsP 5)] at hf
    rcases List.mem_append.1 hf with hf | hf
    · exact mk cyc5a hf
    · exact mk cyc5b hf
end Go.Proofs.YtkedcelpadiakaaGreat
