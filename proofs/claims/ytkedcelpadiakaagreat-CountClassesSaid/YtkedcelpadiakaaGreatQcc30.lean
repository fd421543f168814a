/- Of the law: texts of its proof, joined (part 30). -/
import Derived.Test.YtkedcelpadiakaaGreatQcc8
set_option linter.all false
namespace Go.Proofs.YtkedcelpadiakaaGreat
open Go Go.Abs
theorem awake_line : LineOK Tryz.prog 13 [] trueR :=
  ok_of (noSpec_good _) (l := [([], trueR)]) (show Seen noSpec 13 [([], trueR)] from by unfold Seen; kernel_rfl) _ (List.mem_singleton.2 rfl)
end Go.Proofs.YtkedcelpadiakaaGreat
