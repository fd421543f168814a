/- Of the law: texts of its proof, joined (part 9). -/
import Derived.Test.YtmmgdgmjkhcfaaaGreatQcy8
set_option linter.all false
namespace Go.Proofs.YtmmgdgmjkhcfaaaGreat
open Go Go.Abs
theorem awake_line : LineOK Tryz.prog 5 [] trueR :=
  ok_of (noSpec_good _) (l := [([], trueR)]) (show Seen noSpec 5 [([], trueR)] from by unfold Seen; kernel_rfl) _ (List.mem_singleton.2 rfl)
end Go.Proofs.YtmmgdgmjkhcfaaaGreat
