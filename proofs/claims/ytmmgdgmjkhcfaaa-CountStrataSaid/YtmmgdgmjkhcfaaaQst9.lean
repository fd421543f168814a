/- Of the law: texts of its proof, joined (part 9). -/
import Derived.Test.YtmmgdgmjkhcfaaaQst8
set_option linter.all false
namespace Go.Proofs.Ytmmgdgmjkhcfaaa
open Go Go.Abs
theorem awake_line : LineOK Try.prog 15 [] trueR :=
  ok_of (noSpec_good _) (l := [([], trueR)]) (show Seen noSpec 15 [([], trueR)] from by unfold Seen; kernel_rfl) _ (List.mem_singleton.2 rfl)
end Go.Proofs.Ytmmgdgmjkhcfaaa
