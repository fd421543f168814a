/- Of the law: texts of its proof, joined (part 14). -/
import Derived.Test.YtopmcphepoiigaaQfb13
set_option linter.all false
namespace Go.Proofs.Ytopmcphepoiigaa
open Go Go.Abs
theorem awake_line : LineOK Try.prog 12 [] trueR :=
  ok_of (noSpec_good _) (l := [([], trueR)]) (show Seen noSpec 12 [([], trueR)] from by unfold Seen; kernel_rfl) _ (List.mem_singleton.2 rfl)
end Go.Proofs.Ytopmcphepoiigaa
