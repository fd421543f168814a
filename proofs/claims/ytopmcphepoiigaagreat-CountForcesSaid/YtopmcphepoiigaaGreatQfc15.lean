/- Of the law: texts of its proof, joined (part 15). -/
import Derived.Test.YtopmcphepoiigaaGreatQfc14
set_option linter.all false
namespace Go.Proofs.YtopmcphepoiigaaGreat
open Go Go.Abs
theorem awake_line : LineOK Tryz.prog 11 [] trueR :=
  ok_of (noSpec_good _) (l := [([], trueR)]) (show Seen noSpec 11 [([], trueR)] from by unfold Seen; kernel_rfl) _ (List.mem_singleton.2 rfl)
end Go.Proofs.YtopmcphepoiigaaGreat
