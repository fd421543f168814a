/- Of the law: texts of its proof, joined (part 13). -/
import Derived.Test.YtmmgdgmjkhcfaaaQor12
set_option linter.all false
namespace Go.Proofs.Ytmmgdgmjkhcfaaa
open Go Go.Abs
theorem orTab8 : ∀ x ∈ [([i 8], tabR 8)], LineOK Try.prog 41 x.1 x.2 := ok_of orKeyb_ok (show Seen orKeyb_sp 41 _ from by unfold Seen; kernel_rfl)
end Go.Proofs.Ytmmgdgmjkhcfaaa
