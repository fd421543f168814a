/- Tables of what the law of the connected pairs meets, over those of the law of the pairs. -/
import Derived.Test.YtmmgdgmjkhcfaaaCoA1
set_option linter.all false
namespace Go.Proofs.Ytmmgdgmjkhcfaaa
open Go Go.Abs
def coPoverb0 : List Line := bin (· / ·) pN [(136081, 721), (184321, 1441), (324001, 1441), (907201, 10081), (1612801, 10081), (3628801, 10081), (4898881, 10081), (7812001, 10081)]
theorem coPoverb0_seen : ∀ x ∈ coPoverb0, LineOK Try.prog 102 x.1 x.2 := ok_of coPovera_ok (show Seen coPovera_sp 102 coPoverb0 from by unfold Seen; kernel_rfl)
def coPoverb : List Line := coPoverb0
theorem coPoverb_seen : ∀ x ∈ coPoverb, LineOK Try.prog 102 x.1 x.2 := coPoverb0_seen
noncomputable def coPoverb_sp : Abs.Spec := lay coPovera_sp 102 coPoverb
theorem coPoverb_ok : Ok coPoverb_sp := ok_lay coPovera_ok coPoverb_seen
def coPoverc0 : List Line := bin (· / ·) pN [(10321921, 10081), (12700801, 10081)]
theorem coPoverc0_seen : ∀ x ∈ coPoverc0, LineOK Try.prog 102 x.1 x.2 := ok_of coPoverb_ok (show Seen coPoverb_sp 102 coPoverc0 from by unfold Seen; kernel_rfl)
def coPoverc : List Line := coPoverc0
theorem coPoverc_seen : ∀ x ∈ coPoverc, LineOK Try.prog 102 x.1 x.2 := coPoverc0_seen
noncomputable def coPoverc_sp : Abs.Spec := lay coPoverb_sp 102 coPoverc
theorem coPoverc_ok : Ok coPoverc_sp := ok_lay coPoverb_ok coPoverc_seen
def coPGcd0 : List Line := bin gcdZ pN [(0, 5), (0, 13), (0, 49), (0, 241), (0, 1441), (0, 10081), (3, 3), (17, 13)]
theorem coPGcd0_seen : ∀ x ∈ coPGcd0, LineOK Try.prog 107 x.1 x.2 := ok_of coPoverc_ok (show Seen coPoverc_sp 107 coPGcd0 from by unfold Seen; kernel_rfl)
def coPGcd1 : List Line := bin gcdZ pN [(37, 13), (85, 49), (289, 241), (337, 49), (433, 49), (2881, 1441), (5761, 241), (6481, 241)]
theorem coPGcd1_seen : ∀ x ∈ coPGcd1, LineOK Try.prog 107 x.1 x.2 := ok_of coPoverc_ok (show Seen coPoverc_sp 107 coPGcd1 from by unfold Seen; kernel_rfl)
def coPGcd2 : List Line := bin gcdZ pN [(9601, 241), (11521, 10081), (64801, 1441), (115201, 1441), (136081, 1441), (184321, 1441), (324001, 1441), (907201, 10081)]
theorem coPGcd2_seen : ∀ x ∈ coPGcd2, LineOK Try.prog 107 x.1 x.2 := ok_of coPoverc_ok (show Seen coPoverc_sp 107 coPGcd2 from by unfold Seen; kernel_rfl)
def coPGcd3 : List Line := bin gcdZ pN [(1612801, 10081), (3628801, 10081), (4898881, 10081), (7812001, 10081), (10321921, 10081), (12700801, 10081)]
theorem coPGcd3_seen : ∀ x ∈ coPGcd3, LineOK Try.prog 107 x.1 x.2 := ok_of coPoverc_ok (show Seen coPoverc_sp 107 coPGcd3 from by unfold Seen; kernel_rfl)
def coPGcd : List Line := coPGcd0 ++ coPGcd1 ++ coPGcd2 ++ coPGcd3
theorem coPGcd_seen : ∀ x ∈ coPGcd, LineOK Try.prog 107 x.1 x.2 := (lines_append (lines_append (lines_append coPGcd0_seen coPGcd1_seen) coPGcd2_seen) coPGcd3_seen)
noncomputable def coPGcd_sp : Abs.Spec := lay coPoverc_sp 107 coPGcd
theorem coPGcd_ok : Ok coPGcd_sp := ok_lay coPoverc_ok coPGcd_seen
def coRGcd0 : List Line := bin gcdZ rN [(1, 5), (1, 13), (1, 49), (1, 241), (1, 1441), (1, 10081), (3, 3), (7, 5)]
theorem coRGcd0_seen : ∀ x ∈ coRGcd0, LineOK Try.prog 109 x.1 x.2 := ok_of coPGcd_ok (show Seen coPGcd_sp 109 coRGcd0 from by unfold Seen; kernel_rfl)
def coRGcd1 : List Line := bin gcdZ rN [(17, 13), (37, 13), (85, 49), (289, 241), (337, 49), (433, 49), (2881, 1441), (5761, 241)]
theorem coRGcd1_seen : ∀ x ∈ coRGcd1, LineOK Try.prog 109 x.1 x.2 := ok_of coPGcd_ok (show Seen coPGcd_sp 109 coRGcd1 from by unfold Seen; kernel_rfl)
def coRGcd2 : List Line := bin gcdZ rN [(6481, 241), (9601, 241), (11521, 10081), (64801, 1441), (115201, 1441), (136081, 1441), (184321, 1441), (324001, 1441)]
theorem coRGcd2_seen : ∀ x ∈ coRGcd2, LineOK Try.prog 109 x.1 x.2 := ok_of coPGcd_ok (show Seen coPGcd_sp 109 coRGcd2 from by unfold Seen; kernel_rfl)
def coRGcd3 : List Line := bin gcdZ rN [(907201, 10081), (1612801, 10081), (3628801, 10081), (4898881, 10081), (7812001, 10081), (10321921, 10081), (12700801, 10081)]
theorem coRGcd3_seen : ∀ x ∈ coRGcd3, LineOK Try.prog 109 x.1 x.2 := ok_of coPGcd_ok (show Seen coPGcd_sp 109 coRGcd3 from by unfold Seen; kernel_rfl)
def coRGcd : List Line := coRGcd0 ++ coRGcd1 ++ coRGcd2 ++ coRGcd3
theorem coRGcd_seen : ∀ x ∈ coRGcd, LineOK Try.prog 109 x.1 x.2 := (lines_append (lines_append (lines_append coRGcd0_seen coRGcd1_seen) coRGcd2_seen) coRGcd3_seen)
noncomputable def coRGcd_sp : Abs.Spec := lay coPGcd_sp 109 coRGcd
theorem coRGcd_ok : Ok coRGcd_sp := ok_lay coPGcd_ok coRGcd_seen
end Go.Proofs.Ytmmgdgmjkhcfaaa
