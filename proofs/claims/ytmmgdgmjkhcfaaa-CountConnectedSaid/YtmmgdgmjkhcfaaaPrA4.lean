/- Tables of what the law of the pairs meets, over those of the law of the tables. -/
import Derived.Test.YtmmgdgmjkhcfaaaPrA3
set_option linter.all false
namespace Go.Proofs.Ytmmgdgmjkhcfaaa
open Go Go.Abs
def prRquotientb0 : List Line := bin (· / ·) rN [(10081, 15), (10081, 17), (10081, 21), (10081, 25), (10081, 29), (10081, 31), (10081, 37), (10081, 41)]
theorem prRquotientb0_seen : ∀ x ∈ prRquotientb0, LineOK Try.prog 69 x.1 x.2 := ok_of prRquotienta_ok (show Seen prRquotienta_sp 69 prRquotientb0 from by unfold Seen; kernel_rfl)
def prRquotientb : List Line := prRquotientb0
theorem prRquotientb_seen : ∀ x ∈ prRquotientb, LineOK Try.prog 69 x.1 x.2 := prRquotientb0_seen
noncomputable def prRquotientb_sp : Abs.Spec := lay prRquotienta_sp 69 prRquotientb
theorem prRquotientb_ok : Ok prRquotientb_sp := ok_lay prRquotienta_ok prRquotientb_seen
def prRquotientc0 : List Line := bin (· / ·) rN [(10081, 43), (10081, 49), (10081, 71), (10081, 97), (10081, 145), (10081, 289), (10081, 481), (10081, 505)]
theorem prRquotientc0_seen : ∀ x ∈ prRquotientc0, LineOK Try.prog 69 x.1 x.2 := ok_of prRquotientb_ok (show Seen prRquotientb_sp 69 prRquotientc0 from by unfold Seen; kernel_rfl)
def prRquotientc1 : List Line := bin (· / ·) rN [(10081, 673), (10081, 721), (10081, 1681), (10081, 10081), (80641, 3), (80641, 15), (80641, 17), (80641, 21)]
theorem prRquotientc1_seen : ∀ x ∈ prRquotientc1, LineOK Try.prog 69 x.1 x.2 := ok_of prRquotientb_ok (show Seen prRquotientb_sp 69 prRquotientc1 from by unfold Seen; kernel_rfl)
def prRquotientc2 : List Line := bin (· / ·) rN [(80641, 25), (80641, 29), (80641, 31), (80641, 33), (80641, 41), (80641, 43), (80641, 49), (80641, 57)]
theorem prRquotientc2_seen : ∀ x ∈ prRquotientc2, LineOK Try.prog 69 x.1 x.2 := ok_of prRquotientb_ok (show Seen prRquotientb_sp 69 prRquotientc2 from by unfold Seen; kernel_rfl)
def prRquotientc3 : List Line := bin (· / ·) rN [(80641, 61), (80641, 65), (80641, 71), (80641, 73), (80641, 85), (80641, 113), (80641, 129), (80641, 141)]
theorem prRquotientc3_seen : ∀ x ∈ prRquotientc3, LineOK Try.prog 69 x.1 x.2 := ok_of prRquotientb_ok (show Seen prRquotientb_sp 69 prRquotientc3 from by unfold Seen; kernel_rfl)
def prRquotientc4 : List Line := bin (· / ·) rN [(80641, 181), (80641, 193), (80641, 385), (80641, 721), (80641, 769), (80641, 897), (80641, 1153), (80641, 1261)]
theorem prRquotientc4_seen : ∀ x ∈ prRquotientc4, LineOK Try.prog 69 x.1 x.2 := ok_of prRquotientb_ok (show Seen prRquotientb_sp 69 prRquotientc4 from by unfold Seen; kernel_rfl)
def prRquotientc5 : List Line := bin (· / ·) rN [(80641, 1441), (80641, 1921), (80641, 2305), (80641, 2881), (80641, 3841), (80641, 4033), (80641, 5761), (80641, 11521)]
theorem prRquotientc5_seen : ∀ x ∈ prRquotientc5, LineOK Try.prog 69 x.1 x.2 := ok_of prRquotientb_ok (show Seen prRquotientb_sp 69 prRquotientc5 from by unfold Seen; kernel_rfl)
def prRquotientc6 : List Line := bin (· / ·) rN [(80641, 80641)]
theorem prRquotientc6_seen : ∀ x ∈ prRquotientc6, LineOK Try.prog 69 x.1 x.2 := ok_of prRquotientb_ok (show Seen prRquotientb_sp 69 prRquotientc6 from by unfold Seen; kernel_rfl)
def prRquotientc : List Line := prRquotientc0 ++ prRquotientc1 ++ prRquotientc2 ++ prRquotientc3 ++ prRquotientc4 ++ prRquotientc5 ++ prRquotientc6
theorem prRquotientc_seen : ∀ x ∈ prRquotientc, LineOK Try.prog 69 x.1 x.2 := (lines_append (lines_append (lines_append (lines_append (lines_append (lines_append prRquotientc0_seen prRquotientc1_seen) prRquotientc2_seen) prRquotientc3_seen) prRquotientc4_seen) prRquotientc5_seen) prRquotientc6_seen)
noncomputable def prRquotientc_sp : Abs.Spec := lay prRquotientb_sp 69 prRquotientc
theorem prRquotientc_ok : Ok prRquotientc_sp := ok_lay prRquotientb_ok prRquotientc_seen
def prOf0 : List Line := ofs [4, 5, 6, 7, 8]
theorem prOf0_seen : ∀ x ∈ prOf0, LineOK Try.prog 79 x.1 x.2 := ok_of prRquotientc_ok (show Seen prRquotientc_sp 79 prOf0 from by unfold Seen; kernel_rfl)
def prOf : List Line := prOf0
theorem prOf_seen : ∀ x ∈ prOf, LineOK Try.prog 79 x.1 x.2 := prOf0_seen
noncomputable def prOf_sp : Abs.Spec := lay prRquotientc_sp 79 prOf
theorem prOf_ok : Ok prOf_sp := ok_lay prRquotientc_ok prOf_seen
def prPovera0 : List Line := bin (· / ·) pN [(49, 3), (49, 5), (49, 7), (49, 9), (49, 17), (49, 25), (49, 49), (241, 3)]
theorem prPovera0_seen : ∀ x ∈ prPovera0, LineOK Try.prog 102 x.1 x.2 := ok_of prOf_ok (show Seen prOf_sp 102 prPovera0 from by unfold Seen; kernel_rfl)
def prPovera1 : List Line := bin (· / ·) pN [(241, 9), (241, 11), (241, 13), (241, 17), (241, 25), (241, 41), (241, 49), (241, 61)]
theorem prPovera1_seen : ∀ x ∈ prPovera1, LineOK Try.prog 102 x.1 x.2 := ok_of prOf_ok (show Seen prOf_sp 102 prPovera1 from by unfold Seen; kernel_rfl)
def prPovera2 : List Line := bin (· / ·) pN [(241, 241), (1441, 3), (1441, 11), (1441, 13), (1441, 17), (1441, 19), (1441, 21), (1441, 33)]
theorem prPovera2_seen : ∀ x ∈ prPovera2, LineOK Try.prog 102 x.1 x.2 := ok_of prOf_ok (show Seen prOf_sp 102 prPovera2 from by unfold Seen; kernel_rfl)
def prPovera3 : List Line := bin (· / ·) pN [(1441, 37), (1441, 91), (1441, 97), (1441, 145), (1441, 161), (1441, 289), (1441, 1441), (10081, 3)]
theorem prPovera3_seen : ∀ x ∈ prPovera3, LineOK Try.prog 102 x.1 x.2 := ok_of prOf_ok (show Seen prOf_sp 102 prPovera3 from by unfold Seen; kernel_rfl)
def prPovera4 : List Line := bin (· / ·) pN [(10081, 13), (10081, 15), (10081, 17), (10081, 21), (10081, 25), (10081, 29), (10081, 31), (10081, 37)]
theorem prPovera4_seen : ∀ x ∈ prPovera4, LineOK Try.prog 102 x.1 x.2 := ok_of prOf_ok (show Seen prOf_sp 102 prPovera4 from by unfold Seen; kernel_rfl)
def prPovera5 : List Line := bin (· / ·) pN [(10081, 41), (10081, 43), (10081, 49), (10081, 71), (10081, 97), (10081, 145), (10081, 289), (10081, 481)]
theorem prPovera5_seen : ∀ x ∈ prPovera5, LineOK Try.prog 102 x.1 x.2 := ok_of prOf_ok (show Seen prOf_sp 102 prPovera5 from by unfold Seen; kernel_rfl)
def prPovera6 : List Line := bin (· / ·) pN [(10081, 505), (10081, 673), (10081, 721), (10081, 1681), (10081, 10081), (80641, 3), (80641, 15), (80641, 17)]
theorem prPovera6_seen : ∀ x ∈ prPovera6, LineOK Try.prog 102 x.1 x.2 := ok_of prOf_ok (show Seen prOf_sp 102 prPovera6 from by unfold Seen; kernel_rfl)
def prPovera : List Line := prPovera0 ++ prPovera1 ++ prPovera2 ++ prPovera3 ++ prPovera4 ++ prPovera5 ++ prPovera6
theorem prPovera_seen : ∀ x ∈ prPovera, LineOK Try.prog 102 x.1 x.2 := (lines_append (lines_append (lines_append (lines_append (lines_append (lines_append prPovera0_seen prPovera1_seen) prPovera2_seen) prPovera3_seen) prPovera4_seen) prPovera5_seen) prPovera6_seen)
noncomputable def prPovera_sp : Abs.Spec := lay prOf_sp 102 prPovera
theorem prPovera_ok : Ok prPovera_sp := ok_lay prOf_ok prPovera_seen
end Go.Proofs.Ytmmgdgmjkhcfaaa
