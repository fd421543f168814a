/- Tables of what the law of the connected pairs meets, over those of the law of the pairs. -/
import Derived.Test.YtmmgdgmjkhcfaaaPrB
set_option linter.all false
namespace Go.Proofs.Ytmmgdgmjkhcfaaa
open Go Go.Abs
def coPSub0 : List Line := bin (· - ·) pN [(29, 13), (37, 9), (133, 49), (205, 73), (241, 37), (337, 0), (541, 109), (577, 37), (625, 337), (1009, 385), (1441, 433), (1681, 241), (4321, 1441), (7105, 0), (7105, 1345), (7441, 337), (7681, 3361), (8209, 1729), (9073, 865), (9505, 433), (10081, 577), (10561, 2881), (14161, 3601), (15841, 1681), (28801, 17281), (46081, 17281), (76321, 30241), (97201, 32401), (105121, 28801), (114481, 17281), (120961, 6481), (123841, 2881), (132481, 8641), (135361, 30241), (142561, 6481), (142561, 10081), (144001, 28801), (151201, 15841), (157441, 0), (157441, 13441), (162481, 5041), (169921, 7441), (184321, 0), (372001, 48001), (381601, 9601), (1296001, 388801), (1684801, 388801), (1840321, 155521), (1905121, 64801), (1935361, 30241), (2004481, 69121), (2185921, 181441), (2304001, 691201), (2328481, 142561), (2649601, 345601), (2770561, 0), (2770561, 120961), (2810881, 40321), (2944801, 133921), (3114721, 169921)]
theorem coPSub0_seen : ∀ x ∈ coPSub0, LineOK Try.prog 35 x.1 x.2 := ok_of prRCls_ok (show Seen prRCls_sp 35 coPSub0 from by unfold Seen; kernel_rfl)
def coPSub1 : List Line := bin (· - ·) pN [(3628801, 0), (3719521, 90721), (3840481, 0), (3840481, 120961), (5715361, 816481), (5870881, 155521), (6026401, 155521), (6168961, 142561), (9756001, 1944001), (10332001, 576001), (10504801, 172801), (10886401, 381601), (11427841, 0), (11427841, 1105921), (11612161, 184321)]
theorem coPSub1_seen : ∀ x ∈ coPSub1, LineOK Try.prog 35 x.1 x.2 := ok_of prRCls_ok (show Seen prRCls_sp 35 coPSub1 from by unfold Seen; kernel_rfl)
def coPSub : List Line := coPSub0 ++ coPSub1
theorem coPSub_seen : ∀ x ∈ coPSub, LineOK Try.prog 35 x.1 x.2 := (lines_append coPSub0_seen coPSub1_seen)
noncomputable def coPSub_sp : Abs.Spec := lay prRCls_sp 35 coPSub
theorem coPSub_ok : Ok coPSub_sp := ok_lay prRCls_ok coPSub_seen
def coPMul0 : List Line := bin (· * ·) pN [(0, 0), (0, 3), (0, 9), (0, 37), (0, 241), (0, 337), (0, 577), (0, 7441), (0, 9601), (0, 10081), (3, 337), (3, 577), (3, 7441), (3, 9601), (3, 142561), (3, 169921), (3, 184321), (3, 381601), (5, 0), (5, 13), (5, 49), (7, 9), (7, 25), (7, 37), (7, 241), (7, 337), (7, 577), (7, 7441), (7, 9601), (7, 10081), (9, 0), (9, 85), (9, 109), (9, 337), (9, 433), (11, 0), (11, 721), (11, 1009), (11, 1729), (11, 5761), (11, 6481), (11, 9601), (13, 13), (13, 65), (13, 145), (13, 2881), (13, 5041), (13, 22321), (13, 28801), (13, 30241), (13, 64801), (13, 115201), (13, 136081), (13, 184321), (13, 324001), (17, 0), (17, 37), (17, 241), (17, 337), (17, 577)]
theorem coPMul0_seen : ∀ x ∈ coPMul0, LineOK Try.prog 39 x.1 x.2 := ok_of coPSub_ok (show Seen coPSub_sp 39 coPMul0 from by unfold Seen; kernel_rfl)
def coPMul1 : List Line := bin (· * ·) pN [(21, 289), (21, 337), (21, 649), (21, 1345), (21, 1729), (31, 1153), (31, 1921), (31, 2689), (31, 4321), (31, 4609), (31, 6049), (31, 10369), (31, 23041), (31, 25921), (31, 38401), (37, 0), (37, 37), (37, 241), (37, 337), (37, 577), (41, 1513), (41, 6049), (41, 7777), (85, 0), (85, 37), (289, 0), (289, 9), (337, 0), (337, 9), (337, 37), (433, 0), (433, 3), (433, 9), (433, 37), (5761, 0), (5761, 9), (6481, 0), (6481, 3), (6481, 9), (9601, 0), (9601, 3), (9601, 9), (64801, 3), (115201, 3), (136081, 3), (184321, 3), (324001, 3)]
theorem coPMul1_seen : ∀ x ∈ coPMul1, LineOK Try.prog 39 x.1 x.2 := ok_of coPSub_ok (show Seen coPSub_sp 39 coPMul1 from by unfold Seen; kernel_rfl)
def coPMul : List Line := coPMul0 ++ coPMul1
theorem coPMul_seen : ∀ x ∈ coPMul, LineOK Try.prog 39 x.1 x.2 := (lines_append coPMul0_seen coPMul1_seen)
noncomputable def coPMul_sp : Abs.Spec := lay coPSub_sp 39 coPMul
theorem coPMul_ok : Ok coPMul_sp := ok_lay coPSub_ok coPMul_seen
def coRMul0 : List Line := bin (· * ·) rN [(1, 1), (1, 3), (1, 9), (1, 37), (1, 241), (1, 337), (1, 577), (1, 7441), (1, 9601), (1, 10081), (3, 337), (3, 577), (3, 7441), (3, 9601), (3, 142561), (3, 169921), (3, 184321), (3, 381601), (5, 1), (5, 13), (5, 49), (7, 9), (7, 25), (7, 37), (7, 241), (7, 337), (7, 577), (7, 7441), (7, 9601), (7, 10081), (9, 1), (9, 85), (9, 109), (9, 337), (9, 433), (11, 1), (11, 721), (11, 1009), (11, 1729), (11, 5761), (11, 6481), (11, 9601), (13, 13), (13, 65), (13, 145), (13, 2881), (13, 5041), (13, 22321), (13, 28801), (13, 30241), (13, 64801), (13, 115201), (13, 136081), (13, 184321), (13, 324001), (17, 1), (17, 37), (17, 241), (17, 337), (17, 577)]
theorem coRMul0_seen : ∀ x ∈ coRMul0, LineOK Try.prog 68 x.1 x.2 := ok_of coPMul_ok (show Seen coPMul_sp 68 coRMul0 from by unfold Seen; kernel_rfl)
def coRMul1 : List Line := bin (· * ·) rN [(21, 289), (21, 337), (21, 649), (21, 1345), (21, 1729), (31, 1153), (31, 1921), (31, 2689), (31, 4321), (31, 4609), (31, 6049), (31, 10369), (31, 23041), (31, 25921), (31, 38401), (37, 1), (37, 37), (37, 241), (37, 337), (37, 577), (41, 1513), (41, 6049), (41, 7777), (85, 1), (85, 37), (289, 1), (289, 9), (337, 1), (337, 9), (337, 37), (433, 1), (433, 3), (433, 9), (433, 37), (5761, 1), (5761, 9), (6481, 1), (6481, 3), (6481, 9), (9601, 1), (9601, 3), (9601, 9), (64801, 3), (115201, 3), (136081, 3), (184321, 3), (324001, 3)]
theorem coRMul1_seen : ∀ x ∈ coRMul1, LineOK Try.prog 68 x.1 x.2 := ok_of coPMul_ok (show Seen coPMul_sp 68 coRMul1 from by unfold Seen; kernel_rfl)
def coRMul : List Line := coRMul0 ++ coRMul1
theorem coRMul_seen : ∀ x ∈ coRMul, LineOK Try.prog 68 x.1 x.2 := (lines_append coRMul0_seen coRMul1_seen)
noncomputable def coRMul_sp : Abs.Spec := lay coPMul_sp 68 coRMul
theorem coRMul_ok : Ok coRMul_sp := ok_lay coPMul_ok coRMul_seen
def coRquotient0 : List Line := bin (· / ·) rN [(1, 5), (1, 13), (1, 49), (1, 241), (1, 1441), (1, 10081), (7, 3), (17, 5)]
theorem coRquotient0_seen : ∀ x ∈ coRquotient0, LineOK Try.prog 69 x.1 x.2 := ok_of coRMul_ok (show Seen coRMul_sp 69 coRquotient0 from by unfold Seen; kernel_rfl)
def coRquotient1 : List Line := bin (· / ·) rN [(37, 13), (49, 13), (85, 13), (289, 49), (337, 49), (433, 49), (1441, 73), (1441, 241)]
theorem coRquotient1_seen : ∀ x ∈ coRquotient1, LineOK Try.prog 69 x.1 x.2 := ok_of coRMul_ok (show Seen coRMul_sp 69 coRquotient1 from by unfold Seen; kernel_rfl)
def coRquotient2 : List Line := bin (· / ·) rN [(1441, 721), (2881, 1441), (5761, 241), (6481, 241), (9601, 241), (10081, 1441), (11521, 1441), (64801, 1441)]
theorem coRquotient2_seen : ∀ x ∈ coRquotient2, LineOK Try.prog 69 x.1 x.2 := ok_of coRMul_ok (show Seen coRMul_sp 69 coRquotient2 from by unfold Seen; kernel_rfl)
def coRquotient3 : List Line := bin (· / ·) rN [(115201, 1441), (136081, 721), (184321, 1441), (324001, 1441), (907201, 10081), (1612801, 10081), (3628801, 10081), (4898881, 10081)]
theorem coRquotient3_seen : ∀ x ∈ coRquotient3, LineOK Try.prog 69 x.1 x.2 := ok_of coRMul_ok (show Seen coRMul_sp 69 coRquotient3 from by unfold Seen; kernel_rfl)
def coRquotient4 : List Line := bin (· / ·) rN [(7812001, 10081), (10321921, 10081), (12700801, 10081)]
theorem coRquotient4_seen : ∀ x ∈ coRquotient4, LineOK Try.prog 69 x.1 x.2 := ok_of coRMul_ok (show Seen coRMul_sp 69 coRquotient4 from by unfold Seen; kernel_rfl)
def coRquotient : List Line := coRquotient0 ++ coRquotient1 ++ coRquotient2 ++ coRquotient3 ++ coRquotient4
theorem coRquotient_seen : ∀ x ∈ coRquotient, LineOK Try.prog 69 x.1 x.2 := (lines_append (lines_append (lines_append (lines_append coRquotient0_seen coRquotient1_seen) coRquotient2_seen) coRquotient3_seen) coRquotient4_seen)
noncomputable def coRquotient_sp : Abs.Spec := lay coRMul_sp 69 coRquotient
theorem coRquotient_ok : Ok coRquotient_sp := ok_lay coRMul_ok coRquotient_seen
def coRSub0 : List Line := bin (· - ·) rN [(1, 1), (9, 3), (29, 13), (37, 9), (133, 49), (205, 73), (241, 37), (337, 1), (541, 109), (577, 37), (625, 337), (1009, 385), (1441, 433), (1681, 241), (4321, 1441), (7105, 1), (7105, 1345), (7441, 337), (7681, 3361), (8209, 1729), (9073, 865), (9505, 433), (10081, 577), (10561, 2881), (14161, 3601), (15841, 1681), (28801, 17281), (46081, 17281), (76321, 30241), (97201, 32401), (105121, 28801), (114481, 17281), (120961, 6481), (123841, 2881), (132481, 8641), (135361, 30241), (142561, 6481), (142561, 10081), (144001, 28801), (151201, 15841), (157441, 1), (157441, 13441), (162481, 5041), (169921, 7441), (184321, 1), (372001, 48001), (381601, 9601), (1296001, 388801), (1684801, 388801), (1840321, 155521), (1905121, 64801), (1935361, 30241), (2004481, 69121), (2185921, 181441), (2304001, 691201), (2328481, 142561), (2649601, 345601), (2770561, 1), (2770561, 120961), (2810881, 40321)]
theorem coRSub0_seen : ∀ x ∈ coRSub0, LineOK Try.prog 75 x.1 x.2 := ok_of coRquotient_ok (show Seen coRquotient_sp 75 coRSub0 from by unfold Seen; kernel_rfl)
def coRSub1 : List Line := bin (· - ·) rN [(2944801, 133921), (3114721, 169921), (3628801, 1), (3719521, 90721), (3840481, 1), (3840481, 120961), (5715361, 816481), (5870881, 155521), (6026401, 155521), (6168961, 142561), (9756001, 1944001), (10332001, 576001), (10504801, 172801), (10886401, 381601), (11427841, 1), (11427841, 1105921), (11612161, 184321)]
theorem coRSub1_seen : ∀ x ∈ coRSub1, LineOK Try.prog 75 x.1 x.2 := ok_of coRquotient_ok (show Seen coRquotient_sp 75 coRSub1 from by unfold Seen; kernel_rfl)
def coRSub : List Line := coRSub0 ++ coRSub1
theorem coRSub_seen : ∀ x ∈ coRSub, LineOK Try.prog 75 x.1 x.2 := (lines_append coRSub0_seen coRSub1_seen)
noncomputable def coRSub_sp : Abs.Spec := lay coRquotient_sp 75 coRSub
theorem coRSub_ok : Ok coRSub_sp := ok_lay coRquotient_ok coRSub_seen
def coPovera0 : List Line := bin (· / ·) pN [(0, 5), (0, 13), (0, 49), (0, 241), (0, 1441), (0, 10081), (17, 5), (37, 13)]
theorem coPovera0_seen : ∀ x ∈ coPovera0, LineOK Try.prog 102 x.1 x.2 := ok_of coRSub_ok (show Seen coRSub_sp 102 coPovera0 from by unfold Seen; kernel_rfl)
def coPovera1 : List Line := bin (· / ·) pN [(49, 13), (85, 13), (289, 49), (337, 49), (433, 49), (1441, 73), (1441, 241), (1441, 721)]
theorem coPovera1_seen : ∀ x ∈ coPovera1, LineOK Try.prog 102 x.1 x.2 := ok_of coRSub_ok (show Seen coRSub_sp 102 coPovera1 from by unfold Seen; kernel_rfl)
def coPovera2 : List Line := bin (· / ·) pN [(2881, 1441), (5761, 241), (6481, 241), (9601, 241), (10081, 1441), (11521, 1441), (64801, 1441), (115201, 1441)]
theorem coPovera2_seen : ∀ x ∈ coPovera2, LineOK Try.prog 102 x.1 x.2 := ok_of coRSub_ok (show Seen coRSub_sp 102 coPovera2 from by unfold Seen; kernel_rfl)
def coPovera : List Line := coPovera0 ++ coPovera1 ++ coPovera2
theorem coPovera_seen : ∀ x ∈ coPovera, LineOK Try.prog 102 x.1 x.2 := (lines_append (lines_append coPovera0_seen coPovera1_seen) coPovera2_seen)
noncomputable def coPovera_sp : Abs.Spec := lay coRSub_sp 102 coPovera
theorem coPovera_ok : Ok coPovera_sp := ok_lay coRSub_ok coPovera_seen
end Go.Proofs.Ytmmgdgmjkhcfaaa
