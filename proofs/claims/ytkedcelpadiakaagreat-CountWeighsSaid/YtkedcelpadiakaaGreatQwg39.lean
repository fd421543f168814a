/- Of the law: texts of its proof, joined (part 39). -/
import Derived.Test.YtkedcelpadiakaaGreatQwg38
import Derived.Test.YtkedcelpadiakaaGreatQwg8
set_option linter.all false
namespace Go.Proofs.YtkedcelpadiakaaGreat
open Go Go.Abs Go.Num
def wgI0 : List Line := [([L [0]], (posV 0, [])), ([L [0,1]], (posV 0, [])), ([L [1,0]], (posV 0, [])), ([L [0,1,2]], (posV 0, [])), ([L [0,2,1]], (posV 0, [])), ([L [1,0,2]], (posV 0, [])), ([L [1,2,0]], (posV 0, [])), ([L [2,0,1]], (posV 0, [])), ([L [0,1,2,3]], (posV 0, [])), ([L [0,1,3,2]], (posV 0, [])), ([L [0,2,1,3]], (posV 0, [])), ([L [0,2,3,1]], (posV 0, []))]
theorem wgI0_all : ∀ x ∈ wgI0, LineOK Tryz.prog 173 x.1 x.2 := ok_of wgR_ok (show Seen wgR_sp 173 wgI0 from by unfold Seen; kernel_rfl)
def wgI12 : List Line := [([L [0,3,1,2]], (posV 0, [])), ([L [0,3,2,1]], (posV 0, [])), ([L [1,0,2,3]], (posV 0, [])), ([L [1,0,3,2]], (posV 0, [])), ([L [1,2,0,3]], (posV 0, [])), ([L [1,2,3,0]], (posV 0, [])), ([L [1,3,0,2]], (posV 0, [])), ([L [1,3,2,0]], (posV 0, [])), ([L [2,0,3,1]], (posV 0, [])), ([L [2,3,0,1]], (posV 0, [])), ([L [2,3,1,0]], (posV 0, [])), ([L [0,1,2,3,4]], (posV 0, []))]
theorem wgI12_all : ∀ x ∈ wgI12, LineOK Tryz.prog 173 x.1 x.2 := ok_of wgR_ok (show Seen wgR_sp 173 wgI12 from by unfold Seen; kernel_rfl)
def wgI24 : List Line := [([L [0,1,2,4,3]], (posV 0, [])), ([L [0,1,3,2,4]], (posV 0, [])), ([L [0,1,3,4,2]], (posV 0, [])), ([L [0,1,4,2,3]], (posV 0, [])), ([L [0,1,4,3,2]], (posV 0, [])), ([L [0,2,1,3,4]], (posV 0, [])), ([L [0,2,1,4,3]], (posV 0, [])), ([L [0,2,3,1,4]], (posV 0, [])), ([L [0,2,3,4,1]], (posV 0, [])), ([L [0,2,4,1,3]], (posV 0, [])), ([L [0,2,4,3,1]], (posV 0, [])), ([L [0,3,1,2,4]], (posV 0, []))]
theorem wgI24_all : ∀ x ∈ wgI24, LineOK Tryz.prog 173 x.1 x.2 := ok_of wgR_ok (show Seen wgR_sp 173 wgI24 from by unfold Seen; kernel_rfl)
def wgI36 : List Line := [([L [0,3,1,4,2]], (posV 0, [])), ([L [0,3,4,1,2]], (posV 0, [])), ([L [0,3,4,2,1]], (posV 0, [])), ([L [1,0,2,3,4]], (posV 0, [])), ([L [1,0,2,4,3]], (posV 0, [])), ([L [1,0,3,2,4]], (posV 0, [])), ([L [1,0,3,4,2]], (posV 0, [])), ([L [1,0,4,2,3]], (posV 0, [])), ([L [1,0,4,3,2]], (posV 0, [])), ([L [1,2,0,3,4]], (posV 0, [])), ([L [1,2,0,4,3]], (posV 0, [])), ([L [1,2,3,0,4]], (posV 0, []))]
theorem wgI36_all : ∀ x ∈ wgI36, LineOK Tryz.prog 173 x.1 x.2 := ok_of wgR_ok (show Seen wgR_sp 173 wgI36 from by unfold Seen; kernel_rfl)
def wgI48 : List Line := [([L [1,2,3,4,0]], (posV 0, [])), ([L [1,2,4,0,3]], (posV 0, [])), ([L [1,2,4,3,0]], (posV 0, [])), ([L [1,3,0,2,4]], (posV 0, [])), ([L [1,3,0,4,2]], (posV 0, [])), ([L [1,3,2,0,4]], (posV 0, [])), ([L [1,3,2,4,0]], (posV 0, [])), ([L [1,3,4,0,2]], (posV 0, [])), ([L [1,3,4,2,0]], (posV 0, [])), ([L [2,0,4,1,3]], (posV 0, [])), ([L [2,3,0,1,4]], (posV 0, [])), ([L [2,3,0,4,1]], (posV 0, []))]
theorem wgI48_all : ∀ x ∈ wgI48, LineOK Tryz.prog 173 x.1 x.2 := ok_of wgR_ok (show Seen wgR_sp 173 wgI48 from by unfold Seen; kernel_rfl)
def wgI60 : List Line := [([L [2,3,1,0,4]], (posV 0, [])), ([L [2,3,1,4,0]], (posV 0, [])), ([L [2,3,4,0,1]], (posV 0, [])), ([L [2,3,4,1,0]], (posV 0, [])), ([L [2,4,1,0,3]], (posV 0, []))]
theorem wgI60_all : ∀ x ∈ wgI60, LineOK Tryz.prog 173 x.1 x.2 := ok_of wgR_ok (show Seen wgR_sp 173 wgI60 from by unfold Seen; kernel_rfl)
def wgIL : List Line := wgI0 ++ (wgI12 ++ (wgI24 ++ (wgI36 ++ (wgI48 ++ (wgI60)))))
theorem wgIL_all : ∀ x ∈ wgIL, LineOK Tryz.prog 173 x.1 x.2 := lines_append wgI0_all (lines_append wgI12_all (lines_append wgI24_all (lines_append wgI36_all (lines_append wgI48_all (wgI60_all)))))
noncomputable def wgI_sp : Abs.Spec := lay wgR_sp 173 wgIL
theorem wgI_ok : Ok wgI_sp := ok_lay wgR_ok wgIL_all
end Go.Proofs.YtkedcelpadiakaaGreat
namespace Go.Proofs.YtkedcelpadiakaaGreat
open Go Go.Abs Go.Num
def wgcL (n c : Nat) : Line := ([.ag ((pm n c).map posV) ((pm n (c / 8 ^ n)).map posV)], (sliceA 0 0 1 1, [[sliceA 1 0 n 1], (List.range n).map posV]))
def wgCC_0 : List Line := [wgcL 1 0, wgcL 2 72, wgcL 2 513, wgcL 2 65, wgcL 3 66128, wgcL 3 8784]
theorem wgCC_0_all : ∀ x ∈ wgCC_0, LineOK Tryz.prog 117 x.1 x.2 := ok_of wgI_ok (show Seen wgI_sp 117 wgCC_0 from by unfold Seen; kernel_rfl)
def wgCC_1 : List Line := [wgcL 3 40977, wgcL 3 8840, wgcL 3 69649, wgcL 3 8721, wgcL 3 33809, wgcL 4 6362312]
theorem wgCC_1_all : ∀ x ∈ wgCC_1, LineOK Tryz.prog 117 x.1 x.2 := ok_of wgI_ok (show Seen wgI_sp 117 wgCC_1 from by unfold Seen; kernel_rfl)
def wgCC_2 : List Line := [wgcL 4 857288, wgcL 4 6820560, wgcL 4 856784, wgcL 4 4297424, wgcL 4 5013713, wgcL 4 2949329]
theorem wgCC_2_all : ∀ x ∈ wgCC_2, LineOK Tryz.prog 117 x.1 x.2 := ok_of wgI_ok (show Seen wgI_sp 117 wgCC_2 from by unfold Seen; kernel_rfl)
def wgCC_3 : List Line := [wgcL 4 4554961, wgcL 4 4296913, wgcL 4 4986448, wgcL 4 4298320, wgcL 4 4985552, wgcL 4 6361808]
theorem wgCC_3_all : ∀ x ∈ wgCC_3, LineOK Tryz.prog 117 x.1 x.2 := ok_of wgI_ok (show Seen wgI_sp 117 wgCC_3 from by unfold Seen; kernel_rfl)
def wgCC_4 : List Line := [wgcL 4 627408, wgcL 4 6620353, wgcL 4 2950337, wgcL 4 857281, wgcL 4 2719953, wgcL 4 4985041]
theorem wgCC_4_all : ∀ x ∈ wgCC_4, LineOK Tryz.prog 117 x.1 x.2 := ok_of wgI_ok (show Seen wgI_sp 117 wgCC_4 from by unfold Seen; kernel_rfl)
def wgCC_5 : List Line := [wgcL 4 857736, wgcL 4 2204865, wgcL 4 369857, wgcL 4 6848721, wgcL 4 856273, wgcL 4 2203857]
theorem wgCC_5_all : ∀ x ∈ wgCC_5, LineOK Tryz.prog 117 x.1 x.2 := ok_of wgI_ok (show Seen wgI_sp 117 wgCC_5 from by unfold Seen; kernel_rfl)
def wgCC_6 : List Line := [wgcL 4 2892825, wgcL 5 576763984, wgcL 5 341882960, wgcL 5 543733840, wgcL 5 73971792, wgcL 5 571258960]
theorem wgCC_6_all : ∀ x ∈ wgCC_6, LineOK Tryz.prog 117 x.1 x.2 := ok_of wgI_ok (show Seen wgI_sp 117 wgCC_6 from by unfold Seen; kernel_rfl)
def wgCC_7 : List Line := [wgcL 5 336377936, wgcL 5 541898832, wgcL 5 72136784, wgcL 5 474006224, wgcL 5 341885648, wgcL 5 444646096]
theorem wgCC_7_all : ∀ x ∈ wgCC_7, LineOK Tryz.prog 117 x.1 x.2 := ok_of wgI_ok (show Seen wgI_sp 117 wgCC_7 from by unfold Seen; kernel_rfl)
def wgCC_8 : List Line := [wgcL 5 411615952, wgcL 5 336380624, wgcL 5 473995472, wgcL 5 576755920, wgcL 5 327194832, wgcL 5 470325456]
theorem wgCC_8_all : ∀ x ∈ wgCC_8, LineOK Tryz.prog 117 x.1 x.2 := ok_of wgI_ok (show Seen wgI_sp 117 wgCC_8 from by unfold Seen; kernel_rfl)
def wgCC_9 : List Line := [wgcL 5 411605200, wgcL 5 59283664, wgcL 5 571250896, wgcL 5 541890768, wgcL 5 72128720, wgcL 5 571257616]
theorem wgCC_9_all : ∀ x ∈ wgCC_9, LineOK Tryz.prog 117 x.1 x.2 := ok_of wgI_ok (show Seen wgI_sp 117 wgCC_9 from by unfold Seen; kernel_rfl)
def wgCC_10 : List Line := [wgcL 5 277656336, wgcL 5 42775312, wgcL 5 571250448, wgcL 5 472393921, wgcL 5 560474305, wgcL 5 193472705]
theorem wgCC_10_all : ∀ x ∈ wgCC_10, LineOK Tryz.prog 117 x.1 x.2 := ok_of wgI_ok (show Seen wgI_sp 117 wgCC_10 from by unfold Seen; kernel_rfl)
def wgCC_11 : List Line := [wgcL 5 470329537, wgcL 5 543729857, wgcL 5 59287745, wgcL 5 472385745, wgcL 5 428345553, wgcL 5 193464529]
theorem wgCC_11_all : ∀ x ∈ wgCC_11, LineOK Tryz.prog 117 x.1 x.2 := ok_of wgI_ok (show Seen wgI_sp 117 wgCC_11 from by unfold Seen; kernel_rfl)
def wgCC_12 : List Line := [wgcL 5 338430161, wgcL 5 327190737, wgcL 5 336365777, wgcL 5 427886801, wgcL 5 573321489, wgcL 5 543733896]
theorem wgCC_12_all : ∀ x ∈ wgCC_12, LineOK Tryz.prog 117 x.1 x.2 := ok_of wgI_ok (show Seen wgI_sp 117 wgCC_12 from by unfold Seen; kernel_rfl)
def wgCC_13 : List Line := [wgcL 5 73971848, wgcL 5 587770056, wgcL 5 73967816, wgcL 5 411609288, wgcL 5 277657680, wgcL 5 42776656]
theorem wgCC_13_all : ∀ x ∈ wgCC_13, LineOK Tryz.prog 117 x.1 x.2 := ok_of wgI_ok (show Seen wgI_sp 117 wgCC_13 from by unfold Seen; kernel_rfl)
def wgCC_14 : List Line := [wgcL 5 591435984, wgcL 5 73963728, wgcL 5 277649616, wgcL 5 336376592, wgcL 5 554510529, wgcL 5 202188993]
theorem wgCC_14_all : ∀ x ∈ wgCC_14, LineOK Tryz.prog 117 x.1 x.2 := ok_of wgI_ok (show Seen wgI_sp 117 wgCC_14 from by unfold Seen; kernel_rfl)
def wgCC_15 : List Line := [wgcL 5 539830465, wgcL 5 70068417, wgcL 5 143468737, wgcL 5 26028225, wgcL 5 474220753, wgcL 5 342100177]
theorem wgCC_15_all : ∀ x ∈ wgCC_15, LineOK Tryz.prog 117 x.1 x.2 := ok_of wgI_ok (show Seen wgI_sp 117 wgCC_15 from by unfold Seen; kernel_rfl)
def wgCC_16 : List Line := [wgcL 5 444860625, wgcL 5 208144593, wgcL 5 294389969, wgcL 5 411601105, wgcL 5 277645521, wgcL 5 338440465]
theorem wgCC_16_all : ∀ x ∈ wgCC_16, LineOK Tryz.prog 117 x.1 x.2 := ok_of wgI_ok (show Seen wgI_sp 117 wgCC_16 from by unfold Seen; kernel_rfl)
def wgCC_17 : List Line := [wgcL 5 336376081, wgcL 5 202191121, wgcL 5 470336712, wgcL 5 411616456, wgcL 5 470329544, wgcL 5 543729864]
theorem wgCC_17_all : ∀ x ∈ wgCC_17, LineOK Tryz.prog 117 x.1 x.2 := ok_of wgI_ok (show Seen wgI_sp 117 wgCC_17 from by unfold Seen; kernel_rfl)
def wgCC_18 : List Line := [wgcL 5 59287752, wgcL 5 341874896, wgcL 5 444635344, wgcL 5 587765968, wgcL 5 543725776, wgcL 5 336369872]
theorem wgCC_18_all : ∀ x ∈ wgCC_18, LineOK Tryz.prog 117 x.1 x.2 := ok_of wgI_ok (show Seen wgI_sp 117 wgCC_18 from by unfold Seen; kernel_rfl)
def wgCC_19 : List Line := [wgcL 5 42768592, wgcL 5 541897488, wgcL 5 72135440, wgcL 5 589834433, wgcL 5 208152769, wgcL 5 428353729]
theorem wgCC_19_all : ∀ x ∈ wgCC_19, LineOK Tryz.prog 117 x.1 x.2 := ok_of wgI_ok (show Seen wgI_sp 117 wgCC_19 from by unfold Seen; kernel_rfl)
def wgCC_20 : List Line := [wgcL 5 587770049, wgcL 5 73967809, wgcL 5 411609281, wgcL 5 327420113, wgcL 5 176949457, wgcL 5 341870801]
theorem wgCC_20_all : ∀ x ∈ wgCC_20, LineOK Tryz.prog 117 x.1 x.2 := ok_of wgI_ok (show Seen wgI_sp 117 wgCC_20 from by unfold Seen; kernel_rfl)
def wgCC_21 : List Line := [wgcL 5 444631249, wgcL 5 176959761, wgcL 5 73975432, wgcL 5 591661265, wgcL 5 73959633, wgcL 5 143460561]
theorem wgCC_21_all : ∀ x ∈ wgCC_21, LineOK Tryz.prog 117 x.1 x.2 := ok_of wgI_ok (show Seen wgI_sp 117 wgCC_21 from by unfold Seen; kernel_rfl)
def wgCC_22 : List Line := [wgcL 5 427894809, wgcL 5 405865753]
theorem wgCC_22_all : ∀ x ∈ wgCC_22, LineOK Tryz.prog 117 x.1 x.2 := ok_of wgI_ok (show Seen wgI_sp 117 wgCC_22 from by unfold Seen; kernel_rfl)
def wgCC : List Line := wgCC_0 ++ (wgCC_1 ++ (wgCC_2 ++ (wgCC_3 ++ (wgCC_4 ++ (wgCC_5 ++ (wgCC_6 ++ (wgCC_7 ++ (wgCC_8 ++ (wgCC_9 ++ (wgCC_10 ++ (wgCC_11 ++ (wgCC_12 ++ (wgCC_13 ++ (wgCC_14 ++ (wgCC_15 ++ (wgCC_16 ++ (wgCC_17 ++ (wgCC_18 ++ (wgCC_19 ++ (wgCC_20 ++ (wgCC_21 ++ (wgCC_22))))))))))))))))))))))
theorem wgCC_all : ∀ x ∈ wgCC, LineOK Tryz.prog 117 x.1 x.2 := lines_append wgCC_0_all (lines_append wgCC_1_all (lines_append wgCC_2_all (lines_append wgCC_3_all (lines_append wgCC_4_all (lines_append wgCC_5_all (lines_append wgCC_6_all (lines_append wgCC_7_all (lines_append wgCC_8_all (lines_append wgCC_9_all (lines_append wgCC_10_all (lines_append wgCC_11_all (lines_append wgCC_12_all (lines_append wgCC_13_all (lines_append wgCC_14_all (lines_append wgCC_15_all (lines_append wgCC_16_all (lines_append wgCC_17_all (lines_append wgCC_18_all (lines_append wgCC_19_all (lines_append wgCC_20_all (lines_append wgCC_21_all (wgCC_22_all))))))))))))))))))))))
noncomputable def wgG_sp : Abs.Spec := lay wgI_sp 117 wgCC
theorem wgG_ok : Ok wgG_sp := ok_lay wgI_ok wgCC_all
def wgaR (n : Nat) : Nat → Nat → List (List Value)
  | 0, _ => []
  | k + 1, c => (pm n c).map posV :: wgaR n k (c / 8 ^ n)
def wgaS (n : Nat) : Nat → Nat → List Value
  | 0, _ => []
  | k + 1, i => sliceA i 0 n 1 :: wgaS n k (i + 1)
def wgaL (n k c : Nat) : Line := ([.ag ((pm n c).map posV) ((pm n (c / 8 ^ n)).map posV)], (.tuple #[sliceA 0 0 k 1, posV 0], wgaS n k 1 :: wgaR n k (c / 8 ^ (2 * n))))
def wglL (n c : Nat) : Line := ([.ag ((pm n c).map posV) ((pm n (c / 8 ^ n)).map posV)], labR n (pm n (c / 8 ^ (2 * n))) (pm n (c / 8 ^ (3 * n))) (pm n (c / 8 ^ (4 * n))))
def wgsL (n k c : Nat) : Line := ([.ag ((pm n c).map posV) ((pm n (c / 8 ^ n)).map posV)], liE (pm k (c / 8 ^ (2 * n))))
end Go.Proofs.YtkedcelpadiakaaGreat
namespace Go.Proofs.YtkedcelpadiakaaGreat
open Go Go.Abs Go.Num
def wgA0_0 : List Line := [wgaL 1 1 0, wgaL 2 2 294984, wgaL 2 2 295425, wgaL 2 2 294977, wgaL 3 1 35717712, wgaL 3 1 35660368]
theorem wgA0_0_all : ∀ x ∈ wgA0_0, LineOK Tryz.prog 20 x.1 x.2 := ok_of wgG_ok (show Seen wgG_sp 20 wgA0_0 from by unfold Seen; kernel_rfl)
def wgA0_1 : List Line := [wgaL 3 1 35692561, wgaL 3 3 4537802826376, wgaL 3 3 4537802887185, wgaL 3 3 4537802826257, wgaL 3 3 4537802851345, wgaL 4 1 28057867464]
theorem wgA0_1_all : ∀ x ∈ wgA0_1, LineOK Tryz.prog 20 x.1 x.2 := ok_of wgG_ok (show Seen wgG_sp 20 wgA0_1 from by unfold Seen; kernel_rfl)
def wgA0_2 : List Line := [wgaL 4 1 28052362440, wgaL 4 1 28058325712, wgaL 4 1 28052361936, wgaL 4 1 28055802576, wgaL 4 1 28056518865, wgaL 4 1 28054454481]
theorem wgA0_2_all : ∀ x ∈ wgA0_2, LineOK Tryz.prog 20 x.1 x.2 := ok_of wgG_ok (show Seen wgG_sp 20 wgA0_2 from by unfold Seen; kernel_rfl)
def wgA0_3 : List Line := [wgaL 4 1 28056060113, wgaL 4 1 28055802065, wgaL 4 2 5731773060688, wgaL 4 2 5731772372560, wgaL 4 1 28056490704, wgaL 4 1 28057866960]
theorem wgA0_3_all : ∀ x ∈ wgA0_3, LineOK Tryz.prog 20 x.1 x.2 := ok_of wgG_ok (show Seen wgG_sp 20 wgA0_3 from by unfold Seen; kernel_rfl)
def wgA0_4 : List Line := [wgaL 4 1 28052132560, wgaL 4 2 5731774694593, wgaL 4 1 28054455489, wgaL 4 2 36999130846401, wgaL 4 2 36999132709073, wgaL 4 2 36999134974161]
theorem wgA0_4_all : ∀ x ∈ wgA0_4, LineOK Tryz.prog 20 x.1 x.2 := ok_of wgG_ok (show Seen wgG_sp 20 wgA0_4 from by unfold Seen; kernel_rfl)
def wgA0_5 : List Line := [wgaL 4 4 1257988809453963384456, wgaL 4 4 95844002079495529665, wgaL 4 4 612226735353794766017, wgaL 4 4 1257988809453969375441, wgaL 4 4 1257988809453963382993, wgaL 4 4 1257988809453964730577]
theorem wgA0_5_all : ∀ x ∈ wgA0_5, LineOK Tryz.prog 20 x.1 x.2 := ok_of wgG_ok (show Seen wgG_sp 20 wgA0_5 from by unfold Seen; kernel_rfl)
def wgA0_6 : List Line := [wgaL 4 4 95891278330711516185, wgaL 5 1 19388059138128, wgaL 5 1 19387824257104, wgaL 5 1 19388026107984, wgaL 5 1 19387556345936, wgaL 5 1 19388053633104]
theorem wgA0_6_all : ∀ x ∈ wgA0_6, LineOK Tryz.prog 20 x.1 x.2 := ok_of wgG_ok (show Seen wgG_sp 20 wgA0_6 from by unfold Seen; kernel_rfl)
def wgA0_7 : List Line := [wgaL 5 1 19387818752080, wgaL 5 1 19388024272976, wgaL 5 1 19387554510928]
theorem wgA0_7_all : ∀ x ∈ wgA0_7, LineOK Tryz.prog 20 x.1 x.2 := ok_of wgG_ok (show Seen wgG_sp 20 wgA0_7 from by unfold Seen; kernel_rfl)
def wgA0 : List Line := wgA0_0 ++ (wgA0_1 ++ (wgA0_2 ++ (wgA0_3 ++ (wgA0_4 ++ (wgA0_5 ++ (wgA0_6 ++ (wgA0_7)))))))
theorem wgA0_all : ∀ x ∈ wgA0, LineOK Tryz.prog 20 x.1 x.2 := lines_append wgA0_0_all (lines_append wgA0_1_all (lines_append wgA0_2_all (lines_append wgA0_3_all (lines_append wgA0_4_all (lines_append wgA0_5_all (lines_append wgA0_6_all (wgA0_7_all)))))))
def wgL0_0 : List Line := [wglL 1 0, wglL 2 134512712, wglL 2 136319489, wglL 2 134484033, wglL 3 9363183960656, wglL 3 9348151517776]
theorem wgL0_0_all : ∀ x ∈ wgL0_0, LineOK Tryz.prog 21 x.1 x.2 := ok_of wgG_ok (show Seen wgG_sp 21 wgL0_0 from by unfold Seen; kernel_rfl)
def wgL0_1 : List Line := [wglL 3 9356590751761, wglL 3 9348166197896, wglL 3 9364106973201, wglL 3 9348135002641, wglL 3 9354711696401, wglL 4 470732902949262536]
theorem wgL0_1_all : ∀ x ∈ wgL0_1, LineOK Tryz.prog 21 x.1 x.2 := ok_of wgG_ok (show Seen wgG_sp 21 wgL0_1 from by unfold Seen; kernel_rfl)
def wgL0_2 : List Line := [wglL 4 470640543967024328, wglL 4 470740591075398352, wglL 4 470640535511306960, wglL 4 470698259875205840, wglL 4 470710277211193553, wglL 4 470675642592854225]
theorem wgL0_2_all : ∀ x ∈ wgL0_2, LineOK Tryz.prog 21 x.1 x.2 := ok_of wgG_ok (show Seen wgG_sp 21 wgL0_2 from by unfold Seen; kernel_rfl)
def wgL0_3 : List Line := [wglL 4 470702580629340369, wglL 4 470698251302047953, wglL 4 470709819780372048, wglL 4 470698274907592272, wglL 4 470709804747985616, wglL 4 470732894493545168]
theorem wgL0_3_all : ∀ x ∈ wgL0_3, LineOK Tryz.prog 21 x.1 x.2 := ok_of wgG_ok (show Seen wgG_sp 21 wgL0_3 from by unfold Seen; kernel_rfl)
def wgL0_4 : List Line := [wglL 4 470636687220380368, wglL 4 470737232159114433, wglL 4 470675659504288961, wglL 4 470640543849583809, wglL 4 470671794301927633, wglL 4 470709796174827729]
theorem wgL0_4_all : ∀ x ∈ wgL0_4, LineOK Tryz.prog 21 x.1 x.2 := ok_of wgG_ok (show Seen wgG_sp 21 wgL0_4 from by unfold Seen; kernel_rfl)
def wgL0_5 : List Line := [wglL 4 470640551483217544, wglL 4 470663152558777537, wglL 4 470632366231364801, wglL 4 470741063538606289, wglL 4 470640526938149073, wglL 4 470663135647342801]
theorem wgL0_5_all : ∀ x ∈ wgL0_5, LineOK Tryz.prog 21 x.1 x.2 := ok_of wgG_ok (show Seen wgG_sp 21 wgL0_5 from by unfold Seen; kernel_rfl)
def wgL0_6 : List Line := [wglL 4 470674694612984857, wglL 5 20817769982794003429456, wglL 5 20817517781214635800656, wglL 5 20817734516946904856656, wglL 5 20817230113788169599056, wglL 5 20817764071819487000656]
theorem wgL0_6_all : ∀ x ∈ wgL0_6, LineOK Tryz.prog 21 x.1 x.2 := ok_of wgG_ok (show Seen wgG_sp 21 wgL0_6 from by unfold Seen; kernel_rfl)
def wgL0_7 : List Line := [wglL 5 20817511870240119371856, wglL 5 20817732546622066047056, wglL 5 20817228143463330789456]
theorem wgL0_7_all : ∀ x ∈ wgL0_7, LineOK Tryz.prog 21 x.1 x.2 := ok_of wgG_ok (show Seen wgG_sp 21 wgL0_7 from by unfold Seen; kernel_rfl)
def wgL0 : List Line := wgL0_0 ++ (wgL0_1 ++ (wgL0_2 ++ (wgL0_3 ++ (wgL0_4 ++ (wgL0_5 ++ (wgL0_6 ++ (wgL0_7)))))))
theorem wgL0_all : ∀ x ∈ wgL0, LineOK Tryz.prog 21 x.1 x.2 := lines_append wgL0_0_all (lines_append wgL0_1_all (lines_append wgL0_2_all (lines_append wgL0_3_all (lines_append wgL0_4_all (lines_append wgL0_5_all (lines_append wgL0_6_all (wgL0_7_all)))))))
def wgS0_0 : List Line := [wgsL 1 1 0, wgsL 2 2 72, wgsL 2 2 513, wgsL 2 2 65, wgsL 3 1 590416, wgsL 3 1 533072]
theorem wgS0_0_all : ∀ x ∈ wgS0_0, LineOK Tryz.prog 22 x.1 x.2 := ok_of wgG_ok (show Seen wgG_sp 22 wgS0_0 from by unfold Seen; kernel_rfl)
def wgS0_1 : List Line := [wgsL 3 1 565265, wgsL 3 3 8840, wgsL 3 3 69649, wgsL 3 3 8721, wgsL 3 3 33809, wgsL 4 2 39916744]
theorem wgS0_1_all : ∀ x ∈ wgS0_1, LineOK Tryz.prog 22 x.1 x.2 := ok_of wgG_ok (show Seen wgG_sp 22 wgS0_1 from by unfold Seen; kernel_rfl)
def wgS0_2 : List Line := [wgsL 4 2 34411720, wgsL 4 2 40374992, wgsL 4 2 34411216, wgsL 4 2 37851856, wgsL 4 2 38568145, wgsL 4 2 36503761]
theorem wgS0_2_all : ∀ x ∈ wgS0_2, LineOK Tryz.prog 22 x.1 x.2 := ok_of wgG_ok (show Seen wgG_sp 22 wgS0_2 from by unfold Seen; kernel_rfl)
def wgS0_3 : List Line := [wgsL 4 2 38109393, wgsL 4 2 37851345, wgsL 4 2 155981392, wgsL 4 2 155293264, wgsL 4 2 155980496, wgsL 4 2 157356752]
theorem wgS0_3_all : ∀ x ∈ wgS0_3, LineOK Tryz.prog 22 x.1 x.2 := ok_of wgG_ok (show Seen wgG_sp 22 wgS0_3 from by unfold Seen; kernel_rfl)
def wgS0_4 : List Line := [wgsL 4 2 151622352, wgsL 4 2 157615297, wgsL 4 2 153945281, wgsL 4 2 151852225, wgsL 4 2 153714897, wgsL 4 2 155979985]
theorem wgS0_4_all : ∀ x ∈ wgS0_4, LineOK Tryz.prog 22 x.1 x.2 := ok_of wgG_ok (show Seen wgG_sp 22 wgS0_4 from by unfold Seen; kernel_rfl)
def wgS0_5 : List Line := [wgsL 4 4 857736, wgsL 4 4 2204865, wgsL 4 4 369857, wgsL 4 4 6848721, wgsL 4 4 856273, wgsL 4 4 2203857]
theorem wgS0_5_all : ∀ x ∈ wgS0_5, LineOK Tryz.prog 22 x.1 x.2 := ok_of wgG_ok (show Seen wgG_sp 22 wgS0_5 from by unfold Seen; kernel_rfl)
def wgS0_6 : List Line := [wgsL 4 4 2892825, wgsL 5 1 4871731280, wgsL 5 1 4636850256, wgsL 5 1 4838701136, wgsL 5 1 4368939088, wgsL 5 1 4866226256]
theorem wgS0_6_all : ∀ x ∈ wgS0_6, LineOK Tryz.prog 22 x.1 x.2 := ok_of wgG_ok (show Seen wgG_sp 22 wgS0_6 from by unfold Seen; kernel_rfl)
def wgS0_7 : List Line := [wgsL 5 1 4631345232, wgsL 5 1 4836866128, wgsL 5 1 4367104080]
theorem wgS0_7_all : ∀ x ∈ wgS0_7, LineOK Tryz.prog 22 x.1 x.2 := ok_of wgG_ok (show Seen wgG_sp 22 wgS0_7 from by unfold Seen; kernel_rfl)
def wgS0 : List Line := wgS0_0 ++ (wgS0_1 ++ (wgS0_2 ++ (wgS0_3 ++ (wgS0_4 ++ (wgS0_5 ++ (wgS0_6 ++ (wgS0_7)))))))
theorem wgS0_all : ∀ x ∈ wgS0, LineOK Tryz.prog 22 x.1 x.2 := lines_append wgS0_0_all (lines_append wgS0_1_all (lines_append wgS0_2_all (lines_append wgS0_3_all (lines_append wgS0_4_all (lines_append wgS0_5_all (lines_append wgS0_6_all (wgS0_7_all)))))))
end Go.Proofs.YtkedcelpadiakaaGreat
