/- Of the law: texts of its proof, joined (part 29). -/
import Derived.Test.YtkedcelpadiakaaGreatQwg10
import Derived.Test.YtkedcelpadiakaaGreatQwg11
import Derived.Test.YtkedcelpadiakaaGreatQwg12
import Derived.Test.YtkedcelpadiakaaGreatQwg13
import Derived.Test.YtkedcelpadiakaaGreatQwg14
import Derived.Test.YtkedcelpadiakaaGreatQwg15
import Derived.Test.YtkedcelpadiakaaGreatQwg16
import Derived.Test.YtkedcelpadiakaaGreatQwg17
import Derived.Test.YtkedcelpadiakaaGreatQwg18
import Derived.Test.YtkedcelpadiakaaGreatQwg19
import Derived.Test.YtkedcelpadiakaaGreatQwg20
import Derived.Test.YtkedcelpadiakaaGreatQwg21
import Derived.Test.YtkedcelpadiakaaGreatQwg22
import Derived.Test.YtkedcelpadiakaaGreatQwg23
import Derived.Test.YtkedcelpadiakaaGreatQwg24
import Derived.Test.YtkedcelpadiakaaGreatQwg25
import Derived.Test.YtkedcelpadiakaaGreatQwg26
import Derived.Test.YtkedcelpadiakaaGreatQwg27
import Derived.Test.YtkedcelpadiakaaGreatQwg28
import Derived.Test.YtkedcelpadiakaaGreatQwg8
import Derived.Test.YtkedcelpadiakaaGreatQwg9
set_option linter.all false
namespace Go.Proofs.YtkedcelpadiakaaGreat
open Go Go.Abs
def key5 : List Line := ([26028225, 42768592, 42775312, 42776656, 59283664, 59287745, 59287752, 70068417, 72128720, 72135440, 72136784, 73959633, 73963728, 73967809, 73967816, 73971792, 73971848, 73975432, 143460561, 143468737, 176949457, 176959761, 193464529, 193472705, 202188993, 202191121, 208144593, 208152769, 277645521, 277649616, 277656336, 277657680, 294389969, 327190737, 327194832, 327420113, 336365777, 336369872, 336376081, 336376592, 336377936, 336380624, 338430161, 338440465, 341870801, 341874896, 341882960, 341885648, 342100177, 405865753, 411601105, 411605200, 411609281, 411609288, 411615952, 411616456, 427886801, 427894809, 428345553, 428353729, 444631249, 444635344, 444646096, 444860625, 470325456, 470329537, 470329544, 470336712, 472385745, 472393921, 473995472, 474006224, 474220753, 539830465, 541890768, 541897488, 541898832, 543725776, 543729857, 543729864, 543733840, 543733896, 554510529, 560474305, 571250448, 571250896, 571257616, 571258960, 573321489, 576755920, 576763984, 587765968, 587770049, 587770056, 589834433, 591435984, 591661265] : List Nat).map (keyL 5)
theorem key5_all : ∀ x ∈ key5, LineOK Tryz.prog 49 x.1 x.2 := ok_of (noSpec_good _) (show Seen noSpec 49 key5 from by unfold Seen; kernel_rfl)
end Go.Proofs.YtkedcelpadiakaaGreat
namespace Go.Proofs.YtkedcelpadiakaaGreat
open Go Go.Abs
def lab5 : List Line := (lab5_0 ++ (lab5_1 ++ (lab5_2 ++ (lab5_3 ++ (lab5_4 ++ (lab5_5 ++ (lab5_6 ++ (lab5_7 ++ (lab5_8 ++ (lab5_9 ++ (lab5_10 ++ (lab5_11 ++ (lab5_12 ++ (lab5_13 ++ (lab5_14 ++ (lab5_15 ++ (lab5_16 ++ (lab5_17 ++ (lab5_18 ++ (lab5_19 ++ lab5_20))))))))))))))))))))
theorem lab5_all : ∀ x ∈ lab5, LineOK Tryz.prog 21 x.1 x.2 := (lines_append lab5_0_all (lines_append lab5_1_all (lines_append lab5_2_all (lines_append lab5_3_all (lines_append lab5_4_all (lines_append lab5_5_all (lines_append lab5_6_all (lines_append lab5_7_all (lines_append lab5_8_all (lines_append lab5_9_all (lines_append lab5_10_all (lines_append lab5_11_all (lines_append lab5_12_all (lines_append lab5_13_all (lines_append lab5_14_all (lines_append lab5_15_all (lines_append lab5_16_all (lines_append lab5_17_all (lines_append lab5_18_all (lines_append lab5_19_all lab5_20_all))))))))))))))))))))
end Go.Proofs.YtkedcelpadiakaaGreat
namespace Go.Proofs.YtkedcelpadiakaaGreat
open Go Go.Abs Go.Num
noncomputable def clsSp : Nat → List Arg → Option Res := fun f xs => if f = 46 then linesT (treeOf lea5) xs else if f = 21 then linesT (treeOf lab5) xs else if f = 49 then linesT (treeOf key5) xs else none
theorem clsSp_ok : ∀ f xs r, clsSp f xs = some r → LineOK Tryz.prog f xs r := by
  intro f xs r h
  unfold clsSp at h
  split at h
  · rename_i hf; subst hf; exact lea5_all _ (linesT_get h)
  split at h
  · rename_i hf; subst hf; exact lab5_all _ (linesT_get h)
  split at h
  · rename_i hf; subst hf; exact key5_all _ (linesT_get h)
  cases h
noncomputable def bC : CallF := fun fv args H => match fv with
  | .func (.func f) _ _ => if f = 99 then tabC cycS fv args H else if f = 46 ∨ f = 21 ∨ f = 49 then tabC clsSp fv args H else none
  | _ => none
theorem bC_ok : CallOK Tryz.prog bC := by
  intro fv args H v H' h
  unfold bC at h
  split at h
  · split at h
    · exact tabC_ok cycS_ok _ _ _ _ _ h
    · split at h
      · exact tabC_ok clsSp_ok _ _ _ _ _ h
      · cases h
  · cases h
theorem bC_grow : CallGrow bC := by
  intro fv args H v H' h
  unfold bC at h
  split at h
  · split at h
    · exact tabC_grow _ _ _ _ _ _ h
    · split at h
      · exact tabC_grow _ _ _ _ _ _ h
      · cases h
  · cases h
example (v : Value) (x : Value) (H : Heap) : bC (.func (.func 48) #[] #[]) [v, x] H = none := by rfl
end Go.Proofs.YtkedcelpadiakaaGreat
