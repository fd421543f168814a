/- Of the law: texts of its proof, joined (part 36). -/
import Derived.Test.YtkedcelpadiakaaGreatQtp35
set_option linter.all false
namespace Go.Proofs.YtkedcelpadiakaaGreat
open Go Go.Abs Go.Num
noncomputable def clsSp : Nat → List Arg → Option Res := fun f xs => if f = 46 then linesT (treeOf lea5) xs else if f = 21 then linesT (treeOf lab5) xs else if f = 49 then linesT (treeOf key5) xs else none
theorem clsSp_ok : ∀ f xs r, clsSp f xs = some r → LineOK Tryz.prog f xs r := by
  intro f xs r h
  unfold clsSp at h
  split at h
  · rename_i hf; subst hf; exact lea5_all _ (linesT_get h)
  split at h
  · rename_i hf; subst hf; exact lab5_all _ (linesT_get h)
  split at h
  · rename_i hf; subst hf; exact key5_all _ (linesT_get h)
  cases h
noncomputable def bC : CallF := fun fv args H => match fv with
  | .func (.func f) _ _ => if f = 99 then tabC cycS fv args H else if f = 46 ∨ f = 21 ∨ f = 49 then tabC clsSp fv args H else none
  | _ => none
theorem bC_ok : CallOK Tryz.prog bC := by
  intro fv args H v H' h
  unfold bC at h
  split at h
  · split at h
    · exact tabC_ok cycS_ok _ _ _ _ _ h
    · split at h
      · exact tabC_ok clsSp_ok _ _ _ _ _ h
      · cases h
  · cases h
theorem bC_grow : CallGrow bC := by
  intro fv args H v H' h
  unfold bC at h
  split at h
  · split at h
    · exact tabC_grow _ _ _ _ _ _ h
    · split at h
      · exact tabC_grow _ _ _ _ _ _ h
      · cases h
  · cases h
example (v : Value) (x : Value) (H : Heap) : bC (.func (.func 48) #[] #[]) [v, x] H = none := by rfl
end Go.Proofs.YtkedcelpadiakaaGreat
