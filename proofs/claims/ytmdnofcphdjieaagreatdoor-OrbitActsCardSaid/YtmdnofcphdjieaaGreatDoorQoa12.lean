/- Of the law: texts of its proof, joined (part 12). -/
import Derived.Test.YtmdnofcphdjieaaGreatDoorQoa11
import Derived.Test.YtmdnofcphdjieaaGreatDoorQoa9
set_option linter.all false
namespace Go.Proofs.YtmdnofcphdjieaaGreatDoor
open Go Go.Abs
def awkS : Nat → List Arg → Option Res := fun f xs => if f = 9 then (match xs with
  | [] => some (.bool true, [])
  | _ => none) else none
theorem awkS_ok : ∀ f xs r, awkS f xs = some r → LineOK Tryz.prog f xs r := by
  intro f xs r h
  unfold awkS at h
  split at h
  · rename_i hf
    subst hf
    split at h
    · cases h
      exact awake_line
    · cases h
  · cases h
noncomputable def bC : CallF := fun fv args H => match fv with
  | .func (.func f) _ _ => if f = 70 then tabC rpvS fv args H else if f = 136 then sort1C 136 sortI fv args H
    else if f = 9 then tabC awkS fv args H else strC fv args H
  | _ => none
theorem bC_ok : CallOK Tryz.prog bC := by
  intro fv args H v H' h
  unfold bC at h
  split at h
  · split at h
    · exact tabC_ok rpvS_ok _ _ _ _ _ h
    · split at h
      · exact sort1C_ok sort1_ent sort1Says _ _ _ _ _ h
      · split at h
        · exact tabC_ok awkS_ok _ _ _ _ _ h
        · exact strC_ok _ _ _ _ _ h
  · cases h
theorem bC_grow : CallGrow bC := by
  intro fv args H v H' h
  unfold bC at h
  split at h
  · split at h
    · exact tabC_grow _ _ _ _ _ _ h
    · split at h
      · exact sort1C_grow _ _ _ _ _ h
      · split at h
        · exact tabC_grow _ _ _ _ _ _ h
        · exact strC_grow _ _ _ _ _ h
  · cases h
end Go.Proofs.YtmdnofcphdjieaaGreatDoor
