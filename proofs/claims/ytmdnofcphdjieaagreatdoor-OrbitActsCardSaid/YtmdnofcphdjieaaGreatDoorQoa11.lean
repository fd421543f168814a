/- Of the law: texts of its proof, joined (part 11). -/
import Derived.Test.YtmdnofcphdjieaaGreatDoorQoa10
import Derived.Test.YtmdnofcphdjieaaGreatDoorQoa4
import Derived.Test.YtmdnofcphdjieaaGreatDoorQoa6
import Derived.Test.YtmdnofcphdjieaaGreatDoorQoa8
set_option linter.all false
namespace Go.Proofs.YtmdnofcphdjieaaGreatDoor
open Go Go.Abs
def awL1 : List Line := [([ellA], enuR)]
def awL2 : List Line := [([ellA], lyaR)]
noncomputable def awS : Nat → List Arg → Option Res := fun f xs => if f = 37 then linesT (treeOf awL1) xs else if f = 39 then linesT (treeOf awL2) xs else none
theorem awS_ok : ∀ f xs r, awS f xs = some r → LineOK Tryz.prog f xs r := by
  intro f xs r h
  unfold awS at h
  split at h
  · rename_i hf
    subst hf
    have := linesT_get h
    simp only [awL1, List.mem_singleton] at this
    injection this with h1 h2
    subst h1; subst h2
    exact enu_line
  · split at h
    · rename_i hf
      subst hf
      have := linesT_get h
      simp only [awL2, List.mem_singleton] at this
      injection this with h1 h2
      subst h1; subst h2
      exact lya_line
    · cases h
noncomputable def bC1 : CallF := orC strC (tabC awS)
theorem bC1_ok : CallOK Tryz.prog bC1 := orC_ok strC_ok (tabC_ok awS_ok)
theorem bC1_grow : CallGrow bC1 := orC_grow strC_grow (tabC_grow _)
theorem awake_run : (evB Tryz.prog bC1 6 (.func (.func 9) #[] #[]) [] []).map (·.1) = some (.bool true) := by kernel_rfl
theorem awake_line : LineOK Tryz.prog 9 [] (.bool true, []) := by
  obtain ⟨v, H, h⟩ : ∃ v H, evB Tryz.prog bC1 6 (.func (.func 9) #[] #[]) [] [] = some (v, H) := by
    have := awake_run
    cases h : evB Tryz.prog bC1 6 (.func (.func 9) #[] #[]) [] [] with
    | none => rw [h] at this; cases this
    | some x => exact ⟨x.1, x.2, rfl⟩
  have hv : v = .bool true := by
    have := awake_run
    rw [h] at this
    injection this
  subst hv
  exact line_det ⟨_, _, H, [], evB_ok hmix bC1_ok bC1_grow 6, h, ⟨.inr (.inr (.inl ⟨rfl, rfl⟩)), rfl, fun j b e => (by cases e), fun i j b c f cs ds _ e => (by cases e)⟩⟩
end Go.Proofs.YtmdnofcphdjieaaGreatDoor
