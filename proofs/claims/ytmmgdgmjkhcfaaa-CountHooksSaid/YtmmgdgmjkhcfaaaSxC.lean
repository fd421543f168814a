/- The calls of a law: the examples by their line. -/
import Derived.Test.YtmmgdgmjkhcfaaaAwk
set_option linter.all false
namespace Go.Proofs.Ytmmgdgmjkhcfaaa
open Go Go.Abs
set_option maxRecDepth 10000
noncomputable def awkS : Nat → List Arg → Option Res := fun f xs => match xs with
  | [] => if f = 15 then some trueR else none
  | _ => none
theorem awkS_ok : ∀ f xs r, awkS f xs = some r → LineOK Try.prog f xs r := by
  intro f xs r h
  unfold awkS at h
  split at h
  · split at h
    · rename_i hf; subst hf; cases h; exact awake_line
    · cases h
  · cases h
/-- The calls of a law: the examples by their line, all others by their bodies. -/
noncomputable def callA (n : Nat) : CallF := Abs.orC (tabC awkS) (evB Try.prog noC n)
theorem callA_ok (n : Nat) : CallOK Try.prog (callA n) := Abs.orC_ok (tabC_ok awkS_ok) (evB_ok hmix noC_ok noC_grow n)
theorem callA_grow (n : Nat) : CallGrow (callA n) := Abs.orC_grow (tabC_grow _) (evB_grow noC_grow n)
theorem ca_other {n f : Nat} {args : List Value} {H : Heap} (h : f ≠ 15) : callA n (.func (.func f) #[] #[]) args H = evB Try.prog noC n (.func (.func f) #[] #[]) args H := by
  unfold callA Abs.orC
  have e : tabC awkS (.func (.func f) #[] #[]) args H = none := by
    unfold tabC
    simp only
    split
    · split
      · rename_i xs _
        have : awkS f xs = none := by
          unfold awkS
          split
          · rw [if_neg h]
          · rfl
        rw [this]
      · rfl
    · rfl
  rw [e]
theorem ca_awake {n : Nat} {H : Heap} : callA n (.func (.func 15) #[] #[]) [] H = some (.bool true, H) := by
  unfold callA Abs.orC
  have e : tabC awkS (.func (.func 15) #[] #[]) [] H = some (.bool true, H ++ []) := rfl
  rw [e, List.append_nil]
end Go.Proofs.Ytmmgdgmjkhcfaaa
