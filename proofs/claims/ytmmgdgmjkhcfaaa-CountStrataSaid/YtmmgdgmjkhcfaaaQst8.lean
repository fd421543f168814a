/- Of the law: texts of its proof, joined (part 8). -/
import Derived.Test.YtmmgdgmjkhcfaaaQst7
set_option linter.all false
namespace Go.Proofs.Ytmmgdgmjkhcfaaa
open Go Go.Abs
def srtC : CallF := Abs.orC (sortC 96 97 fallS) (sortN 96)
theorem srt_ent : ∀ args w, (callFunc 96 args).run Try.prog w = .ok (.enter 96 args) w := enters_of Try.func96 (by kernel_rfl) rfl
theorem srtC_ok : CallOK Try.prog srtC := Abs.orC_ok (sortC_ok srt_ent sortSays) (sortN_ok srt_ent sortNone)
theorem srtC_grow : CallGrow srtC := Abs.orC_grow sortC_grow sortN_grow
noncomputable def bC : CallF := fun fv args H => match fv with
  | .func (.func f) _ _ => if f = 96 then srtC fv args H else if f = 95 then tabC repS fv args H else none
  | _ => none
theorem bC_ok : CallOK Try.prog bC := by
  intro fv args H v H' h
  unfold bC at h
  split at h
  · split at h
    · exact srtC_ok _ _ _ _ _ h
    · split at h
      · exact tabC_ok repS_ok _ _ _ _ _ h
      · cases h
  · cases h
theorem bC_grow : CallGrow bC := by
  intro fv args H v H' h
  unfold bC at h
  split at h
  · split at h
    · exact srtC_grow _ _ _ _ _ h
    · split at h
      · exact tabC_grow _ _ _ _ _ _ h
      · cases h
  · cases h
end Go.Proofs.Ytmmgdgmjkhcfaaa
