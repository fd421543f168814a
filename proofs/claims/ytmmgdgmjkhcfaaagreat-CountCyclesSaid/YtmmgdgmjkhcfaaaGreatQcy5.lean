/- Of the law: texts of its proof, joined (part 5). -/
import Derived.Test.YtmmgdgmjkhcfaaaGreatQcy4
set_option linter.all false
namespace Go.Proofs.YtmmgdgmjkhcfaaaGreat
open Go Go.Abs
def srtC : CallF := orC (sortC 43 44 fallS) (sortN 43)
theorem srt_ent : ∀ args w, (callFunc 43 args).run Tryz.prog w = .ok (.enter 43 args) w := enters_of Tryz.func43 (by kernel_rfl) rfl
theorem srtC_ok : CallOK Tryz.prog srtC := orC_ok (sortC_ok srt_ent sortSays) (sortN_ok srt_ent sortNone)
theorem srtC_grow : CallGrow srtC := orC_grow sortC_grow sortN_grow
def bC : CallF := fun fv args H => match fv with
  | .func (.func f) _ _ => if f = 43 then srtC fv args H else none
  | _ => none
theorem bC_ok : CallOK Tryz.prog bC := by
  intro fv args H v H' h
  unfold bC at h
  split at h
  · split at h
    · exact srtC_ok _ _ _ _ _ h
    · cases h
  · cases h
theorem bC_grow : CallGrow bC := by
  intro fv args H v H' h
  unfold bC at h
  split at h
  · split at h
    · exact srtC_grow _ _ _ _ _ h
    · cases h
  · cases h
example (v : Value) (x : Value) (H : Heap) : bC (.func (.func 42) #[] #[]) [v, x] H = none := by rfl
end Go.Proofs.YtmmgdgmjkhcfaaaGreat
