/- Of the law: texts of its proof, joined (part 9). -/
import Derived.Test.YtkedcelpadiakaaGreatQtp8
set_option linter.all false
namespace Go.Proofs.YtkedcelpadiakaaGreat
open Go Go.Abs Go.Num
def unI (vs : List Value) : List Int := vs.map fun v => match v with
  | .int _ z => z
  | _ => 0
theorem unI_ints (l : List Int) : unI (ints l) = l := by
  unfold unI ints
  rw [List.map_map]
  exact List.map_id' l
open Classical in
noncomputable def cycS : Nat → List Arg → Option Res := fun f xs => if f = 99 then (match xs with
  | [.imm v] => if v = nilV ∨ v = lostSlice then some (nilV, []) else none
  | [.li vs] => if ∃ n, n ≤ 5 ∧ ∃ p ∈ permsP n, vs = ints p then some (cycR (unI vs)) else none
  | _ => none) else none
theorem cycS_nil : cycS 99 [.imm (.slice none 0 0)] = some (nilV, []) := by
  unfold cycS
  rw [if_pos rfl]
  simp only
  rw [if_pos (.inl rfl)]
theorem cycS_li {f : List Int} {n : Nat} (hn : n ≤ 5) (hf : f ∈ permsP n) : cycS 99 [.li (ints f)] = some (cycR f) := by
  unfold cycS
  rw [if_pos rfl]
  simp only
  rw [if_pos ⟨n, hn, f, hf, rfl⟩, unI_ints]
theorem cycS_ok : ∀ f xs r, cycS f xs = some r → LineOK Tryz.prog f xs r := by
  intro f xs r h
  unfold cycS at h
  split at h
  · rename_i hf
    subst hf
    split at h
    · split at h
      · rename_i v hv
        cases h
        rcases hv with rfl | rfl
        · exact cycN
        · exact cycLo
      · cases h
    · split at h
      · rename_i vs hp
        obtain ⟨n, hn, p, hp, rfl⟩ := hp
        cases h
        rw [unI_ints]
        exact cyc_all hn hp
      · cases h
    · cases h
  · cases h
end Go.Proofs.YtkedcelpadiakaaGreat
