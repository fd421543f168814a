/- The top of a law: from the evaluator's answer to the model's call. -/
import Derived.Test.YtmmgdgmjkhcfaaaEngU
import Derived.Below
namespace Go.Abs
section
variable {P : Program}
/-- A function's run by the evaluator, over a heap that the world bears, is a call of the model. -/
theorem body_calls (hmix : P.follows .mixedOrders = true) {call : CallF} (hcall : CallOK P call) (hg : CallGrow call) {n f : Nat} {args : List Value} {H H' : Heap} {v : Value} (h : evBody P call n (.func (.func f) #[] #[]) args H = some (v, H'))
    {m : Mp} {w : World} {args' : Array Value} (hR : Rel m H w) (hargs : All2 (VR m) args args'.toList) :
    ∃ m' w' v', Sim m H w m' H' w' ∧ VR m' v v' ∧ Calls P f args' w fun e w2 => e = .returned v' ∧ w2 = w' := by
  have hd := fun nt => drawOK hmix hcall hg nt
  unfold evBody at h
  simp only at h
  split at h
  case h_2 => cases h
  rename_i fn hfn
  split at h
  case h_2 => cases h
  rename_i c hbody
  split at h
  case isFalse => cases h
  rename_i hcond
  obtain ⟨hok, _, hle⟩ := hcond
  simp only [List.append_nil] at h hle
  have fin : ∀ (x : X) (a : Fr) (H1 : Heap), (x = .normal ∨ x = .ret) → evCode P call n fn.ntmps none c (frOf args) H = some (x, a, H1) → (resList P a H1 fn.results.toList).map (fun vs => (pack vs, H1)) = some (v, H') →
      ∃ m' w' v', Sim m H w m' H' w' ∧ VR m' v v' ∧ Calls P f args' w fun e w2 => e = .returned v' ∧ w2 = w' := by
    intro x a H1 hx hev hr
    cases hres : resList P a H1 fn.results.toList with
    | none => rw [hres] at hr; cases hr
    | some rs =>
      rw [hres] at hr
      cases hr
      have := func_sim hcall hd hfn hbody hok hle hx hev hres hR hargs
      simpa using this
  split at h
  · rename_i a H1 hev; exact fin _ a H1 (.inl rfl) hev h
  · rename_i a H1 hev; exact fin _ a H1 (.inr rfl) hev h
  · cases h
theorem rel_nil (w : World) : Rel (fun _ => none) [] w where
  len := fun b l h => by cases h
  has := fun b x h => by simp at h
  bnd := fun b l h => by cases h
  blk := fun b x l h => by simp at h
  sep := fun b c x y l k _ h => by simp at h
open Go.RowKit in
/-- A law of numbers alone. -/
theorem law_nil (hmix : P.follows .mixedOrders = true) {call : CallF} (hcall : CallOK P call) (hg : CallGrow call) {n f : Nat} {args : List Value} {H' : Heap} (h : evBody P call n (.func (.func f) #[] #[]) args [] = some (.bool true, H'))
    (hp : ∀ v ∈ args, plain v = true) (w : World) : Calls P f ⟨args⟩ w fun e w' => e = .returned (.bool true) ∧ Below w.heap.size w w' := by
  have hargs : All2 (VR fun _ => none) args (⟨args⟩ : Array Value).toList := by
    have := All2.map_same (R := VR fun _ => none) (f := id) (g := id) args (fun x hx => VR.of_plain _ (hp x hx))
    simpa using this
  obtain ⟨m', w', v', s1, s2, s3⟩ := body_calls hmix hcall hg h (rel_nil w) hargs
  obtain rfl := s2.plain rfl
  have hno : ∀ g, ¬ Owned (fun _ => none) [] g := by
    rintro g ⟨b, x, l, hx, _⟩
    simp at hx
  have hB : Below w.heap.size w w' := ⟨s1.keep.os, s1.keep.tape, s1.keep.output, s1.keep.size, fun k hk => s1.keep.block k hk (hno k)⟩
  refine fun cs => ?_
  obtain ⟨e, w2, fr, ⟨rfl, rfl⟩, h2⟩ := s3 cs
  exact ⟨_, _, fr, ⟨rfl, hB⟩, h2⟩
end
end Go.Abs
