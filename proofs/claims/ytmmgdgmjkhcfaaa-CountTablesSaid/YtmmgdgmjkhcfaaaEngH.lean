/- Every operation that is no call of a function value is the world's. -/
import Derived.Test.YtmmgdgmjkhcfaaaEngG
namespace Go.Abs
def nextVal : Next → Option Value
  | .value v => some v
  | .skip => some undef
  | _ => none
section
variable {P : Program} {m : Mp} {H : Heap} {w : World} {nt : Nat} {a : Fr} {tmps : Array Value}
theorem nilCmp_sound {t : TypeId} {x y x' y' : Value} {b : Bool} (h : nilCmp P t x y = some b) (hx : VR m x x') (hy : VR m y y') :
    (Op.equal t x' y').run P w = .ok b w ∧ (∀ op k l, eqGuard op t k l x' y' = pure ()) ∧ binOp .eql t x' y' = (do pure (.bool (← Op.equal t x' y'))) ∧ binOp .neq t x' y' = (do pure (.bool (!(← Op.equal t x' y')))) := by
  have hd : ∀ x y, Op.equal t x y = Op.equalIn (9999 + 1) t x y := fun _ _ => rfl
  unfold nilCmp at h
  split at h
  · rename_i e b0 n c hu
    injection h with h; subst h
    obtain ⟨_, _, rfl⟩ := hx.sliceNil_
    have : ∃ b' n' c', y' = .slice b' n' c' ∧ b'.isNone = b0.isNone := by
      cases b0 with
      | none => obtain ⟨_, _, rfl⟩ := hy.sliceNil_; exact ⟨_, _, _, rfl, rfl⟩
      | some ad =>
        obtain ⟨b, o, sp⟩ := ad
        cases sp with
        | none => obtain ⟨l, c, _, rfl, _⟩ := hy.slice_; exact ⟨_, _, _, rfl, rfl⟩
        | some p => obtain ⟨_, _, _, g, c, rfl⟩ := hy.lost_; exact ⟨_, _, _, rfl, rfl⟩
    obtain ⟨b', n', c', rfl, hb⟩ := this
    refine ⟨?_, fun op k l => eqGuard_at_slice .., rfl, rfl⟩
    rw [hd, Op.equalIn]
    simp only [Sem.run_bind, run_underlying hu, Result.andThen_ok]
    rw [← hb]; rfl
  · rename_i e b0 n c hne hu
    injection h with h; subst h
    obtain ⟨_, _, rfl⟩ := hy.sliceNil_
    have : ∃ b' n' c', x' = .slice b' n' c' ∧ b'.isNone = b0.isNone := by
      cases b0 with
      | none => obtain ⟨_, _, rfl⟩ := hx.sliceNil_; exact ⟨_, _, _, rfl, rfl⟩
      | some ad =>
        obtain ⟨b, o, sp⟩ := ad
        cases sp with
        | none => obtain ⟨l, c, _, rfl, _⟩ := hx.slice_; exact ⟨_, _, _, rfl, rfl⟩
        | some p => obtain ⟨_, _, _, g, c, rfl⟩ := hx.lost_; exact ⟨_, _, _, rfl, rfl⟩
    obtain ⟨b', n', c', rfl, hb⟩ := this
    refine ⟨?_, fun op k l => eqGuard_at_slice .., rfl, rfl⟩
    rw [hd, Op.equalIn]
    simp only [Sem.run_bind, run_underlying hu, Result.andThen_ok]
    rw [← hb]
    cases b' <;> rfl
  · rename_i k e b0 hu
    injection h with h; subst h
    have hx' : x' = .map none := by cases hx with | a h => cases h with | s h => cases h; rfl
    subst hx'
    have : ∃ b', y' = .map b' ∧ b'.isNone = b0.isNone := by
      cases b0 with
      | none => cases hy with | a h => cases h with | s h => cases h; exact ⟨_, rfl, rfl⟩
      | some r => obtain ⟨l, _, rfl⟩ := hy.map_; exact ⟨_, rfl, rfl⟩
    obtain ⟨b', rfl, hb⟩ := this
    refine ⟨?_, fun op k l => eqGuard_at_map .., rfl, rfl⟩
    rw [hd, Op.equalIn]
    simp only [Sem.run_bind, run_underlying hu, Result.andThen_ok]
    rw [← hb]; rfl
  · rename_i k e b0 hne hu
    injection h with h; subst h
    have hy' : y' = .map none := by cases hy with | a h => cases h with | s h => cases h; rfl
    subst hy'
    have : ∃ b', x' = .map b' ∧ b'.isNone = b0.isNone := by
      cases b0 with
      | none => cases hx with | a h => cases h with | s h => cases h; exact ⟨_, rfl, rfl⟩
      | some r => obtain ⟨l, _, rfl⟩ := hx.map_; exact ⟨_, rfl, rfl⟩
    obtain ⟨b', rfl, hb⟩ := this
    refine ⟨?_, fun op k l => eqGuard_at_map .., rfl, rfl⟩
    rw [hd, Op.equalIn]
    simp only [Sem.run_bind, run_underlying hu, Result.andThen_ok]
    rw [← hb]
    cases b' <;> rfl
  · rename_i e b0 hu
    injection h with h; subst h
    have hx' : x' = .pointer none := by cases hx with | a h => cases h with | s h => cases h; rfl
    subst hx'
    have : ∃ b', y' = .pointer b' ∧ b'.isNone = b0.isNone := by
      cases hy with | a h => cases h with | s h => cases h <;> exact ⟨_, rfl, rfl⟩
    obtain ⟨b', rfl, hb⟩ := this
    refine ⟨?_, fun op k l => by cases op <;> rfl, rfl, rfl⟩
    rw [hd, Op.equalIn]
    simp only [Sem.run_bind, run_underlying hu, Result.andThen_ok]
    rw [← hb]; rfl
  · rename_i e b0 hne hu
    injection h with h; subst h
    have hy' : y' = .pointer none := by cases hy with | a h => cases h with | s h => cases h; rfl
    subst hy'
    have : ∃ b', x' = .pointer b' ∧ b'.isNone = b0.isNone := by
      cases hx with | a h => cases h with | s h => cases h <;> exact ⟨_, rfl, rfl⟩
    obtain ⟨b', rfl, hb⟩ := this
    refine ⟨?_, fun op k l => by cases op <;> rfl, rfl, rfl⟩
    rw [hd, Op.equalIn]
    simp only [Sem.run_bind, run_underlying hu, Result.andThen_ok]
    rw [← hb]
    cases b' <;> rfl
  · cases h
theorem pure_valOf {o : Oper} {ρ : Operand → Value} {v : Value} (h : (pureVal P (execOp ρ o)).bind valOf = some v) (w : World) : (execOp ρ o).run P w = .ok (.value v) w := by
  cases hp : pureVal P (execOp ρ o) with
  | none => rw [hp] at h; cases h
  | some nx =>
    rw [hp] at h
    have hn : nx = .value v := by cases nx <;> first | (simp [valOf] at h; subst h; rfl) | (simp [valOf] at h; done)
    subst hn
    exact run_of_pureVal hp
theorem plainA_sound {o : Oper} (hv : ∀ z ∈ o.op.operands.toList, VR m (ev a z) (evC tmps z)) {v : Value} (h : plainA P a o = some v) (hcong : (∀ x ∈ o.op.operands.toList, evC tmps x = ev a x) → execOp (evC tmps) o = execOp (ev a) o) (w : World) :
    (execOp (evC tmps) o).run P w = .ok (.value v) w ∧ VR m v v := by
  unfold plainA at h
  split at h
  · rename_i hall
    have hops : ∀ x ∈ o.op.operands.toList, evC tmps x = ev a x := by
      intro x hx
      exact (hv x hx).plain (List.all_eq_true.1 hall x hx)
    split at h
    · rename_i v' hvv
      split at h
      · rename_i hp
        injection h with h
        subst h
        rw [hcong hops]
        exact ⟨pure_valOf hvv w, .of_plain m hp⟩
      · cases h
    · cases h
  · cases h
theorem lenA_sound {t ty : TypeId} {x x' r : Value} (h : lenA P t x = some r) (hx : VR m x x') (w : World) : (Builtin.len_ #[t] ty #[x']).run P w = .ok r w ∧ VR m r r := by
  unfold lenA at h
  split at h
  · rename_i e b n c hu
    injection h with h; subst h
    refine ⟨?_, .a (.s (.int _ _))⟩
    cases b with
    | none => obtain ⟨rfl, _, rfl⟩ := hx.sliceNil_; simp [Builtin.len_, run_underlying hu]
    | some ad =>
      obtain ⟨b, o, sp⟩ := ad
      cases sp with
      | none => obtain ⟨l, c, _, rfl, _⟩ := hx.slice_; simp [Builtin.len_, run_underlying hu]
      | some p => obtain ⟨rfl, _, _, g, c, rfl⟩ := hx.lost_; simp [Builtin.len_, run_underlying hu]
  · rename_i s hu
    injection h with h; subst h
    obtain rfl := hx.plain rfl
    exact ⟨by simp [Builtin.len_, run_underlying hu], .a (.s (.int _ _))⟩
  · cases h
end
end Go.Abs
