/- The evaluator never loses a block's number. -/
import Derived.Test.YtmmgdgmjkhcfaaaEngKd
namespace Go.Abs
section
variable {P : Program} {call : CallF} {a : Fr} {H : Heap}
def CallGrow (call : CallF) : Prop := ∀ fv args H v H', call fv args H = some (v, H') → H.length ≤ H'.length
theorem write_len {b o : Nat} {vs : List Value} {H' : Heap} (h : H.write b o vs = some H') : H'.length = H.length := by
  unfold Heap.write at h
  split at h
  · split at h
    · injection h with h; subst h; simp
    · cases h
  · cases h
theorem aexec_grow {o : Oper} {v : Value} {H' : Heap} (h : aexec P a o H = some (v, H')) : H.length ≤ H'.length := by
  cases hc : cls o.op with
  | pure_ => obtain ⟨rfl, _⟩ := aexec_pure hc h; exact Nat.le_refl _
  | read => have := read_same hc h; subst this; exact Nat.le_refl _
  | all_ =>
    obtain ⟨dst, op, type, pos, after, guard⟩ := o
    cases op <;> first | (simp [cls] at hc; done) | skip
    case alloc t =>
      simp only [aexec] at h
      split at h
      · split at h
        · injection h with h; injection h with h1 h2; subst h2; simp
        · cases h
      · cases h
    case box t x =>
      simp only [aexec] at h
      split at h
      · injection h with h; injection h with h1 h2; subst h2; simp
      · cases h
    case buildSlice t len parts =>
      simp only [aexec, buildSliceA] at h
      split at h
      · split at h
        · split at h
          · split at h
            · injection h with h; injection h with h1 h2; subst h2; simp
            · cases h
          · cases h
        · cases h
      · cases h
    case makeMap t r =>
      simp only [aexec] at h
      split at h
      · split at h
        · injection h with h; injection h with h1 h2; subst h2; simp
        · cases h
      · cases h
    case makeSlice t l c =>
      simp only [aexec] at h
      split at h
      · split at h
        · split at h
          · injection h with h; injection h with h1 h2; subst h2; simp
          · cases h
        · cases h
      · cases h
    case call c =>
      exfalso
      obtain ⟨callee, args, ts⟩ := c
      cases callee
      case builtin bi => cases bi <;> simp [cls] at hc
      all_goals simp [cls] at hc
  | eff =>
    obtain ⟨dst, op, type, pos, after, guard⟩ := o
    cases op <;> first | (simp [cls] at hc; done) | skip
    case store t x y =>
      simp only [aexec] at h
      cases hb : storeA P t (ev a x) (ev a y) H with
      | none => rw [hb] at h; cases h
      | some H1 =>
        rw [hb] at h
        simp only [Option.map_some] at h
        injection h with h; injection h with h1 h2; subst h2
        unfold storeA at hb
        split at hb
        · split at hb
          · exact Nat.le_of_eq (write_len hb).symm
          · cases hb
        · cases hb
    case mapUpdate t x k v =>
      simp only [aexec] at h
      cases hb : mapUpdateA P t (ev a x) (ev a k) (ev a v) H with
      | none => rw [hb] at h; cases h
      | some H1 =>
        rw [hb] at h
        simp only [Option.map_some] at h
        injection h with h; injection h with h1 h2; subst h2
        unfold mapUpdateA at hb
        split at hb
        · split at hb
          · split at hb
            · split at hb
              · injection hb with hb; subst hb; simp
              · cases hb
            · cases hb
          · cases hb
        · cases hb
    case call c =>
      obtain ⟨callee, args, ts⟩ := c
      cases callee
      case builtin bi =>
        simp only [aexec] at h
        unfold builtinA at h
        split at h
        · obtain ⟨_, h2⟩ := map_pair h; subst h2; exact Nat.le_refl _
        · split at h
          · unfold appendA at h
            split at h
            · split at h
              · split at h
                · split at h
                  · split at h
                    · injection h with h; injection h with h1 h2; subst h2; exact Nat.le_refl _
                    · cases h
                  · split at h
                    · split at h
                      · injection h with h; injection h with h1 h2; subst h2; simp
                      · cases h
                    · split at h
                      · split at h
                        · injection h with h; injection h with h1 h2; subst h2; simp
                        · cases h
                      · cases h
                    · cases h
                · cases h
              · cases h
            · cases h
          · unfold appendIntA at h
            split at h
            · split at h
              · split at h
                · injection h with h; injection h with h1 h2; subst h2; simp
                · cases h
              · cases h
            · cases h
        · unfold copyA at h
          split at h
          · split at h
            · injection h with h; injection h with h1 h2; subst h2; exact Nat.le_refl _
            · split at h
              · split at h
                · rename_i hw
                  injection h with h; injection h with h1 h2; subst h2
                  exact Nat.le_of_eq (write_len hw).symm
                · cases h
              · cases h
          · cases h
        · rename_i t _ _
          cases he : sliceElem P t with
          | none => rw [he] at h; cases h
          | some es => rw [he] at h; simp only [Option.map_some] at h; injection h with h; injection h with h1 h2; subst h2; exact Nat.le_refl _
        · obtain ⟨_, h2⟩ := map_pair h; subst h2; exact Nat.le_refl _
        · obtain ⟨_, h2⟩ := map_pair h; subst h2; exact Nat.le_refl _
        · cases h
      all_goals (simp only [aexec] at h; cases h)
variable (hg : CallGrow call)
include hg
theorem stepA_grow {o : Oper} {v : Value} {H' : Heap} (h : stepA P call a o H = some (v, H')) : H.length ≤ H'.length := by
  unfold stepA at h
  split at h
  · exact hg _ _ _ _ _ h
  · exact aexec_grow h
theorem evOps_grow {ops : Array Oper} : ∀ {l : List Oper} {a a' : Fr} {H H' : Heap}, evOps P call ops l a H = some (a', H') → H.length ≤ H'.length := by
  intro l
  induction l with
  | nil => intro a a' H H' h; simp only [evOps] at h; injection h with h; injection h with h1 h2; subst h2; exact Nat.le_refl _
  | cons o l ih =>
    intro a a' H H' h
    simp only [evOps] at h
    split at h
    · split at h
      · rename_i hs; exact Nat.le_trans (stepA_grow hg hs) (ih h)
      · cases h
    · exact ih h
theorem evDraw_grow {ops : Array Oper} {bef : Array Nat} : ∀ {l : List Nat} {a a' : Fr} {H H' : Heap} {st : List (Option Nat × Heap)} {pd : Pend}, evDraw P call ops bef l a H st pd = some (a', H') → H.length ≤ H'.length := by
  intro l
  induction l with
  | nil => intro a a' H H' st pd h; simp only [evDraw] at h; injection h with h; injection h with h1 h2; subst h2; exact Nat.le_refl _
  | cons j l ih =>
    intro a a' H H' st pd h
    simp only [evDraw] at h
    split at h
    · cases h
    · split at h
      · split at h
        · split at h
          · rename_i hs
            split at h
            · exact Nat.le_trans (stepA_grow hg hs) (ih h)
            · cases h
          · cases h
        · split at h
          · rename_i hs; exact Nat.le_trans (aexec_grow hs) (ih h)
          · cases h
        · split at h
          · split at h
            · exact ih h
            · cases h
          · cases h
        · split at h
          · exact ih h
          · cases h
      · exact ih h
omit hg in
theorem loopN_grow {f : Fr → Heap → Option (X × Fr × Heap)} (hf : ∀ a H x a' H', f a H = some (x, a', H') → H.length ≤ H'.length) : ∀ n {a a' : Fr} {H H' : Heap} {x : X}, loopN f n a H = some (x, a', H') → H.length ≤ H'.length := by
  intro n
  induction n with
  | zero => intro a a' H H' x h; simp [loopN] at h
  | succ n ih =>
    intro a a' H H' x h
    rw [loopN] at h
    split at h
    · rename_i h1; exact Nat.le_trans (hf _ _ _ _ _ h1) (ih h)
    · exact hf _ _ _ _ _ h
theorem evCode_grow {k nt : Nat} {rd : Option Nat} : ∀ {c : Code} {a a' : Fr} {H H' : Heap} {x : X}, evCode P call k nt rd c a H = some (x, a', H') → H.length ≤ H'.length := by
  intro c
  induction c with
  | region id ops draw =>
    intro a a' H H' x h
    cases draw with
    | false =>
      simp only [evCode] at h
      split at h
      · rename_i h1; injection h with h; injection h with h2 h3; injection h3 with h3 h4; subst h4; exact evOps_grow hg h1
      · cases h
    | true =>
      simp only [evCode] at h
      split at h
      · rename_i h1; injection h with h; injection h with h2 h3; injection h3 with h3 h4; subst h4; exact evDraw_grow hg h1
      · cases h
  | seq c d ihc ihd =>
    intro a a' H H' x h
    simp only [evCode] at h
    split at h
    · rename_i h1; exact Nat.le_trans (ihc h1) (ihd h)
    · exact ihc h
  | cond c x y ihx ihy =>
    intro a a' H H' x h
    simp only [evCode] at h
    split at h
    · exact ihx h
    · exact ihy h
    · cases h
  | block id c ih =>
    intro a a' H H' x h
    simp only [evCode] at h
    split at h
    · rename_i h1
      split at h
      · injection h with h; injection h with h2 h3; injection h3 with h3 h4; subst h4; exact ih h1
      · injection h with h; injection h with h2 h3; injection h3 with h3 h4; subst h4; exact ih h1
    · exact ih h
  | loop c ih =>
    intro a a' H H' x h
    simp only [evCode] at h
    exact loopN_grow (fun _ _ _ _ _ h => ih h) k h
  | rangeFunc f params assign body _ _ =>
    intro a a' H H' x h
    simp only [evCode] at h
    split at h
    · split at h
      · rename_i hc
        split at h
        · split at h
          · cases h
          · split at h
            · injection h with h; injection h with h2 h3; injection h3 with h3 h4; subst h4
              have := hg _ _ _ _ _ hc
              simp at this ⊢
              omega
            · cases h
        · cases h
      · cases h
    · cases h
  | scope c _ => intro a a' H H' x h; simp [evCode] at h
  | goto l => intro a a' H H' x h; simp [evCode] at h
  | refuse s => intro a a' H H' x h; simp [evCode] at h
  | _ => intro a a' H H' x h; simp only [evCode] at h; injection h with h; injection h with h2 h3; injection h3 with h3 h4; subst h4; exact Nat.le_refl _
end
theorem evApply_grow (P : Program) : ∀ n, CallGrow (evApply P n) := by
  intro n
  induction n with
  | zero => intro fv args H v H' h; simp [evApply] at h
  | succ n ih =>
    intro fv args H v H' h
    unfold evApply at h
    split at h
    · split at h
      case h_2 => cases h
      split at h
      case h_2 => cases h
      split at h
      case isFalse => cases h
      split at h
      · rename_i a1 H1 hev
        have h2 : H' = H1 := (fun {o : Option (List Value)} (h : o.map (fun vs => (pack vs, H1)) = some (v, H')) => by
          cases o with
          | none => cases h
          | some vs => simp only [Option.map_some] at h; injection h with h; injection h with h1 h2; exact h2.symm) h
        subst h2
        exact evCode_grow ih hev
      · rename_i a1 H1 hev
        have h2 : H' = H1 := (fun {o : Option (List Value)} (h : o.map (fun vs => (pack vs, H1)) = some (v, H')) => by
          cases o with
          | none => cases h
          | some vs => simp only [Option.map_some] at h; injection h with h; injection h with h1 h2; exact h2.symm) h
        subst h2
        exact evCode_grow ih hev
      · cases h
    · split at h
      case h_2 => cases h
      split at h
      case isFalse => cases h
      split at h
      case h_2 => cases h
      rename_i hev1
      split at h
      case h_2 => cases h
      split at h
      case h_2 => cases h
      rename_i hev2
      split at h
      case h_2 => cases h
      injection h with h; injection h with h1 h2; subst h2
      have e1 := evCode_grow ih hev1
      have e2 := evCode_grow ih hev2
      simp at e2 ⊢
      omega
    · cases h
end Go.Abs
