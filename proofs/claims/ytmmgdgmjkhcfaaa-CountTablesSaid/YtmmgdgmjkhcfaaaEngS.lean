/- Contracts: what a call does over a small heap of its arguments alone, it does over any heap. -/
import Derived.Test.YtmmgdgmjkhcfaaaEngN
namespace Go.Abs
inductive Arg where
  | imm (v : Value)
  | li (vs : List Value)
def immOk : Value → Bool
  | .bool _ | .int _ _ | .string _ => true
  | .slice none 0 0 => true
  | .slice (some ⟨0, 0, some _⟩) 0 _ => true
  | _ => false
def readArg (H : Heap) (v : Value) : Option Arg :=
  match v with
  | .slice (some ⟨b, o, none⟩) n 1 =>
    match H[b]? with
    | some (.cells _ _ cs) => if o + n ≤ cs.length ∧ (cs.drop o).all plain then some (.li ((cs.drop o).take n)) else none
    | _ => none
  | v => if immOk v then some (.imm v) else none
def mkVals (k : Nat) : List Arg → List Value
  | [] => []
  | .imm v :: r => v :: mkVals k r
  | .li vs :: r => sliceA k 0 vs.length 1 :: mkVals (k + 1) r
def mkHeap (k : Nat) : List Arg → Heap
  | [] => []
  | .imm _ :: r => mkHeap k r
  | .li vs :: r => .cells k false vs :: mkHeap (k + 1) r
def renS (r : Nat → Option Nat) : Value → Option Value
  | .slice (some ⟨b, o, none⟩) n e => (r b).map fun b' => .slice (some ⟨b', o, none⟩) n e
  | v => if immOk v then some v else none
def mapO {α β : Type} (f : α → Option β) : List α → Option (List β)
  | [] => some []
  | x :: xs => match f x, mapO f xs with
    | some y, some ys => some (y :: ys)
    | _, _ => none
def renA (r : Nat → Option Nat) : Value → Option Value
  | .agg cs => (mapO (renS r) cs.toList).map fun l => .agg ⟨l⟩
  | v => renS r v
def renV (r : Nat → Option Nat) : Value → Option Value
  | .tuple cs => (mapO (renA r) cs.toList).map fun l => .tuple ⟨l⟩
  | v => renA r v
section
variable {ma mb : Mp} {r : Nat → Option Nat} (hr : ∀ b b' l, r b = some b' → ma b = some l → mb b' = some l)
include hr
theorem renS_sound {v u w : Value} (h : renS r v = some u) (hv : SR ma v w) : SR mb u w := by
  unfold renS at h
  split at h
  · rename_i b o n e
    cases hb : r b with
    | none => rw [hb] at h; cases h
    | some b' =>
      rw [hb] at h
      cases h
      cases hv with
      | slice b o n e c l hl h1 h2 => exact .slice b' o n e c l (hr _ _ _ hb hl) h1 h2
  · split at h
    case isFalse => cases h
    rename_i hi
    cases h
    unfold immOk at hi
    split at hi
    · cases hv; exact .bool _
    · cases hv; exact .int _ _
    · cases hv; exact .string _
    · cases hv; exact .sliceNil
    · cases hv; exact .lost _ _ _ _
    · cases hi
omit hr in
theorem mapO_sound {R S : Value → Value → Prop} {f : Value → Option Value} (hf : ∀ v u w, f v = some u → R v w → S u w) : ∀ {l l2 : List Value} {l' : List Value}, mapO f l = some l2 → All2 R l l' → All2 S l2 l' := by
  intro l
  induction l with
  | nil => intro l2 l' h hl; cases h; cases hl; exact .nil
  | cons x xs ih =>
    intro l2 l' h hl
    unfold mapO at h
    split at h
    · rename_i y ys h1 h2
      cases h
      cases hl with
      | cons hx ht => exact .cons (hf _ _ _ h1 hx) (ih h2 ht)
    · cases h
theorem renA_sound {v u w : Value} (h : renA r v = some u) (hv : AR ma v w) : AR mb u w := by
  unfold renA at h
  split at h
  · rename_i cs
    cases hm : mapO (renS r) cs.toList with
    | none => rw [hm] at h; cases h
    | some l =>
      rw [hm] at h
      cases h
      cases hv with
      | s h => cases h
      | agg h => exact .agg (mapO_sound (R := SR ma) (S := SR mb) (fun v u w h1 h2 => renS_sound hr h1 h2) hm h)
  · rename_i hno
    cases hv with
    | s hv => exact .s (renS_sound hr h hv)
    | agg hv => exact absurd rfl (hno _)
theorem renV_sound {v u w : Value} (h : renV r v = some u) (hv : VR ma v w) : VR mb u w := by
  unfold renV at h
  split at h
  · rename_i cs
    cases hm : mapO (renA r) cs.toList with
    | none => rw [hm] at h; cases h
    | some l =>
      rw [hm] at h
      cases h
      cases hv with
      | a h => cases h with | s h => cases h
      | tuple h => exact .tuple (mapO_sound (R := AR ma) (S := AR mb) (fun v u w h1 h2 => renA_sound hr h1 h2) hm h)
  · rename_i hno
    cases hv with
    | a hv => exact .a (renA_sound hr h hv)
    | tuple hv => exact absurd rfl (hno _)
end

section
variable {m : Mp} {H : Heap} {w : World}
/-- The arguments, as a heap of their own. -/
theorem args_rel (hR : Rel m H w) : ∀ {args args' : List Value} {as : List Arg} (k : Nat), mapO (readArg H) args = some as → All2 (VR m) args args' →
    ∃ locs : List Loc, locs.length = (mkHeap k as).length ∧ (∀ (i : Nat) (x : Blk) (l : Loc), (mkHeap k as)[i]? = some x → locs[i]? = some l → x.owned = false ∧ l.g < w.heap.size ∧ ∀ m', BR m' w l x) ∧
      ∀ ms : Mp, (∀ i, i < locs.length → ms (k + i) = locs[i]?) → All2 (VR ms) (mkVals k as) args' := by
  intro args
  induction args with
  | nil =>
    intro args' as k h hv
    cases h; cases hv
    exact ⟨[], rfl, fun i x l hx => by simp [mkHeap] at hx, fun ms _ => .nil⟩
  | cons v vs ih =>
    intro args' as k h hv
    cases hv with
    | cons hv ht =>
    rename_i v' vs'
    unfold mapO at h
    split at h
    case h_2 => cases h
    rename_i a as2 h1 h2
    cases h
    cases a with
    | imm u =>
      obtain ⟨locs, e1, e2, e3⟩ := ih k h2 ht
      refine ⟨locs, e1, e2, fun ms hms => .cons ?_ (e3 ms hms)⟩
      unfold readArg at h1
      split at h1
      · split at h1
        · split at h1 <;> cases h1
        · cases h1
      · split at h1
        case isFalse => cases h1
        rename_i hi
        cases h1
        unfold immOk at hi
        split at hi
        · cases hv with | a hv => cases hv with | s hv => cases hv; exact .a (.s (.bool _))
        · cases hv with | a hv => cases hv with | s hv => cases hv; exact .a (.s (.int _ _))
        · cases hv with | a hv => cases hv with | s hv => cases hv; exact .a (.s (.string _))
        · cases hv with | a hv => cases hv with | s hv => cases hv; exact .a (.s .sliceNil)
        · cases hv with | a hv => cases hv with | s hv => cases hv; exact .a (.s (.lost _ _ _ _))
        · cases hi
    | li us =>
      obtain ⟨locs, e1, e2, e3⟩ := ih (k + 1) h2 ht
      unfold readArg at h1
      split at h1
      case h_2 => split at h1 <;> cases h1
      rename_i b o n
      split at h1
      case h_2 => cases h1
      rename_i fam own cs hb
      split at h1
      case isFalse => cases h1
      rename_i hc
      cases h1
      have hl : ∃ l c, m b = some l ∧ v' = .slice (some ⟨l.g, l.o + o, none⟩) n c ∧ n ≤ c ∧ l.o + o + c * 1 ≤ l.N := by
        cases hv with
        | a hv => cases hv with
          | s hv => cases hv with
            | slice b o n e c l hl h1 h2 => exact ⟨l, c, hl, rfl, h1, h2⟩
      obtain ⟨l, c, hml, rfl, hnc, hcN⟩ := hl
      obtain ⟨C, el, fr, q1, q2, q3, q4⟩ := hR.blk b _ l hb hml
      refine ⟨⟨l.g, l.o + o, l.N⟩ :: locs, by simp [mkHeap, e1], ?_, ?_⟩
      · intro i x l1 hx hl1
        cases i with
        | zero =>
          simp [mkHeap] at hx hl1
          subst hx; subst hl1
          refine ⟨rfl, hR.bnd b l hml, fun m' => ⟨C, el, fr, q1, q2, by simp, fun i v hv => ?_⟩⟩
          rw [List.getElem?_take] at hv
          split at hv
          case isFalse => cases hv
          rw [List.getElem?_drop] at hv
          obtain ⟨v2, z1, z2⟩ := q4 _ _ hv
          have hp : plain v = true := List.all_eq_true.1 hc.2 v (List.mem_of_getElem? (by rw [List.getElem?_drop]; exact hv))
          have := z2.plain hp
          subst this
          refine ⟨v2, by simpa [Nat.add_assoc] using z1, ?_⟩
          rcases VR.of_plain m' hp with ⟨h⟩ | h
          · cases h with
            | s h => exact h
            | agg h => simp [plain] at hp
          · simp [plain] at hp
        | succ i =>
          simp [mkHeap] at hx hl1
          exact e2 i x l1 hx hl1
      · intro ms hms
        refine .cons (.a (.s ?_)) (e3 ms fun i hi => ?_)
        · have h0 := hms 0 (by simp)
          simp at h0
          have hlen : ((cs.drop o).take n).length = n := by simp; omega
          unfold sliceA
          rw [hlen]
          exact .slice k 0 n 1 c ⟨l.g, l.o + o, l.N⟩ h0 hnc (by simpa using hcN)
        · have := hms (i + 1) (by simp; omega)
          rw [show k + 1 + i = k + (i + 1) by omega, this]
          simp
end
end Go.Abs
