/- A caller's lists as the evaluator has them. -/
import Derived.Test.YtmmgdgmjkhcfaaaAb3
set_option linter.all false
namespace Go.Abs
section
variable {P : Program}
/-- What the world bears of an argument. -/
inductive ArgAt (w : World) : Arg → Value → Prop
 | imm {v v' : Value} (h : ∀ m, VR m v v') : ArgAt w (.imm v) v'
 | li {l : List Value} {g o cap : Nat} {C : Array Value} {el : TypeId} {fr : Nat × Nat} (h : w.heap[g]? = some (.cells C el fr)) (hl : l.length ≤ cap) (hc : o + cap ≤ C.size) (hv : ∀ i v, l[i]? = some v → C[o + i]? = some v) (hp : ∀ v ∈ l, plain v = true) :
  ArgAt w (.li l) (.slice (some ⟨g, o, none⟩) l.length cap)
theorem args_at {w : World} : ∀ {as : List Arg} {args' : List Value} (k : Nat), All2 (ArgAt w) as args' →
  ∃ locs : List Loc, locs.length = (mkHeap k as).length ∧ (∀ (i : Nat) (x : Blk) (l : Loc), (mkHeap k as)[i]? = some x → locs[i]? = some l → x.owned = false ∧ l.g < w.heap.size ∧ ∀ m', BR m' w l x) ∧
    ∀ ms : Mp, (∀ i, i < locs.length → ms (k + i) = locs[i]?) → All2 (VR ms) (mkVals k as) args' := by
 intro as
 induction as with
 | nil => intro args' k h; cases h; exact ⟨[], rfl, fun i x l hx => by simp [mkHeap] at hx, fun ms _ => .nil⟩
 | cons a as ih =>
   intro args' k h
   cases h with
   | cons ha ht =>
     cases ha with
     | imm hv =>
       obtain ⟨locs, e1, e2, e3⟩ := ih k ht
       exact ⟨locs, e1, e2, fun ms hms => .cons (hv ms) (e3 ms hms)⟩
     | @li l g o cap C el fr hh hl hc hcell hp =>
       obtain ⟨locs, e1, e2, e3⟩ := ih (k + 1) ht
       refine ⟨⟨g, o, C.size⟩ :: locs, by simp [mkHeap, e1], fun i x y hx hy => ?_, fun ms hms => .cons ?_ (e3 ms fun i hi => ?_)⟩
       ·cases i with
        | zero =>
          simp [mkHeap] at hx hy
          subst hx; subst hy
          have hlt : g < w.heap.size := by
           apply Nat.lt_of_not_le
           intro hge
           rw [Array.getElem?_eq_none hge] at hh
           cases hh
          exact ⟨rfl, hlt, fun m' => ⟨C, el, fr, hh, rfl, (fun h => by cases h), fun i v hv => ⟨v, hcell i v hv, by
           have := VR.of_plain m' (hp v (List.mem_of_getElem? hv))
           cases this with
           | a h => cases h with
             | s h => exact h
             | agg h => have := hp _ (List.mem_of_getElem? hv); simp [plain] at this
           | tuple h => have := hp _ (List.mem_of_getElem? hv); simp [plain] at this⟩⟩⟩
        | succ i => exact e2 i x y (by simpa [mkHeap] using hx) (by simpa using hy)
       ·have h0 := hms 0 (by simp)
        simp at h0
        have := SR.slice (m := ms) k 0 l.length 1 cap ⟨g, o, C.size⟩ h0 hl (by simp; omega)
        exact .a (.s this)
       ·have := hms (i + 1) (by simp; omega)
        rw [show k + (i + 1) = k + 1 + i by omega] at this
        simpa using this
theorem rows_rel {w : World} {as : List Arg} {args' : List Value} (h : All2 (ArgAt w) as args') : ∃ m, Rel m (mkHeap 0 as) w ∧ All2 (VR m) (mkVals 0 as) args' ∧ ∀ g, ¬ Owned m (mkHeap 0 as) g := by
 obtain ⟨locs, la, lb, lc⟩ := args_at 0 h
 refine ⟨fun b => locs[b]?, ?_, lc _ fun i hi => by simp, ?_⟩
 ·exact {
   len := fun b l hb => by have := lt_of_get hb; omega
   has := fun b x hx _ => by
    have := lt_of_get hx
    exact ⟨locs[b]'(by omega), List.getElem?_eq_getElem _⟩
   bnd := fun b l hb => by
    have := lt_of_get hb
    exact (lb b _ l (List.getElem?_eq_getElem (by omega)) hb).2.1
   blk := fun b x l hx hb => (lb b x l hx hb).2.2 _
   sep := fun b c x y l k _ hx hy hb hc ho => by have := (lb b x l hx hb).1; rw [this] at ho; cases ho }
 ·rintro g ⟨b, x, l, h1, h2, h3, _⟩
  have := (lb b x l h1 h2).1
  rw [this] at h3; cases h3
open Go.RowKit in
/-- A law over lists, from the evaluator's answer. -/
theorem law_args (hmix : P.follows .mixedOrders = true) {call : CallF} (hcall : CallOK P call) (hg : CallGrow call) {n f : Nat} {as : List Arg} {H' : Heap} (h : evBody P call n (.func (.func f) #[] #[]) (mkVals 0 as) (mkHeap 0 as) = some (.bool true, H'))
  {w : World} {args : Array Value} (ha : All2 (ArgAt w) as args.toList) : Calls P f args w fun e w' => e = .returned (.bool true) ∧ Below w.heap.size w w' := by
 obtain ⟨m, hR, hargs, hno⟩ := rows_rel ha
 obtain ⟨m', w', v', s1, s2, s3⟩ := body_calls hmix hcall hg h hR hargs
 obtain rfl := s2.plain rfl
 have hB : Below w.heap.size w w' := ⟨s1.keep.os, s1.keep.tape, s1.keep.output, s1.keep.size, fun k hk => s1.keep.block k hk (hno k)⟩
 refine fun cs => ?_
 obtain ⟨e, w2, fr, ⟨rfl, rfl⟩, h2⟩ := s3 cs
 exact ⟨_, _, fr, ⟨rfl, hB⟩, h2⟩
end
end Go.Abs
