/- Contracts: what a call does over a small heap of its arguments alone, it does over any heap. -/
import Derived.Test.YtmmgdgmjkhcfaaaAb2
import Derived.KernelRfl
import Derived.Below
set_option linter.all false
/- Contracts: what a call does over a small heap of its arguments alone, it does over any heap. -/
namespace Go.Abs
inductive Arg where
 | imm (v : Value)
 | li (vs : List Value)
def immOk : Value → Bool
 | .bool _ | .int _ _ | .string _ => true
 | .slice none 0 0 => true
 | .slice (some ⟨0, 0, some _⟩) 0 _ => true
 | _ => false
def readArg (H : Heap) (v : Value) : Option Arg :=
 match v with
 | .slice (some ⟨b, o, none⟩) n 1 =>
   match H[b]? with
   | some (.cells _ _ cs) => if o + n ≤ cs.length ∧ (cs.drop o).all plain then some (.li ((cs.drop o).take n)) else none
   | _ => none
 | v => if immOk v then some (.imm v) else none
def mkVals (k : Nat) : List Arg → List Value
 | [] => []
 | .imm v :: r => v :: mkVals k r
 | .li vs :: r => sliceA k 0 vs.length 1 :: mkVals (k + 1) r
def mkHeap (k : Nat) : List Arg → Heap
 | [] => []
 | .imm _ :: r => mkHeap k r
 | .li vs :: r => .cells k false vs :: mkHeap (k + 1) r
def renS (r : Nat → Option Nat) : Value → Option Value
 | .slice (some ⟨b, o, none⟩) n e => (r b).map fun b' => .slice (some ⟨b', o, none⟩) n e
 | v => if immOk v then some v else none
def mapO {α β : Type} (f : α → Option β) : List α → Option (List β)
 | [] => some []
 | x :: xs => match f x, mapO f xs with
   | some y, some ys => some (y :: ys)
   | _, _ => none
def renA (r : Nat → Option Nat) : Value → Option Value
 | .agg cs => (mapO (renS r) cs.toList).map fun l => .agg ⟨l⟩
 | v => renS r v
def renV (r : Nat → Option Nat) : Value → Option Value
 | .tuple cs => (mapO (renA r) cs.toList).map fun l => .tuple ⟨l⟩
 | v => renA r v
section
variable {ma mb : Mp} {r : Nat → Option Nat} (hr : ∀ b b' l, r b = some b' → ma b = some l → mb b' = some l)
include hr
theorem renS_sound {v u w : Value} (h : renS r v = some u) (hv : SR ma v w) : SR mb u w := by
 unfold renS at h
 split at h
 ·rename_i b o n e
  cases hb : r b with
  | none => rw [hb] at h; cases h
  | some b' =>
    rw [hb] at h
    cases h
    cases hv with
    | slice b o n e c l hl h1 h2 => exact .slice b' o n e c l (hr _ _ _ hb hl) h1 h2
 ·split at h
  case isFalse => cases h
  rename_i hi
  cases h
  unfold immOk at hi
  split at hi
  ·cases hv; exact .bool _
  ·cases hv; exact .int _ _
  ·cases hv; exact .string _
  ·cases hv; exact .sliceNil
  ·cases hv; exact .lost _ _ _ _
  ·cases hi
omit hr in
theorem mapO_sound {R S : Value → Value → Prop} {f : Value → Option Value} (hf : ∀ v u w, f v = some u → R v w → S u w) : ∀ {l l2 : List Value} {l' : List Value}, mapO f l = some l2 → All2 R l l' → All2 S l2 l' := by
 intro l
 induction l with
 | nil => intro l2 l' h hl; cases h; cases hl; exact .nil
 | cons x xs ih =>
   intro l2 l' h hl
   unfold mapO at h
   split at h
   ·rename_i y ys h1 h2
    cases h
    cases hl with
    | cons hx ht => exact .cons (hf _ _ _ h1 hx) (ih h2 ht)
   ·cases h
theorem renA_sound {v u w : Value} (h : renA r v = some u) (hv : AR ma v w) : AR mb u w := by
 unfold renA at h
 split at h
 ·rename_i cs
  cases hm : mapO (renS r) cs.toList with
  | none => rw [hm] at h; cases h
  | some l =>
    rw [hm] at h
    cases h
    cases hv with
    | s h => cases h
    | agg h => exact .agg (mapO_sound (R := SR ma) (S := SR mb) (fun v u w h1 h2 => renS_sound hr h1 h2) hm h)
 ·rename_i hno
  cases hv with
  | s hv => exact .s (renS_sound hr h hv)
  | agg hv => exact absurd rfl (hno _)
theorem renV_sound {v u w : Value} (h : renV r v = some u) (hv : VR ma v w) : VR mb u w := by
 unfold renV at h
 split at h
 ·rename_i cs
  cases hm : mapO (renA r) cs.toList with
  | none => rw [hm] at h; cases h
  | some l =>
    rw [hm] at h
    cases h
    cases hv with
    | a h => cases h with | s h => cases h
    | tuple h => exact .tuple (mapO_sound (R := AR ma) (S := AR mb) (fun v u w h1 h2 => renA_sound hr h1 h2) hm h)
 ·rename_i hno
  cases hv with
  | a hv => exact .a (renA_sound hr h hv)
  | tuple hv => exact absurd rfl (hno _)
end

section
variable {m : Mp} {H : Heap} {w : World}
/-- The arguments, as a heap of their own. -/
theorem args_rel (hR : Rel m H w) : ∀ {args args' : List Value} {as : List Arg} (k : Nat), mapO (readArg H) args = some as → All2 (VR m) args args' →
  ∃ locs : List Loc, locs.length = (mkHeap k as).length ∧ (∀ (i : Nat) (x : Blk) (l : Loc), (mkHeap k as)[i]? = some x → locs[i]? = some l → x.owned = false ∧ l.g < w.heap.size ∧ ∀ m', BR m' w l x) ∧
    ∀ ms : Mp, (∀ i, i < locs.length → ms (k + i) = locs[i]?) → All2 (VR ms) (mkVals k as) args' := by
 intro args
 induction args with
 | nil =>
   intro args' as k h hv
   cases h; cases hv
   exact ⟨[], rfl, fun i x l hx => by simp [mkHeap] at hx, fun ms _ => .nil⟩
 | cons v vs ih =>
   intro args' as k h hv
   cases hv with
   | cons hv ht =>
   rename_i v' vs'
   unfold mapO at h
   split at h
   case h_2 => cases h
   rename_i a as2 h1 h2
   cases h
   cases a with
   | imm u =>
     obtain ⟨locs, e1, e2, e3⟩ := ih k h2 ht
     refine ⟨locs, e1, e2, fun ms hms => .cons ?_ (e3 ms hms)⟩
     unfold readArg at h1
     split at h1
     ·split at h1
      ·split at h1 <;> cases h1
      ·cases h1
     ·split at h1
      case isFalse => cases h1
      rename_i hi
      cases h1
      unfold immOk at hi
      split at hi
      ·cases hv with | a hv => cases hv with | s hv => cases hv; exact .a (.s (.bool _))
      ·cases hv with | a hv => cases hv with | s hv => cases hv; exact .a (.s (.int _ _))
      ·cases hv with | a hv => cases hv with | s hv => cases hv; exact .a (.s (.string _))
      ·cases hv with | a hv => cases hv with | s hv => cases hv; exact .a (.s .sliceNil)
      ·cases hv with | a hv => cases hv with | s hv => cases hv; exact .a (.s (.lost _ _ _ _))
      ·cases hi
   | li us =>
     obtain ⟨locs, e1, e2, e3⟩ := ih (k + 1) h2 ht
     unfold readArg at h1
     split at h1
     case h_2 => split at h1 <;> cases h1
     rename_i b o n
     split at h1
     case h_2 => cases h1
     rename_i fam own cs hb
     split at h1
     case isFalse => cases h1
     rename_i hc
     cases h1
     have hl : ∃ l c, m b = some l ∧ v' = .slice (some ⟨l.g, l.o + o, none⟩) n c ∧ n ≤ c ∧ l.o + o + c * 1 ≤ l.N := by
      cases hv with
      | a hv => cases hv with
        | s hv => cases hv with
          | slice b o n e c l hl h1 h2 => exact ⟨l, c, hl, rfl, h1, h2⟩
     obtain ⟨l, c, hml, rfl, hnc, hcN⟩ := hl
     obtain ⟨C, el, fr, q1, q2, q3, q4⟩ := hR.blk b _ l hb hml
     refine ⟨⟨l.g, l.o + o, l.N⟩ :: locs, by simp [mkHeap, e1], ?_, ?_⟩
     ·intro i x l1 hx hl1
      cases i with
      | zero =>
        simp [mkHeap] at hx hl1
        subst hx; subst hl1
        refine ⟨rfl, hR.bnd b l hml, fun m' => ⟨C, el, fr, q1, q2, by simp, fun i v hv => ?_⟩⟩
        rw [List.getElem?_take] at hv
        split at hv
        case isFalse => cases hv
        rw [List.getElem?_drop] at hv
        obtain ⟨v2, z1, z2⟩ := q4 _ _ hv
        have hp : plain v = true := List.all_eq_true.1 hc.2 v (List.mem_of_getElem? (by rw [List.getElem?_drop]; exact hv))
        have := z2.plain hp
        subst this
        refine ⟨v2, by simpa [Nat.add_assoc] using z1, ?_⟩
        rcases VR.of_plain m' hp with ⟨h⟩ | h
        ·cases h with
         | s h => exact h
         | agg h => simp [plain] at hp
        ·simp [plain] at hp
      | succ i =>
        simp [mkHeap] at hx hl1
        exact e2 i x l1 hx hl1
     ·intro ms hms
      refine .cons (.a (.s ?_)) (e3 ms fun i hi => ?_)
      ·have h0 := hms 0 (by simp)
       simp at h0
       have hlen : ((cs.drop o).take n).length = n := by simp; omega
       unfold sliceA
       rw [hlen]
       exact .slice k 0 n 1 c ⟨l.g, l.o + o, l.N⟩ h0 hnc (by simpa using hcN)
      ·have := hms (i + 1) (by simp; omega)
       rw [show k + 1 + i = k + (i + 1) by omega, this]
       simp
end
end Go.Abs
/- Contracts: a table of what calls answer, each line of it seen over a small heap, is sound. -/
namespace Go.Abs
abbrev Res := Value × List (List Value)
/-- The same value, but that the second one's places are numbers in a list of blocks. -/
def MS (acc : List Nat) (v u : Value) : Prop := (immOk v = true ∧ u = v) ∨ ∃ b j o n e, v = .slice (some ⟨b, o, none⟩) n e ∧ u = .slice (some ⟨j, o, none⟩) n e ∧ acc[j]? = some b
def MA (acc : List Nat) (v u : Value) : Prop := (∃ cs ds : Array Value, v = .agg cs ∧ u = .agg ds ∧ All2 (MS acc) cs.toList ds.toList) ∨ MS acc v u
def MV (acc : List Nat) (v u : Value) : Prop := (∃ cs ds : Array Value, v = .tuple cs ∧ u = .tuple ds ∧ All2 (MA acc) cs.toList ds.toList) ∨ MA acc v u
/-- A call's answer, and what it made, as the line of a table. -/
structure GoodRes (acc : List Nat) (H : Heap) (v : Value) (r : Res) : Prop where
 val : MV acc v r.1
 len : r.2.length = acc.length
 blk : ∀ (j b : Nat), acc[j]? = some b → ∃ fam cs c, H[b]? = some (.cells fam true cs) ∧ r.2[j]? = some c ∧ All2 (MS acc) cs c
 fam : ∀ (i j b c f : Nat) cs ds, i ≠ j → acc[i]? = some b → acc[j]? = some c → H[b]? = some (.cells f true cs) → H[c]? = some (.cells f true ds) → False
def LineOK (P : Program) (f : Nat) (as : List Arg) (r : Res) : Prop := ∃ call v H acc, CallOK P call ∧ call (.func (.func f) #[] #[]) (mkVals 0 as) (mkHeap 0 as) = some (v, H) ∧ GoodRes acc H v r
def mkBlks (d j : Nat) : List (List Value) → Option Heap
 | [] => some []
 | cs :: r => match mapO (renS fun b => some (b + d)) cs, mkBlks d (j + 1) r with
   | some c, some l => some (.cells j true c :: l)
   | _, _ => none
/-- Calls by a table. -/
def tabC (spec : Nat → List Arg → Option Res) : CallF := fun fv args H =>
 match fv with
 | .func (.func f) first captured =>
   if first.isEmpty && captured.isEmpty then
    match mapO (readArg H) args with
    | some as => match spec f as with
      | some (v, bs) => match renV (fun b => some (b + H.length)) v, mkBlks H.length H.length bs with
        | some v, some l => some (v, H ++ l)
        | _, _ => none
      | none => none
    | none => none
   else none
 | _ => none
section
variable {acc : List Nat} {ma mb : Mp} (hr : ∀ b j l, acc[j]? = some b → ma b = some l → mb j = some l)
include hr
theorem MS.sound {v u w : Value} (h : MS acc v u) (hv : SR ma v w) : SR mb u w := by
 rcases h with ⟨hi, rfl⟩ | ⟨b, j, o, n, e, rfl, rfl, hb⟩
 ·unfold immOk at hi
  split at hi
  ·cases hv; exact .bool _
  ·cases hv; exact .int _ _
  ·cases hv; exact .string _
  ·cases hv; exact .sliceNil
  ·cases hv; exact .lost _ _ _ _
  ·cases hi
 ·cases hv with
  | slice b o n e c l hl h1 h2 => exact .slice j o n e c l (hr _ _ _ hb hl) h1 h2
omit hr in
theorem All2.comp {R S : Value → Value → Prop} {M : Value → Value → Prop} (hf : ∀ v u w, M v u → R v w → S u w) : ∀ {l l2 l' : List Value}, All2 M l l2 → All2 R l l' → All2 S l2 l' := by
 intro l l2 l' h
 induction h generalizing l' with
 | nil => intro hl; cases hl; exact .nil
 | cons h t ih => intro hl; cases hl with | cons hx ht => exact .cons (hf _ _ _ h hx) (ih ht)
theorem MA.sound {v u w : Value} (h : MA acc v u) (hv : AR ma v w) : AR mb u w := by
 rcases h with ⟨cs, ds, rfl, rfl, h⟩ | h
 ·cases hv with
  | s h => cases h
  | agg h2 => exact .agg (h.comp (R := SR ma) (S := SR mb) (fun v u w h1 h2 => MS.sound hr h1 h2) h2)
 ·cases hv with
  | s hv => exact .s (MS.sound hr h hv)
  | agg hv =>
    rcases h with ⟨hi, _⟩ | ⟨b, j, o, n, e, h, _, _⟩
    ·simp [immOk] at hi
    ·cases h
theorem MV.sound {v u w : Value} (h : MV acc v u) (hv : VR ma v w) : VR mb u w := by
 rcases h with ⟨cs, ds, rfl, rfl, h⟩ | h
 ·cases hv with
  | a h => cases h with | s h => cases h
  | tuple h2 => exact .tuple (h.comp (R := AR ma) (S := AR mb) (fun v u w h1 h2 => MA.sound hr h1 h2) h2)
 ·cases hv with
  | a hv => exact .a (MA.sound hr h hv)
  | tuple hv =>
    rcases h with ⟨cs, ds, h, _, _⟩ | ⟨hi, _⟩ | ⟨b, j, o, n, e, h, _, _⟩
    ·cases h
    ·simp [immOk] at hi
    ·cases h
end
theorem mkBlks_get {d : Nat} : ∀ {bs : List (List Value)} {j : Nat} {l : Heap}, mkBlks d j bs = some l → l.length = bs.length ∧ ∀ (i : Nat) (x : Blk), l[i]? = some x → ∃ cs c, bs[i]? = some cs ∧ mapO (renS fun b => some (b + d)) cs = some c ∧ x = .cells (j + i) true c := by
 intro bs
 induction bs with
 | nil => intro j l h; cases h; exact ⟨rfl, fun i x h => by simp at h⟩
 | cons cs bs ih =>
   intro j l h
   unfold mkBlks at h
   split at h
   case h_2 => cases h
   rename_i c l2 h1 h2
   cases h
   obtain ⟨e1, e2⟩ := ih h2
   refine ⟨by simp [e1], fun i x hx => ?_⟩
   cases i with
   | zero => simp at hx; subst hx; exact ⟨cs, c, rfl, h1, rfl⟩
   | succ i =>
     obtain ⟨cs2, c2, z1, z2, z3⟩ := e2 i x (by simpa using hx)
     exact ⟨cs2, c2, by simpa using z1, z2, by rw [z3]; congr 1; omega⟩
theorem mapO_get {f : Value → Option Value} : ∀ {l l2 : List Value}, mapO f l = some l2 → l2.length = l.length ∧ ∀ (i : Nat) (y : Value), l2[i]? = some y → ∃ x, l[i]? = some x ∧ f x = some y := by
 intro l
 induction l with
 | nil => intro l2 h; cases h; exact ⟨rfl, fun i y h => by simp at h⟩
 | cons x xs ih =>
   intro l2 h
   unfold mapO at h
   split at h
   case h_2 => cases h
   rename_i y ys h1 h2
   cases h
   obtain ⟨e1, e2⟩ := ih h2
   refine ⟨by simp [e1], fun i z hz => ?_⟩
   cases i with
   | zero => simp at hz; subst hz; exact ⟨x, rfl, h1⟩
   | succ i => simpa using e2 i z (by simpa using hz)
section
variable {P : Program}
theorem tabC_grow (spec : Nat → List Arg → Option Res) : CallGrow (tabC spec) := by
 intro fv args H v H' h
 unfold tabC at h
 split at h
 case h_2 => cases h
 split at h
 case isFalse => cases h
 split at h
 case h_2 => cases h
 split at h
 case h_2 => cases h
 split at h
 case h_2 => cases h
 cases h
 simp
theorem tabC_ok {spec : Nat → List Arg → Option Res} (hs : ∀ f as r, spec f as = some r → LineOK P f as r) : CallOK P (tabC spec) := by
 intro fv args H v H' h m w fv' args' hR hfv hargs
 unfold tabC at h
 split at h
 case h_2 => cases h
 rename_i f first captured
 split at h
 case isFalse => cases h
 rename_i hemp
 simp only [Bool.and_eq_true, Array.isEmpty_iff] at hemp
 obtain ⟨rfl, rfl⟩ := hemp
 split at h
 case h_2 => cases h
 rename_i as has
 split at h
 case h_2 => cases h
 rename_i v0 bs hspec
 split at h
 case h_2 => cases h
 rename_i v1 l hv1 hl
 injection h with h; injection h with e1 e2; subst e1; subst e2
 have hfv2 : fv' = .func (.func f) #[] #[] := by
  cases hfv with
  | a h => cases h with
    | s h => cases h with
      | func f cap cap' hc =>
        cases cap' with | mk cap' =>
        cases hc with | nil => rfl
 subst hfv2
 obtain ⟨locs, la, lb, lc⟩ := args_rel hR 0 has hargs
 obtain ⟨call, v2, Hs', acc, hcall, hr2, good⟩ := hs _ _ _ hspec
 -- the small heap in the world
 let ms : Mp := fun b => locs[b]?
 have hms : All2 (VR ms) (mkVals 0 as) args'.toList := lc ms fun i hi => by simp [ms]
 have hnone : ∀ g, ¬ Owned ms (mkHeap 0 as) g := by
  rintro g ⟨b, x, l, h1, h2, h3, _⟩
  have := (lb b x l h1 h2).1
  rw [this] at h3; cases h3
 have hRs : Rel ms (mkHeap 0 as) w := {
  len := fun b l hb => by have := lt_of_get hb; omega
  has := fun b x hx _ => by
   have := lt_of_get hx
   exact ⟨locs[b]'(by omega), List.getElem?_eq_getElem _⟩
  bnd := fun b l hb => by
   have := lt_of_get hb
   exact (lb b _ l (List.getElem?_eq_getElem (by omega)) hb).2.1
  blk := fun b x l hx hb => (lb b x l hx hb).2.2 ms
  sep := fun b c x y l k _ hx hy hb hc ho => by have := (lb b x l hx hb).1; rw [this] at ho; cases ho }
 obtain ⟨nx, sf, m', w', v', r1, r2, r3, r4, r5⟩ := hcall _ _ _ _ _ hr2 ms w (.func (.func f) #[] #[]) args' hRs (.a (.s (.func f _ _ .nil))) hms
 -- the new blocks' places
 let m1 : Mp := fun j => (acc[j]?).bind m'
 let m2 : Mp := fun b => if b < H.length then m b else m1 (b - H.length)
 have c1 : ∀ b b' l, acc[b']? = some b → m' b = some l → m1 b' = some l := fun b b' l h1 h2 => by simp [m1, h1, h2]
 have c2 : ∀ b b' l, (fun b => some (b + H.length)) b = some b' → m1 b = some l → m2 b' = some l := fun b b' l h1 h2 => by
  have h1 : b + H.length = b' := Option.some.inj h1
  subst h1
  show (if b + H.length < H.length then m (b + H.length) else m1 (b + H.length - H.length)) = some l
  rw [if_neg (by omega), Nat.add_sub_cancel]
  exact h2
 have hval : VR m2 v1 v' := renV_sound c2 hv1 (good.val.sound c1 r4)
 obtain ⟨ll, lg⟩ := mkBlks_get hl
 have hmold : ∀ b, b < H.length → m2 b = m b := fun b hb => by simp [m2, hb]
 have hext : Ext m m2 := fun b l hb => by rw [hmold b (hR.len b l hb)]; exact hb
 -- a new block
 have new : ∀ (b : Nat) x k, H.length ≤ b → (H ++ l)[b]? = some x → m2 b = some k → ∃ b0 fam cs c c2 j, b = H.length + j ∧ acc[j]? = some b0 ∧ Hs'[b0]? = some (.cells fam true cs) ∧ m' b0 = some k ∧ All2 (MS acc) cs c ∧ mapO (renS fun b => some (b + H.length)) c = some c2 ∧ x = .cells (H.length + j) true c2 := by
  intro b x k hb hx hk
  obtain ⟨j, rfl⟩ : ∃ j, b = H.length + j := ⟨b - H.length, by omega⟩
  rw [List.getElem?_append_right (by omega)] at hx
  have hx : l[j]? = some x := by simpa using hx
  obtain ⟨cs2, c2', z1, z2, z3⟩ := lg j x hx
  have hk2 : m1 j = some k := by
   have e : m2 (H.length + j) = m1 j := by
    show (if H.length + j < H.length then m (H.length + j) else m1 (H.length + j - H.length)) = _
    rw [if_neg (by omega), Nat.add_sub_cancel_left]
   rw [← e]; exact hk
  cases ha : acc[j]? with
  | none => simp [m1, ha] at hk2
  | some b0 =>
    obtain ⟨fam, cs, c, y1, y3, y2⟩ := good.blk j b0 ha
    have hk3 : m' b0 = some k := by simpa [m1, ha] using hk2
    have z1 : bs[j]? = some cs2 := z1
    rw [show (v0, bs).2 = bs from rfl] at y3
    rw [y3] at z1
    cases z1
    exact ⟨b0, fam, cs, _, c2', j, rfl, ha, y1, hk3, y2, z2, z3⟩
 have old : ∀ (b : Nat) x, b < H.length → (H ++ l)[b]? = some x → H[b]? = some x := fun b x hb hx => by rwa [List.getElem?_append_left hb] at hx
 have fresh : ∀ b0 x k, Hs'[b0]? = some x → m' b0 = some k → x.owned = true → w.heap.size ≤ k.g := fun b0 x k h1 h2 h3 => by
  rcases r3.fresh k.g ⟨b0, x, k, h1, h2, h3, rfl⟩ with h | h
  ·exact absurd h (hnone _)
  ·exact h
 have same : ∀ g, g < w.heap.size → w'.heap[g]? = w.heap[g]? := fun g hg => r3.keep.block g hg (hnone g)
 refine ⟨nx, sf, m2, w', v', r1, r2, ⟨hext, ?_, ?_, ?_, by simp, ?_⟩, hval, r5⟩
 ·constructor
  ·intro b k hb
   by_cases hlt : b < H.length
   ·simp; omega
   ·simp only [m2, if_neg hlt] at hb
    cases ha : acc[b - H.length]? with
    | none => simp [m1, ha] at hb
    | some b0 =>
      have := lt_of_get ha
      have hgl := good.len
      simp [ll]
      simp at hgl
      omega
  ·intro b x hx hlive
   by_cases hlt : b < H.length
   ·obtain ⟨k, hk⟩ := hR.has b x (old b x hlt hx) hlive
    exact ⟨k, by rw [hmold b hlt]; exact hk⟩
   ·have hb := lt_of_get hx
    simp [ll] at hb
    have hgl := good.len
    simp at hgl
    have hj : b - H.length < acc.length := by omega
    obtain ⟨fam, cs, c, y1, y2, y3⟩ := good.blk (b - H.length) _ (List.getElem?_eq_getElem hj)
    obtain ⟨k, hk⟩ := r3.rel.has _ _ y1 rfl
    exact ⟨k, by simp [m2, hlt, m1, List.getElem?_eq_getElem hj, hk]⟩
  ·intro b k hb
   by_cases hlt : b < H.length
   ·rw [hmold b hlt] at hb
    exact Nat.lt_of_lt_of_le (hR.bnd b k hb) r3.keep.size
   ·simp only [m2, if_neg hlt, m1] at hb
    cases ha : acc[b - H.length]? with
    | none => simp [ha] at hb
    | some b0 => rw [ha] at hb; exact r3.rel.bnd b0 k hb
  ·intro b x k hx hk
   by_cases hlt : b < H.length
   ·rw [hmold b hlt] at hk
    exact (hR.blk b x k (old b x hlt hx) hk).keep hext fun _ => same _ (hR.bnd b k hk)
   ·obtain ⟨b0, fam, cs, c, c2', j, rfl, z1, z2, z3, z4, z5, rfl⟩ := new b x k (by omega) hx hk
    obtain ⟨C, el, fr, q1, q2, q3, q4⟩ := r3.rel.blk b0 _ k z2 z3
    refine ⟨C, el, fr, q1, q2, q3, fun i y hy => ?_⟩
    obtain ⟨y1, e1, e2⟩ := (mapO_get z5).2 i y hy
    obtain ⟨y2, e3, e4⟩ := z4.getR i y1 e1
    obtain ⟨y3, e5, e6⟩ := q4 i y2 e3
    exact ⟨y3, e5, renS_sound c2 e2 (e4.sound c1 e6)⟩
  ·intro b c x y kb kc hne hx hy hb hc hox hly hg
   by_cases h1 : b < H.length
   ·by_cases h2 : c < H.length
    ·rw [hmold b h1] at hb; rw [hmold c h2] at hc
     exact hR.sep b c x y kb kc hne (old b x h1 hx) (old c y h2 hy) hb hc hox hly hg
    ·obtain ⟨c0, fam, cs, c1', c2', j, rfl, z1, z2, z3, _⟩ := new c y kc (by omega) hy hc
     rw [hmold b h1] at hb
     have e1 := hR.bnd b kb hb
     have e2 := fresh _ _ _ z2 z3 rfl
     omega
   ·obtain ⟨b0, fam, cs, c1', c2', j, rfl, z1, z2, z3, z4, z5, z6⟩ := new b x kb (by omega) hx hb
    by_cases h2 : c < H.length
    ·rw [hmold c h2] at hc
     have e1 := hR.bnd c kc hc
     have e2 := fresh _ _ _ z2 z3 rfl
     omega
    ·obtain ⟨c0, fam', cs', d1, d2, j', rfl, y1, y2, y3, y4, y5, y6⟩ := new c y kc (by omega) hy hc
     have hfam : fam ≠ fam' := fun e => by subst e; exact good.fam j j' _ _ _ _ _ (by omega) z1 y1 z2 y2
     have hbc : b0 ≠ c0 := fun e => by
      subst e
      rw [z2] at y2
      injection y2 with y2
      injection y2 with y2
      exact hfam y2
     have := r3.rel.sep b0 c0 _ _ kb kc hbc z2 y2 z3 y3 rfl rfl hg
     exact absurd this.1 hfam
 ·exact ⟨r3.keep.os, r3.keep.tape, r3.keep.output, r3.keep.size, fun g hg _ => same g hg⟩
 ·rintro g ⟨b, x, k, h1, h2, h3, h4⟩
  by_cases hlt : b < H.length
  ·rw [hmold b hlt] at h2
   exact .inl ⟨b, x, k, old b x hlt h1, h2, h3, h4⟩
  ·obtain ⟨b0, fam, cs, c, c2', j, rfl, z1, z2, z3, _⟩ := new b x k (by omega) h1 h2
   have := fresh _ _ _ z2 z3 rfl
   exact .inr (by omega)
 ·intro b k hb
  by_cases hlt : b < H.length
  ·rw [hmold b hlt] at hb
   exact .inl ⟨b, k, hb, rfl⟩
  ·simp only [m2, if_neg hlt, m1] at hb
   cases ha : acc[b - H.length]? with
   | none => simp [ha] at hb
   | some b0 =>
     rw [ha] at hb
     obtain ⟨fam, cs, c, y1, _⟩ := good.blk _ b0 ha
     exact .inr (fresh _ _ _ y1 hb rfl)
end
end Go.Abs
/- Equality of answers and arguments; sound tables. -/
namespace Go.Abs
def aEq2 : Value → Value → Bool
 | .agg a, .agg b => listEq a.toList b.toList
 | a, b => sEq a b
def aEqs : List Value → List Value → Bool
 | [], [] => true
 | a :: l, b :: m => aEq2 a b && aEqs l m
 | _, _ => false
def vEq2 : Value → Value → Bool
 | .tuple a, .tuple b => aEqs a.toList b.toList
 | a, b => aEq2 a b
def lEq : List (List Value) → List (List Value) → Bool
 | [], [] => true
 | a :: l, b :: m => aEqs a b && lEq l m
 | _, _ => false
def rEq (a b : Res) : Bool := vEq2 a.1 b.1 && lEq a.2 b.2
theorem aEq2_sound {a b : Value} (h : aEq2 a b = true) : a = b := by
 unfold aEq2 at h
 split at h
 ·rename_i x y
  have := listEq_sound h
  cases x; cases y; simp at this; rw [this]
 ·exact sEq_sound h
theorem aEqs_sound : ∀ {l m : List Value}, aEqs l m = true → l = m := by
 intro l
 induction l with
 | nil => intro m h; cases m with | nil => rfl | cons _ _ => simp [aEqs] at h
 | cons x l ih =>
   intro m h
   cases m with
   | nil => simp [aEqs] at h
   | cons y m => simp only [aEqs, Bool.and_eq_true] at h; rw [aEq2_sound h.1, ih h.2]
theorem vEq2_sound {a b : Value} (h : vEq2 a b = true) : a = b := by
 unfold vEq2 at h
 split at h
 ·rename_i x y
  have := aEqs_sound h
  cases x; cases y; simp at this; rw [this]
 ·exact aEq2_sound h
theorem lEq_sound : ∀ {l m : List (List Value)}, lEq l m = true → l = m := by
 intro l
 induction l with
 | nil => intro m h; cases m with | nil => rfl | cons _ _ => simp [lEq] at h
 | cons x l ih =>
   intro m h
   cases m with
   | nil => simp [lEq] at h
   | cons y m => simp only [lEq, Bool.and_eq_true] at h; rw [aEqs_sound h.1, ih h.2]
theorem rEq_sound {a b : Res} (h : rEq a b = true) : a = b := by
 unfold rEq at h
 simp only [Bool.and_eq_true] at h
 cases a; cases b
 simp only at h
 rw [vEq2_sound h.1, lEq_sound h.2]
def argEq : Arg → Arg → Bool
 | .imm a, .imm b => sEq a b
 | .li a, .li b => listEq a b
 | _, _ => false
theorem argEq_sound {a b : Arg} (h : argEq a b = true) : a = b := by
 unfold argEq at h
 split at h
 ·rw [sEq_sound h]
 ·rw [listEq_sound h]
 ·cases h
def argsEq : List Arg → List Arg → Bool
 | [], [] => true
 | a :: l, b :: m => argEq a b && argsEq l m
 | _, _ => false
theorem argsEq_sound : ∀ {l m : List Arg}, argsEq l m = true → l = m := by
 intro l
 induction l with
 | nil => intro m h; cases m with | nil => rfl | cons _ _ => simp [argsEq] at h
 | cons x l ih =>
   intro m h
   cases m with
   | nil => simp [argsEq] at h
   | cons y m => simp only [argsEq, Bool.and_eq_true] at h; rw [argEq_sound h.1, ih h.2]
/-- A table's lines are all sound. -/
def TabOK (P : Program) (spec : Nat → List Arg → Option Res) : Prop := ∀ f as r, spec f as = some r → LineOK P f as r
end Go.Abs
/- The top of a law: from the evaluator's answer to the model's call. -/
namespace Go.Abs
section
variable {P : Program}
/-- A function's run by the evaluator, over a heap that the world bears, is a call of the model. -/
theorem body_calls (hmix : P.follows .mixedOrders = true) {call : CallF} (hcall : CallOK P call) (hg : CallGrow call) {n f : Nat} {args : List Value} {H H' : Heap} {v : Value} (h : evBody P call n (.func (.func f) #[] #[]) args H = some (v, H'))
  {m : Mp} {w : World} {args' : Array Value} (hR : Rel m H w) (hargs : All2 (VR m) args args'.toList) :
  ∃ m' w' v', Sim m H w m' H' w' ∧ VR m' v v' ∧ Calls P f args' w fun e w2 => e = .returned v' ∧ w2 = w' := by
 have hd := fun nt => drawOK hmix hcall hg nt
 unfold evBody at h
 simp only at h
 split at h
 case h_2 => cases h
 rename_i fn hfn
 split at h
 case h_2 => cases h
 rename_i c hbody
 split at h
 case isFalse => cases h
 rename_i hcond
 obtain ⟨hok, _, hle⟩ := hcond
 simp only [List.append_nil] at h hle
 have fin : ∀ (x : X) (a : Fr) (H1 : Heap), (x = .normal ∨ x = .ret) → evCode P call n fn.ntmps none c (frOf args) H = some (x, a, H1) → (resList P a H1 fn.results.toList).map (fun vs => (pack vs, H1)) = some (v, H') →
   ∃ m' w' v', Sim m H w m' H' w' ∧ VR m' v v' ∧ Calls P f args' w fun e w2 => e = .returned v' ∧ w2 = w' := by
  intro x a H1 hx hev hr
  cases hres : resList P a H1 fn.results.toList with
  | none => rw [hres] at hr; cases hr
  | some rs =>
    rw [hres] at hr
    cases hr
    have := func_sim hcall hd hfn hbody hok hle hx hev hres hR hargs
    simpa using this
 split at h
 ·rename_i a H1 hev; exact fin _ a H1 (.inl rfl) hev h
 ·rename_i a H1 hev; exact fin _ a H1 (.inr rfl) hev h
 ·cases h
theorem rel_nil (w : World) : Rel (fun _ => none) [] w where
 len := fun b l h => by cases h
 has := fun b x h => by simp at h
 bnd := fun b l h => by cases h
 blk := fun b x l h => by simp at h
 sep := fun b c x y l k _ h => by simp at h
open Go.RowKit in
/-- A law of numbers alone. -/
theorem law_nil (hmix : P.follows .mixedOrders = true) {call : CallF} (hcall : CallOK P call) (hg : CallGrow call) {n f : Nat} {args : List Value} {H' : Heap} (h : evBody P call n (.func (.func f) #[] #[]) args [] = some (.bool true, H'))
  (hp : ∀ v ∈ args, plain v = true) (w : World) : Calls P f ⟨args⟩ w fun e w' => e = .returned (.bool true) ∧ Below w.heap.size w w' := by
 have hargs : All2 (VR fun _ => none) args (⟨args⟩ : Array Value).toList := by
  have := All2.map_same (R := VR fun _ => none) (f := id) (g := id) args (fun x hx => VR.of_plain _ (hp x hx))
  simpa using this
 obtain ⟨m', w', v', s1, s2, s3⟩ := body_calls hmix hcall hg h (rel_nil w) hargs
 obtain rfl := s2.plain rfl
 have hno : ∀ g, ¬ Owned (fun _ => none) [] g := by
  rintro g ⟨b, x, l, hx, _⟩
  simp at hx
 have hB : Below w.heap.size w w' := ⟨s1.keep.os, s1.keep.tape, s1.keep.output, s1.keep.size, fun k hk => s1.keep.block k hk (hno k)⟩
 refine fun cs => ?_
 obtain ⟨e, w2, fr, ⟨rfl, rfl⟩, h2⟩ := s3 cs
 exact ⟨_, _, fr, ⟨rfl, hB⟩, h2⟩
end
end Go.Abs
/- Blocks that the caller gave stand: so calls may be answered by their place alone. -/
namespace Go.Abs
/-- The blocks of G stand in H; what may be written is of other families. -/
structure Sta (G H : Heap) : Prop where
 len : G.length ≤ H.length
 old : ∀ b : Nat, b < G.length → H[b]? = G[b]?
 fam : ∀ (b f : Nat) (cs : List Value), H[b]? = some (.cells f true cs) → G.length ≤ f
 cel : ∀ (b : Nat) (x : Blk), G[b]? = some x → ∃ f cs, x = .cells f false cs ∧ f < G.length
def Agr (G : Heap) (c2 c1 : CallF) : Prop := ∀ fv args H v H', Sta G H → c2 fv args H = some (v, H') → c1 fv args H = some (v, H') ∧ Sta G H'
section
variable {P : Program} {c1 c2 : CallF} {a : Fr} {G H : Heap}
theorem Sta.map (h : Sta G H) {fam k : Nat} (hf : G.length ≤ fam) : Sta G (H.map (truncFam fam k)) := by
 refine ⟨by simpa using h.len, fun b hb => ?_, fun b f cs hb => ?_, h.cel⟩
 ·rw [List.getElem?_map, h.old b hb]
  cases hx : G[b]? with
  | none => rfl
  | some x =>
    obtain ⟨f, cs, rfl, hlt⟩ := h.cel b x hx
    simp only [Option.map_some, truncFam]
    rw [if_neg (by omega)]
 ·rw [List.getElem?_map] at hb
  cases hx : H[b]? with
  | none => rw [hx] at hb; cases hb
  | some x =>
    rw [hx] at hb
    simp only [Option.map_some, Option.some.injEq] at hb
    cases x with
    | cells g own ds =>
      simp only [truncFam] at hb
      split at hb <;> (injection hb with e1 e2 e3; subst e1; subst e2; exact h.fam b _ _ hx)
    | _ => cases hb
theorem Sta.push (h : Sta G H) {x : Blk} (hx : ∀ f cs, x = .cells f true cs → G.length ≤ f) : Sta G (H ++ [x]) := by
 have hl := h.len
 refine ⟨by simp; omega, fun b hb => ?_, fun b f cs hb => ?_, h.cel⟩
 ·rw [List.getElem?_append_left (by omega)]; exact h.old b hb
 ·by_cases hlt : b < H.length
  ·rw [List.getElem?_append_left hlt] at hb; exact h.fam b f cs hb
  ·rw [List.getElem?_append_right (by omega)] at hb
   have h0 := lt_of_get hb
   simp at h0
   have : b - H.length = 0 := by omega
   rw [this] at hb
   simp at hb
   exact hx f cs hb
theorem Sta.notold (h : Sta G H) {i : Nat} {y : Blk} (hi : H[i]? = some y) (hy : ∀ f cs, y ≠ .cells f false cs) : G.length ≤ i := by
 apply Nat.le_of_not_lt
 intro hlt
 have e := h.old i hlt
 rw [hi] at e
 obtain ⟨f, cs, rfl, _⟩ := h.cel i y e.symm
 exact hy f cs rfl
theorem Sta.set (h : Sta G H) {i : Nat} {x : Blk} (hi : G.length ≤ i) (hx : ∀ f cs, x = .cells f true cs → G.length ≤ f) : Sta G (H.set i x) := by
 refine ⟨by simpa using h.len, fun b hb => ?_, fun b f cs hb => ?_, h.cel⟩
 ·rw [List.getElem?_set, if_neg (by omega)]; exact h.old b hb
 ·rw [List.getElem?_set] at hb
  split at hb
  ·split at hb
   ·injection hb with hb; exact hx f cs hb
   ·cases hb
  ·exact h.fam b f cs hb
theorem Sta.write (h : Sta G H) {b o : Nat} {vs : List Value} {H' : Heap} (hw : H.write b o vs = some H') : Sta G H' := by
 unfold Heap.write at hw
 split at hw
 ·rename_i fam cs hb
  split at hw
  ·injection hw with hw; subst hw
   have hf := h.fam b fam cs hb
   exact (h.map hf).set (h.notold hb (fun f cs e => by cases e)) (fun f ds e => by injection e with e1; omega)
  ·cases hw
 ·cases hw
theorem aexec_sta (hS : Sta G H) {o : Oper} {v : Value} {H' : Heap} (h : aexec P a o H = some (v, H')) : Sta G H' := by
 have hnew : ∀ cs, Sta G (H ++ [.cells H.length true cs]) := fun cs => hS.push fun f ds e => by injection e with e1; have := hS.len; omega
 cases hc : cls o.op with
 | pure_ => obtain ⟨rfl, _⟩ := aexec_pure hc h; exact hS
 | read => have := read_same hc h; subst this; exact hS
 | all_ =>
   obtain ⟨dst, op, type, pos, after, guard⟩ := o
   cases op <;> first | (simp [cls] at hc; done) | skip
   case alloc t =>
    simp only [aexec] at h
    split at h
    ·split at h
     ·injection h with h; injection h with h1 h2; subst h2; exact hnew _
     ·cases h
    ·cases h
   case box t x =>
    simp only [aexec] at h
    split at h
    ·injection h with h; injection h with h1 h2; subst h2; exact hnew _
    ·cases h
   case buildSlice t len parts =>
    simp only [aexec, buildSliceA] at h
    split at h
    ·split at h
     ·split at h
      ·split at h
       ·injection h with h; injection h with h1 h2; subst h2; exact hnew _
       ·cases h
      ·cases h
     ·cases h
    ·cases h
   case makeMap t r =>
    simp only [aexec] at h
    split at h
    ·split at h
     ·injection h with h; injection h with h1 h2; subst h2; exact hS.push fun f ds e => by cases e
     ·cases h
    ·cases h
   case makeSlice t l c =>
    simp only [aexec] at h
    split at h
    ·split at h
     ·split at h
      ·injection h with h; injection h with h1 h2; subst h2; exact hnew _
      ·cases h
     ·cases h
    ·cases h
   case call c =>
    exfalso
    obtain ⟨callee, args, ts⟩ := c
    cases callee
    case builtin bi => cases bi <;> simp [cls] at hc
    all_goals simp [cls] at hc
 | eff =>
   obtain ⟨dst, op, type, pos, after, guard⟩ := o
   cases op <;> first | (simp [cls] at hc; done) | skip
   case store t x y =>
    simp only [aexec] at h
    cases hb : storeA P t (ev a x) (ev a y) H with
    | none => rw [hb] at h; cases h
    | some H1 =>
      rw [hb] at h
      simp only [Option.map_some] at h
      injection h with h; injection h with h1 h2; subst h2
      unfold storeA at hb
      split at hb
      ·split at hb
       ·exact hS.write hb
       ·cases hb
      ·cases hb
   case mapUpdate t x k v =>
    simp only [aexec] at h
    cases hb : mapUpdateA P t (ev a x) (ev a k) (ev a v) H with
    | none => rw [hb] at h; cases h
    | some H1 =>
      rw [hb] at h
      simp only [Option.map_some] at h
      injection h with h; injection h with h1 h2; subst h2
      unfold mapUpdateA at hb
      split at hb
      ·split at hb
       ·split at hb
        ·rename_i hr
         split at hb
         ·injection hb with hb; subst hb
          exact hS.set (hS.notold hr (fun f cs e => by cases e)) (fun f ds e => by cases e)
         ·cases hb
        ·cases hb
       ·cases hb
      ·cases hb
   case call c =>
    obtain ⟨callee, args, ts⟩ := c
    cases callee
    case builtin bi =>
     simp only [aexec] at h
     unfold builtinA at h
     split at h
     ·obtain ⟨_, h2⟩ := map_pair h; subst h2; exact hS
     ·split at h
      ·unfold appendA at h
       split at h
       ·split at h
        ·split at h
         ·split at h
          ·split at h
           ·injection h with h; injection h with h1 h2; subst h2; exact hS
           ·cases h
          ·split at h
           ·split at h
            ·injection h with h; injection h with h1 h2; subst h2; exact hnew _
            ·cases h
           ·split at h
            ·rename_i hb
             split at h
             ·injection h with h; injection h with h1 h2; subst h2
              have hf := hS.fam _ _ _ hb
              exact (hS.map hf).push fun f ds e => by injection e with e1; omega
             ·cases h
            ·cases h
           ·cases h
         ·cases h
        ·cases h
       ·cases h
      ·unfold appendIntA at h
       split at h
       ·split at h
        ·split at h
         ·injection h with h; injection h with h1 h2; subst h2; exact hnew _
         ·cases h
        ·cases h
       ·cases h
     ·unfold copyA at h
      split at h
      ·split at h
       ·injection h with h; injection h with h1 h2; subst h2; exact hS
       ·split at h
        ·split at h
         ·rename_i hw
          injection h with h; injection h with h1 h2; subst h2
          exact hS.write hw
         ·cases h
        ·cases h
      ·cases h
     ·rename_i t _ _
      cases he : sliceElem P t with
      | none => rw [he] at h; cases h
      | some es => rw [he] at h; simp only [Option.map_some] at h; injection h with h; injection h with h1 h2; subst h2; exact hS
     ·obtain ⟨_, h2⟩ := map_pair h; subst h2; exact hS
     ·obtain ⟨_, h2⟩ := map_pair h; subst h2; exact hS
     ·cases h
    all_goals (simp only [aexec] at h; cases h)
variable (hg : Agr G c2 c1)
include hg
theorem stepA_agr (hS : Sta G H) {o : Oper} {v : Value} {H' : Heap} (h : stepA P c2 a o H = some (v, H')) : stepA P c1 a o H = some (v, H') ∧ Sta G H' := by
 unfold stepA at h ⊢
 split at h
 ·exact hg _ _ _ _ _ hS h
 ·rename_i hx
  exact ⟨h, aexec_sta hS h⟩
theorem evOps_agr {ops : Array Oper} : ∀ {l : List Oper} {a a' : Fr} {H H' : Heap}, Sta G H → evOps P c2 ops l a H = some (a', H') → evOps P c1 ops l a H = some (a', H') ∧ Sta G H' := by
 intro l
 induction l with
 | nil => intro a a' H H' hS h; simp only [evOps] at h ⊢; injection h with h; injection h with h1 h2; subst h1; subst h2; exact ⟨rfl, hS⟩
 | cons o l ih =>
   intro a a' H H' hS h
   simp only [evOps] at h ⊢
   split at h
   ·rename_i hw
    rw [if_pos hw]
    split at h
    ·rename_i hs
     obtain ⟨e, hS'⟩ := stepA_agr hg hS hs
     rw [e]; exact ih hS' h
    ·cases h
   ·rename_i hw
    rw [if_neg hw]; exact ih hS h
theorem evDraw_agr {ops : Array Oper} {bef : Array Nat} : ∀ {l : List Nat} {a a' : Fr} {H H' : Heap} {st : List (Option Nat × Heap)} {pd : Pend}, Sta G H → evDraw P c2 ops bef l a H st pd = some (a', H') → evDraw P c1 ops bef l a H st pd = some (a', H') ∧ Sta G H' := by
 intro l
 induction l with
 | nil => intro a a' H H' st pd hS h; simp only [evDraw] at h ⊢; injection h with h; injection h with h1 h2; subst h1; subst h2; exact ⟨rfl, hS⟩
 | cons j l ih =>
   intro a a' H H' st pd hS h
   simp only [evDraw] at h ⊢
   split at h
   ·cases h
   ·rename_i o ho
    split at h
    ·rename_i hw
     simp only [if_pos hw]
     split at h
     ·rename_i hcl
      split at h
      ·rename_i hs
       obtain ⟨e, hS'⟩ := stepA_agr hg hS hs
       split at h
       ·rename_i hp
        obtain ⟨e2, hS2⟩ := ih hS' h
        simp only [e, if_pos hp]
        exact ⟨e2, hS2⟩
       ·cases h
      ·cases h
     ·rename_i hcl
      split at h
      ·rename_i hs
       obtain ⟨e2, hS2⟩ := ih (aexec_sta hS hs) h
       exact ⟨e2, hS2⟩
      ·cases h
     ·rename_i hcl
      split at h
      ·rename_i hs
       split at h
       ·rename_i hp
        obtain ⟨e2, hS2⟩ := ih hS h
        simp only [if_pos hp]
        exact ⟨e2, hS2⟩
       ·cases h
      ·cases h
     ·rename_i hcl
      split at h
      ·rename_i hs
       obtain ⟨e2, hS2⟩ := ih hS h
       exact ⟨e2, hS2⟩
      ·cases h
    ·rename_i hw
     simp only [if_neg hw]
     exact ih hS h
omit hg in
theorem loopN_agr {f g : Fr → Heap → Option (X × Fr × Heap)} (hf : ∀ a H x a' H', Sta G H → f a H = some (x, a', H') → g a H = some (x, a', H') ∧ Sta G H') : ∀ n {a a' : Fr} {H H' : Heap} {x : X}, Sta G H → loopN f n a H = some (x, a', H') → loopN g n a H = some (x, a', H') ∧ Sta G H' := by
 intro n
 induction n with
 | zero => intro a a' H H' x _ h; simp [loopN] at h
 | succ n ih =>
   intro a a' H H' x hS h
   rw [loopN] at h ⊢
   split at h
   ·rename_i h1
    obtain ⟨e, hS'⟩ := hf _ _ _ _ _ hS h1
    rw [e]; exact ih hS' h
   ·rename_i hn
    obtain ⟨e, hS'⟩ := hf _ _ _ _ _ hS h
    rw [e]
    refine ⟨?_, hS'⟩
    cases x with
    | normal => exact absurd h (hn _ _)
    | _ => rfl
theorem evCode_agr {k nt : Nat} {rd : Option Nat} : ∀ {c : Code} {a a' : Fr} {H H' : Heap} {x : X}, Sta G H → evCode P c2 k nt rd c a H = some (x, a', H') → evCode P c1 k nt rd c a H = some (x, a', H') ∧ Sta G H' := by
 intro c
 induction c with
 | region id ops draw =>
   intro a a' H H' x hS h
   cases draw with
   | false =>
     simp only [evCode] at h ⊢
     split at h
     ·rename_i h1
      obtain ⟨e, hS'⟩ := evOps_agr hg hS h1
      injection h with h; injection h with h2 h3; injection h3 with h3 h4; subst h2; subst h3; subst h4
      rw [e]; exact ⟨rfl, hS'⟩
     ·cases h
   | true =>
     simp only [evCode] at h ⊢
     split at h
     ·rename_i h1
      obtain ⟨e, hS'⟩ := evDraw_agr hg hS h1
      injection h with h; injection h with h2 h3; injection h3 with h3 h4; subst h2; subst h3; subst h4
      rw [e]; exact ⟨rfl, hS'⟩
     ·cases h
 | seq c d ihc ihd =>
   intro a a' H H' x hS h
   simp only [evCode] at h ⊢
   split at h
   ·rename_i h1
    obtain ⟨e, hS'⟩ := ihc hS h1
    rw [e]; exact ihd hS' h
   ·rename_i hn
    obtain ⟨e, hS'⟩ := ihc hS h
    rw [e]
    refine ⟨?_, hS'⟩
    cases x with
    | normal => exact absurd h (hn _ _)
    | _ => rfl
 | cond c x y ihx ihy =>
   intro a a' H H' x hS h
   simp only [evCode] at h ⊢
   split at h
   ·exact ihx hS h
   ·exact ihy hS h
   ·cases h
 | block id c ih =>
   intro a a' H H' x hS h
   simp only [evCode] at h ⊢
   split at h
   ·rename_i h1
    obtain ⟨e, hS'⟩ := ih hS h1
    rw [e]
    split at h
    ·rename_i hi
     injection h with h; injection h with h2 h3; injection h3 with h3 h4; subst h2; subst h3; subst h4
     exact ⟨if_pos hi, hS'⟩
    ·rename_i hi
     injection h with h; injection h with h2 h3; injection h3 with h3 h4; subst h2; subst h3; subst h4
     exact ⟨if_neg hi, hS'⟩
   ·rename_i hn
    obtain ⟨e, hS'⟩ := ih hS h
    rw [e]
    refine ⟨?_, hS'⟩
    cases x with
    | exit i => exact absurd h (hn _ _ _)
    | _ => rfl
 | loop c ih =>
   intro a a' H H' x hS h
   simp only [evCode] at h ⊢
   exact loopN_agr (fun _ _ _ _ _ hS h => ih hS h) k hS h
 | rangeFunc f params assign body _ _ =>
   intro a a' H H' x hS h
   simp only [evCode] at h ⊢
   split at h
   ·rename_i hrd
    simp only [if_pos hrd]
    split at h
    ·rename_i hc
     obtain ⟨e, hS'⟩ := hg _ _ _ _ _ (hS.push (fun f cs e => by cases e)) hc
     rw [e]
     simp only
     split at h
     ·rename_i hl
      split at h
      ·cases h
      ·rename_i hst
       simp only [if_neg hst]
       split at h
       ·rename_i hj
        injection h with h; injection h with h2 h3; injection h3 with h3 h4; subst h2; subst h3; subst h4
        exact ⟨rfl, hS'.set hS.len (fun f cs e => by cases e)⟩
       ·cases h
     ·cases h
    ·cases h
   ·cases h
 | scope c _ => intro a a' H H' x _ h; simp [evCode] at h
 | goto l => intro a a' H H' x _ h; simp [evCode] at h
 | refuse s => intro a a' H H' x _ h; simp [evCode] at h
 | _ => intro a a' H H' x hS h; simp only [evCode] at h ⊢; injection h with h; injection h with h2 h3; injection h3 with h3 h4; subst h2; subst h3; subst h4; exact ⟨rfl, hS⟩
theorem body_agr (n : Nat) : Agr G (evBody P c2 n) (evBody P c1 n) := by
 intro fv args H v H' hS h
 have hres : ∀ {H1 : Heap} {o : Option (List Value)}, o.map (fun vs => (pack vs, H1)) = some (v, H') → H1 = H' := fun {H1 o} h => by
  cases o with
  | none => cases h
  | some vs => simp only [Option.map_some] at h; injection h with h; injection h with h1 h2
 unfold evBody at h ⊢
 split at h
 ·split at h
  case h_2 => cases h
  rename_i fn hfn
  split at h
  case h_2 => cases h
  rename_i c hb
  split at h
  case isFalse => cases h
  rename_i hcond
  simp only [if_pos hcond]
  split at h
  ·rename_i hev
   obtain ⟨e, hS'⟩ := evCode_agr hg hS hev
   have := hres h
   subst this
   rw [e]; exact ⟨h, hS'⟩
  ·rename_i hev
   obtain ⟨e, hS'⟩ := evCode_agr hg hS hev
   have := hres h
   subst this
   rw [e]; exact ⟨h, hS'⟩
  ·cases h
 ·split at h
  case h_2 => cases h
  rename_i hl
  split at h
  case isFalse => cases h
  rename_i hlen
  simp only [if_pos hlen]
  split at h
  case h_2 => cases h
  rename_i hev1
  obtain ⟨e1, hS1⟩ := evCode_agr hg hS hev1
  split at h
  case h_2 => cases h
  rename_i hl1
  split at h
  case h_2 => cases h
  rename_i hev2
  have hi := hS1.notold hl1 (fun f cs e => by cases e)
  obtain ⟨e2, hS2⟩ := evCode_agr hg (hS1.set hi (fun f cs e => by cases e)) hev2
  split at h
  case h_2 => cases h
  rename_i hl2
  injection h with h; injection h with h1 h2
  subst h1; subst h2
  simp only [e1, hl1, e2, hl2]
  exact ⟨trivial, hS2.set hi (fun f cs e => by cases e)⟩
 ·cases h
end
end Go.Abs
