/- Tables as trees of lines, keyed by their arguments' number. -/
import Derived.Test.YtmmgdgmjkhcfaaaFastR
namespace Go.Abs
abbrev Line := List Arg × Res
inductive LT where
  | e
  | n (c : Nat) (x : Line) (l r : LT)
noncomputable def LT.put (c : Nat) (x : Line) (t : LT) : Nat → LT :=
  LT.rec (motive := fun _ => Nat → LT) (fun _ => .n c x .e .e) (fun c' x' l r ihl ihr h => Bool.rec (Bool.rec (.n c' x' l (ihr (Nat.div h 2))) (.n c' x' (ihl (Nat.div h 2)) r) (Nat.beq (Nat.mod h 2) 0)) (.n c x l r) (Nat.beq c c')) t
noncomputable def LT.find (c : Nat) (t : LT) : Nat → Option Line :=
  LT.rec (motive := fun _ => Nat → Option Line) (fun _ => none) (fun c' x' _ _ ihl ihr h => Bool.rec (Bool.rec (ihr (Nat.div h 2)) (ihl (Nat.div h 2)) (Nat.beq (Nat.mod h 2) 0)) (some x') (Nat.beq c c')) t
/-- A number of arguments. -/
noncomputable def hInt (z : Int) (a : Nat) : Nat := Int.rec (fun n => Nat.add (Nat.mul a 4294967296) (Nat.add n n)) (fun n => Nat.add (Nat.mul a 4294967296) (Nat.add (Nat.add n n) 1)) z
noncomputable def hVal (v : Value) (a : Nat) : Nat := Value.rec (motive_1 := fun _ => Nat) (motive_2 := fun _ => Nat) (motive_3 := fun _ => Nat) (fun b => Bool.rec (Nat.mul a 3) (Nat.add (Nat.mul a 3) 1) b) (fun _ z => hInt z a) (fun _ _ => a) (fun _ _ _ => a) (fun _ => Nat.add a 5) (fun _ => a) (fun p _ _ => Option.rec (Nat.add (Nat.mul a 7) 1) (fun _ => Nat.add (Nat.mul a 7) 2) p) (fun _ => a) (fun _ => a) (fun _ _ _ _ _ => a) a (fun _ _ _ => a) a (fun _ _ => a) (fun _ _ => a) (fun _ _ => a) a (fun _ _ _ _ => a) v
noncomputable def hVals (l : List Value) (a : Nat) : Nat := List.rec (motive := fun _ => Nat → Nat) (fun a => Nat.add (Nat.mul a 16) 3) (fun v _ ih a => fN (hVal v a) ih) l a
noncomputable def hArgs (l : List Arg) (a : Nat) : Nat := List.rec (motive := fun _ => Nat → Nat) (fun a => a) (fun x _ ih a => Arg.rec (motive := fun _ => Nat) (fun v => fN (hVal v a) ih) (fun vs => fN (hVals vs a) ih) x) l a
noncomputable def mix2 (c : Nat) : Nat := Nat.mod c 2305843009213693951
noncomputable def treeOf (l : List Line) : LT := List.rec .e (fun x _ ih => fN (hArgs x.1 1) fun c => ih.put c x (mix2 c)) l
noncomputable def argEqK (a b : Arg) : Bool := Arg.rec (motive := fun _ => Bool) (fun v => Arg.rec (motive := fun _ => Bool) (fun u => sEq v u) (fun _ => false) b) (fun vs => Arg.rec (motive := fun _ => Bool) (fun _ => false) (fun us => intsEq vs us) b) a
noncomputable def argsEqK : List Arg → List Arg → Bool :=
  List.rec (motive := fun _ => List Arg → Bool) (fun us => List.rec true (fun _ _ _ => false) us) (fun v _ ih us => List.rec false (fun u us _ => Bool.rec false (ih us) (argEqK v u)) us)
noncomputable def linesT (t : LT) (as : List Arg) : Option Res := fN (hArgs as 1) fun c => Option.rec none (fun x => Prod.rec (fun as' r => Bool.rec none (some r) (argsEqK as' as)) x) (t.find c (mix2 c))
theorem argEqK_sound {a b : Arg} (h : argEqK a b = true) : a = b := by
  cases a with
  | imm v => cases b with
    | imm u => rw [sEq_sound (show sEq v u = true from h)]
    | li _ => cases h
  | li vs => cases b with
    | imm _ => cases h
    | li us => rw [intsEq_sound (show intsEq vs us = true from h)]
theorem argsEqK_sound : ∀ {l m : List Arg}, argsEqK l m = true → l = m := by
  intro l
  induction l with
  | nil => intro m h; cases m with | nil => rfl | cons => cases h
  | cons v l ih =>
    intro m h
    cases m with
    | nil => cases h
    | cons u m =>
      have h : (Bool.rec false (argsEqK l m) (argEqK v u) : Bool) = true := h
      cases hs : argEqK v u with
      | false => rw [hs] at h; cases h
      | true => rw [hs] at h; rw [argEqK_sound hs, ih h]
inductive LT.In (x : Line) : LT → Prop
  | here {c l r} : LT.In x (.n c x l r)
  | left {c y l r} (h : LT.In x l) : LT.In x (.n c y l r)
  | right {c y l r} (h : LT.In x r) : LT.In x (.n c y l r)
theorem LT.in_put {c : Nat} {y x : Line} : ∀ {t : LT} {h : Nat}, LT.In x (t.put c y h) → x = y ∨ LT.In x t := by
  intro t
  induction t with
  | e => intro h hx; have hx : LT.In x (.n c y .e .e) := hx; cases hx with | here => exact .inl rfl | left h => exact .inr h | right h => exact .inr h
  | n c' x' l r ihl ihr =>
    intro h hx
    have hx : LT.In x (Bool.rec (Bool.rec (.n c' x' l (r.put c y (Nat.div h 2))) (.n c' x' (l.put c y (Nat.div h 2)) r) (Nat.beq (Nat.mod h 2) 0)) (.n c y l r) (Nat.beq c c') : LT) := hx
    cases hc : Nat.beq c c' with
    | true => rw [hc] at hx; cases hx with | here => exact .inl rfl | left h => exact .inr (.left h) | right h => exact .inr (.right h)
    | false =>
      rw [hc] at hx
      cases hb : Nat.beq (Nat.mod h 2) 0 with
      | true =>
        rw [hb] at hx
        cases hx with
        | here => exact .inr .here
        | left h => rcases ihl h with h | h; exact .inl h; exact .inr (.left h)
        | right h => exact .inr (.right h)
      | false =>
        rw [hb] at hx
        cases hx with
        | here => exact .inr .here
        | left h => exact .inr (.left h)
        | right h => rcases ihr h with h | h; exact .inl h; exact .inr (.right h)
theorem LT.in_find {c : Nat} {x : Line} : ∀ {t : LT} {h : Nat}, t.find c h = some x → LT.In x t := by
  intro t
  induction t with
  | e => intro h hx; cases hx
  | n c' x' l r ihl ihr =>
    intro h hx
    have hx : (Bool.rec (Bool.rec (r.find c (Nat.div h 2)) (l.find c (Nat.div h 2)) (Nat.beq (Nat.mod h 2) 0)) (some x') (Nat.beq c c') : Option Line) = some x := hx
    cases hc : Nat.beq c c' with
    | true => rw [hc] at hx; cases hx; exact .here
    | false =>
      rw [hc] at hx
      cases hb : Nat.beq (Nat.mod h 2) 0 with
      | true => rw [hb] at hx; exact .left (ihl hx)
      | false => rw [hb] at hx; exact .right (ihr hx)
theorem in_treeOf {x : Line} : ∀ {l : List Line}, LT.In x (treeOf l) → x ∈ l := by
  intro l
  induction l with
  | nil => intro h; cases h
  | cons y l ih =>
    intro h
    rcases LT.in_put (show LT.In x ((treeOf l).put (hArgs y.1 1) y (mix2 (hArgs y.1 1))) from h) with h | h
    · subst h; exact List.mem_cons_self ..
    · exact List.mem_cons_of_mem _ (ih h)
theorem linesT_get {l : List Line} {as : List Arg} {r : Res} (h : linesT (treeOf l) as = some r) : (as, r) ∈ l := by
  unfold linesT at h
  rw [fN_eq] at h
  cases hf : (treeOf l).find (hArgs as 1) (mix2 (hArgs as 1)) with
  | none => rw [hf] at h; cases h
  | some x =>
    rw [hf] at h
    obtain ⟨as', r'⟩ := x
    have h : (Bool.rec none (some r') (argsEqK as' as) : Option Res) = some r := h
    cases hb : argsEqK as' as with
    | false => rw [hb] at h; cases h
    | true =>
      rw [hb] at h
      cases h
      have := argsEqK_sound hb
      subst this
      exact in_treeOf (LT.in_find hf)
section
variable {P : Program} {okF : Nat → Bool}
/-- A table is laid over what stands, each line seen. -/
theorem SpOk.lines (hF : ∀ f fn c, okF f = true → P.funcs[f]? = some fn → fn.body = some c → funcOk fn c = true) (hmix : P.follows .mixedOrders = true) {sp : Spec} (h : SpOk P sp) {n g : Nat} {l : List Line}
    (hl : ∀ x ∈ l, LineOK P g x.1 x.2) : SpOk P (sp.add g (linesT (treeOf l))) := h.add fun as r hr => hl _ (linesT_get hr)
theorem SpOk.seen (hF : ∀ f fn c, okF f = true → P.funcs[f]? = some fn → fn.body = some c → funcOk fn c = true) (hmix : P.follows .mixedOrders = true) {sp : Spec} (h : SpOk P sp) {n g : Nat} {l : List Line}
    (hl : allK l (fun x => seenK (evF P okF (tabF sp) n) g x.1 x.2) = RC.skip) : ∀ x ∈ l, LineOK P g x.1 x.2 := fun x hx => h.line hF hmix (allK_get hl x hx)
end
end Go.Abs
