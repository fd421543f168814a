/- Tables put together; lists of lines; the top of a law. -/
import Derived.Test.YtmmgdgmjkhcfaaaFa2
import Derived.Test.YtmmgdgmjkhcfaaaAb3
set_option linter.all false
/- Tables put together; lists of lines; the top of a law. -/
namespace Go.Abs
structure SpOk (P : Program) (sp : Spec) : Prop where
 ok : sp.Ok
 tab : TabOK P sp.get
theorem noSpec_good (P : Program) : SpOk P noSpec := ⟨fun _ _ _ => rfl, fun _ _ _ h => by cases h⟩
noncomputable def Spec.add (sp : Spec) (g : Nat) (t : List Arg → Option Res) : Spec := ⟨sp.has ||| 1 <<< g, fun f as => Bool.rec (sp.get f as) (Option.rec (sp.get f as) (fun r => some r) (t as)) (Nat.beq f g)⟩
theorem SpOk.add {P : Program} {sp : Spec} (h : SpOk P sp) {g : Nat} {t : List Arg → Option Res} (ht : ∀ as r, t as = some r → LineOK P g as r) : SpOk P (sp.add g t) := by
 constructor
 ·intro f as hf
  have hf : (sp.has ||| 1 <<< g).testBit f = false := hf
  rw [Nat.testBit_or, Bool.or_eq_false_iff, Nat.testBit_shiftLeft] at hf
  have hne : f ≠ g := by
   rintro rfl
   simp at hf
  show (Bool.rec (sp.get f as) (Option.rec (sp.get f as) (fun r => some r) (t as)) (Nat.beq f g) : Option Res) = none
  cases hb : Nat.beq f g with
  | true => exact absurd (Nat.eq_of_beq_eq_true hb) hne
  | false => exact h.ok f as hf.1
 ·intro f as r hr
  have hr : (Bool.rec (sp.get f as) (Option.rec (sp.get f as) (fun r => some r) (t as)) (Nat.beq f g) : Option Res) = some r := hr
  cases hb : Nat.beq f g with
  | false => rw [hb] at hr; exact h.tab f as r hr
  | true =>
    have hr2 : (Option.rec (sp.get f as) (fun r => some r) (t as) : Option Res) = some r := by rw [hb] at hr; exact hr
    have := Nat.eq_of_beq_eq_true hb
    subst this
    cases ht2 : t as with
    | none => rw [ht2] at hr2; exact h.tab f as r hr2
    | some r2 => rw [ht2] at hr2; cases hr2; exact ht as _ ht2
section
variable {P : Program} {okF : Nat → Bool}
theorem SpOk.calls (hF : ∀ f fn c, okF f = true → P.funcs[f]? = some fn → fn.body = some c → funcOk fn c = true) (hmix : P.follows .mixedOrders = true) {sp : Spec} (h : SpOk P sp) (n : Nat) :
  CallSound (evF P okF (tabF sp) n) (evB P (tabC sp.get) n) ∧ CallOK P (evB P (tabC sp.get) n) ∧ CallGrow (evB P (tabC sp.get) n) :=
 ⟨evF_sound hF (tabF_sound h.ok) n, evB_ok hmix (tabC_ok h.tab) (tabC_grow _) n, evB_grow (tabC_grow _) n⟩
theorem SpOk.line (hF : ∀ f fn c, okF f = true → P.funcs[f]? = some fn → fn.body = some c → funcOk fn c = true) (hmix : P.follows .mixedOrders = true) {sp : Spec} (h : SpOk P sp) {n g : Nat} {as : List Arg} {r : Res}
  (hs : seenK (evF P okF (tabF sp) n) g as r = RC.skip) : LineOK P g as r :=
 seenK_sound (h.calls hF hmix n).1 (h.calls hF hmix n).2.1 hs
end
/-- All of a list. -/
noncomputable def allK {α : Type} (l : List α) (f : α → RC) : RC := List.rec RC.skip (fun x _ ih => RC.rec (fun _ _ => RC.no) (fun _ _ _ => RC.no) (fun _ _ => RC.no) (fun _ _ => RC.no) ih RC.no (f x)) l
theorem allK_get {α : Type} {l : List α} {f : α → RC} (h : allK l f = RC.skip) : ∀ x ∈ l, f x = RC.skip := by
 induction l with
 | nil => intro x hx; cases hx
 | cons y l ih =>
   have h : (RC.rec (fun _ _ => RC.no) (fun _ _ _ => RC.no) (fun _ _ => RC.no) (fun _ _ => RC.no) (allK l f) RC.no (f y) : RC) = RC.skip := h
   cases hy : f y with
   | skip =>
     rw [hy] at h
     intro x hx
     rcases List.mem_cons.1 hx with rfl | hx
     ·exact hy
     ·exact ih h x hx
   | _ => rw [hy] at h; cases h
/-- Equality of arguments, by recursors alone. -/
noncomputable def intsEq : List Value → List Value → Bool :=
 List.rec (motive := fun _ => List Value → Bool) (fun us => List.rec true (fun _ _ _ => false) us) (fun v _ ih us => List.rec false (fun u us _ => Bool.rec false (ih us) (sEq v u)) us)
theorem intsEq_sound : ∀ {l m : List Value}, intsEq l m = true → l = m := by
 intro l
 induction l with
 | nil => intro m h; cases m with | nil => rfl | cons => cases h
 | cons v l ih =>
   intro m h
   cases m with
   | nil => cases h
   | cons u m =>
     have h : (Bool.rec false (intsEq l m) (sEq v u) : Bool) = true := h
     cases hs : sEq v u with
     | false => rw [hs] at h; cases h
     | true => rw [hs] at h; rw [sEq_sound hs, ih h]
/- The top of a law: over numbers alone. -/
open Go.RowKit in
theorem law_ints {P : Program} {okF : Nat → Bool} (hF : ∀ f fn c, okF f = true → P.funcs[f]? = some fn → fn.body = some c → funcOk fn c = true) (hmix : P.follows .mixedOrders = true) {sp : Spec} (h : SpOk P sp) {n f : Nat} {args : List Value} {H' : FH}
  (hr : bodyK P okF (evF P okF (tabF sp) n) n (.func (.func f) #[] #[]) args ⟨0, deadT⟩ = .val (.bool true) H') (hp : ∀ v ∈ args, plain v = true) (w : World) :
  Calls P f ⟨args⟩ w fun e w' => e = .returned (.bool true) ∧ Below w.heap.size w w' := by
 obtain ⟨c1, c2, c3⟩ := h.calls hF hmix n
 obtain ⟨_, e⟩ := bodyK_sound hF c1 n _ _ _ _ _ dead_OK hr
 exact law_nil hmix c2 c3 e hp w
end Go.Abs
/- Tables as trees of lines, keyed by their arguments' number. -/
namespace Go.Abs
abbrev Line := List Arg × Res
inductive LT where
 | e
 | n (c : Nat) (x : Line) (l r : LT)
noncomputable def LT.put (c : Nat) (x : Line) (t : LT) : Nat → LT :=
 LT.rec (motive := fun _ => Nat → LT) (fun _ => .n c x .e .e) (fun c' x' l r ihl ihr h => Bool.rec (Bool.rec (.n c' x' l (ihr (Nat.div h 2))) (.n c' x' (ihl (Nat.div h 2)) r) (Nat.beq (Nat.mod h 2) 0)) (.n c x l r) (Nat.beq c c')) t
noncomputable def LT.find (c : Nat) (t : LT) : Nat → Option Line :=
 LT.rec (motive := fun _ => Nat → Option Line) (fun _ => none) (fun c' x' _ _ ihl ihr h => Bool.rec (Bool.rec (ihr (Nat.div h 2)) (ihl (Nat.div h 2)) (Nat.beq (Nat.mod h 2) 0)) (some x') (Nat.beq c c')) t
/-- A number of arguments. -/
noncomputable def hInt (z : Int) (a : Nat) : Nat := Int.rec (fun n => Nat.add (Nat.mul a 4294967296) (Nat.add n n)) (fun n => Nat.add (Nat.mul a 4294967296) (Nat.add (Nat.add n n) 1)) z
noncomputable def hVal (v : Value) (a : Nat) : Nat := Value.rec (motive_1 := fun _ => Nat) (motive_2 := fun _ => Nat) (motive_3 := fun _ => Nat) (fun b => Bool.rec (Nat.mul a 3) (Nat.add (Nat.mul a 3) 1) b) (fun _ z => hInt z a) (fun _ _ => a) (fun _ _ _ => a) (fun _ => Nat.add a 5) (fun _ => a) (fun p _ _ => Option.rec (Nat.add (Nat.mul a 7) 1) (fun _ => Nat.add (Nat.mul a 7) 2) p) (fun _ => a) (fun _ => a) (fun _ _ _ _ _ => a) a (fun _ _ _ => a) a (fun _ _ => a) (fun _ _ => a) (fun _ _ => a) a (fun _ _ _ _ => a) v
noncomputable def hVals (l : List Value) (a : Nat) : Nat := List.rec (motive := fun _ => Nat → Nat) (fun a => Nat.add (Nat.mul a 16) 3) (fun v _ ih a => fN (hVal v a) ih) l a
noncomputable def hArgs (l : List Arg) (a : Nat) : Nat := List.rec (motive := fun _ => Nat → Nat) (fun a => a) (fun x _ ih a => Arg.rec (motive := fun _ => Nat) (fun v => fN (hVal v a) ih) (fun vs => fN (hVals vs a) ih) x) l a
noncomputable def mix2 (c : Nat) : Nat := Nat.mod c 2305843009213693951
noncomputable def treeOf (l : List Line) : LT := List.rec .e (fun x _ ih => fN (hArgs x.1 1) fun c => ih.put c x (mix2 c)) l
noncomputable def argEqK (a b : Arg) : Bool := Arg.rec (motive := fun _ => Bool) (fun v => Arg.rec (motive := fun _ => Bool) (fun u => sEq v u) (fun _ => false) b) (fun vs => Arg.rec (motive := fun _ => Bool) (fun _ => false) (fun us => intsEq vs us) b) a
noncomputable def argsEqK : List Arg → List Arg → Bool :=
 List.rec (motive := fun _ => List Arg → Bool) (fun us => List.rec true (fun _ _ _ => false) us) (fun v _ ih us => List.rec false (fun u us _ => Bool.rec false (ih us) (argEqK v u)) us)
noncomputable def linesT (t : LT) (as : List Arg) : Option Res := fN (hArgs as 1) fun c => Option.rec none (fun x => Prod.rec (fun as' r => Bool.rec none (some r) (argsEqK as' as)) x) (t.find c (mix2 c))
theorem argEqK_sound {a b : Arg} (h : argEqK a b = true) : a = b := by
 cases a with
 | imm v => cases b with
   | imm u => rw [sEq_sound (show sEq v u = true from h)]
   | li _ => cases h
 | li vs => cases b with
   | imm _ => cases h
   | li us => rw [intsEq_sound (show intsEq vs us = true from h)]
theorem argsEqK_sound : ∀ {l m : List Arg}, argsEqK l m = true → l = m := by
 intro l
 induction l with
 | nil => intro m h; cases m with | nil => rfl | cons => cases h
 | cons v l ih =>
   intro m h
   cases m with
   | nil => cases h
   | cons u m =>
     have h : (Bool.rec false (argsEqK l m) (argEqK v u) : Bool) = true := h
     cases hs : argEqK v u with
     | false => rw [hs] at h; cases h
     | true => rw [hs] at h; rw [argEqK_sound hs, ih h]
inductive LT.In (x : Line) : LT → Prop
 | here {c l r} : LT.In x (.n c x l r)
 | left {c y l r} (h : LT.In x l) : LT.In x (.n c y l r)
 | right {c y l r} (h : LT.In x r) : LT.In x (.n c y l r)
theorem LT.in_put {c : Nat} {y x : Line} : ∀ {t : LT} {h : Nat}, LT.In x (t.put c y h) → x = y ∨ LT.In x t := by
 intro t
 induction t with
 | e => intro h hx; have hx : LT.In x (.n c y .e .e) := hx; cases hx with | here => exact .inl rfl | left h => exact .inr h | right h => exact .inr h
 | n c' x' l r ihl ihr =>
   intro h hx
   have hx : LT.In x (Bool.rec (Bool.rec (.n c' x' l (r.put c y (Nat.div h 2))) (.n c' x' (l.put c y (Nat.div h 2)) r) (Nat.beq (Nat.mod h 2) 0)) (.n c y l r) (Nat.beq c c') : LT) := hx
   cases hc : Nat.beq c c' with
   | true => rw [hc] at hx; cases hx with | here => exact .inl rfl | left h => exact .inr (.left h) | right h => exact .inr (.right h)
   | false =>
     rw [hc] at hx
     cases hb : Nat.beq (Nat.mod h 2) 0 with
     | true =>
       rw [hb] at hx
       cases hx with
       | here => exact .inr .here
       | left h => rcases ihl h with h | h; exact .inl h; exact .inr (.left h)
       | right h => exact .inr (.right h)
     | false =>
       rw [hb] at hx
       cases hx with
       | here => exact .inr .here
       | left h => exact .inr (.left h)
       | right h => rcases ihr h with h | h; exact .inl h; exact .inr (.right h)
theorem LT.in_find {c : Nat} {x : Line} : ∀ {t : LT} {h : Nat}, t.find c h = some x → LT.In x t := by
 intro t
 induction t with
 | e => intro h hx; cases hx
 | n c' x' l r ihl ihr =>
   intro h hx
   have hx : (Bool.rec (Bool.rec (r.find c (Nat.div h 2)) (l.find c (Nat.div h 2)) (Nat.beq (Nat.mod h 2) 0)) (some x') (Nat.beq c c') : Option Line) = some x := hx
   cases hc : Nat.beq c c' with
   | true => rw [hc] at hx; cases hx; exact .here
   | false =>
     rw [hc] at hx
     cases hb : Nat.beq (Nat.mod h 2) 0 with
     | true => rw [hb] at hx; exact .left (ihl hx)
     | false => rw [hb] at hx; exact .right (ihr hx)
theorem in_treeOf {x : Line} : ∀ {l : List Line}, LT.In x (treeOf l) → x ∈ l := by
 intro l
 induction l with
 | nil => intro h; cases h
 | cons y l ih =>
   intro h
   rcases LT.in_put (show LT.In x ((treeOf l).put (hArgs y.1 1) y (mix2 (hArgs y.1 1))) from h) with h | h
   ·subst h; exact List.mem_cons_self ..
   ·exact List.mem_cons_of_mem _ (ih h)
theorem linesT_get {l : List Line} {as : List Arg} {r : Res} (h : linesT (treeOf l) as = some r) : (as, r) ∈ l := by
 unfold linesT at h
 rw [fN_eq] at h
 cases hf : (treeOf l).find (hArgs as 1) (mix2 (hArgs as 1)) with
 | none => rw [hf] at h; cases h
 | some x =>
   rw [hf] at h
   obtain ⟨as', r'⟩ := x
   have h : (Bool.rec none (some r') (argsEqK as' as) : Option Res) = some r := h
   cases hb : argsEqK as' as with
   | false => rw [hb] at h; cases h
   | true =>
     rw [hb] at h
     cases h
     have := argsEqK_sound hb
     subst this
     exact in_treeOf (LT.in_find hf)
section
variable {P : Program} {okF : Nat → Bool}
/-- A table is laid over what stands, each line seen. -/
theorem SpOk.lines (hF : ∀ f fn c, okF f = true → P.funcs[f]? = some fn → fn.body = some c → funcOk fn c = true) (hmix : P.follows .mixedOrders = true) {sp : Spec} (h : SpOk P sp) {n g : Nat} {l : List Line}
 (hl : ∀ x ∈ l, LineOK P g x.1 x.2) : SpOk P (sp.add g (linesT (treeOf l))) := h.add fun as r hr => hl _ (linesT_get hr)
theorem SpOk.seen (hF : ∀ f fn c, okF f = true → P.funcs[f]? = some fn → fn.body = some c → funcOk fn c = true) (hmix : P.follows .mixedOrders = true) {sp : Spec} (h : SpOk P sp) {n g : Nat} {l : List Line}
 (hl : allK l (fun x => seenK (evF P okF (tabF sp) n) g x.1 x.2) = RC.skip) : ∀ x ∈ l, LineOK P g x.1 x.2 := fun x hx => h.line hF hmix (allK_get hl x hx)
end
end Go.Abs
