/- Tables put together; lists of lines; the top of a law. -/
import Derived.Test.YtmmgdgmjkhcfaaaFa2
import Derived.Test.YtmmgdgmjkhcfaaaAb3
set_option linter.all false
/- Tables put together; lists of lines; the top of a law. -/
namespace Go.Abs
structure SpOk (P : Program) (sp : Spec) : Prop where
  ok : sp.Ok
  tab : TabOK P sp.get
theorem noSpec_good (P : Program) : SpOk P noSpec := ⟨fun _ _ _ => rfl, fun _ _ _ h => by cases h⟩
noncomputable def Spec.add (sp : Spec) (g : Nat) (t : List Arg → Option Res) : Spec := ⟨sp.has ||| 1 <<< g, fun f as => Bool.rec (sp.get f as) (Option.rec (sp.get f as) (fun r => some r) (t as)) (Nat.beq f g)⟩
theorem SpOk.add {P : Program} {sp : Spec} (h : SpOk P sp) {g : Nat} {t : List Arg → Option Res} (ht : ∀ as r, t as = some r → LineOK P g as r) : SpOk P (sp.add g t) := by
  constructor
  · intro f as hf
    have hf : (sp.has ||| 1 <<< g).testBit f = false := hf
    rw [Nat.testBit_or, Bool.or_eq_false_iff, Nat.testBit_shiftLeft] at hf
    have hne : f ≠ g := by
      rintro rfl
      simp at hf
    show (Bool.rec (sp.get f as) (Option.rec (sp.get f as) (fun r => some r) (t as)) (Nat.beq f g) : Option Res) = none
    cases hb : Nat.beq f g with
    | true => exact absurd (Nat.eq_of_beq_eq_true hb) hne
    | false => exact h.ok f as hf.1
  · intro f as r hr
    have hr : (Bool.rec (sp.get f as) (Option.rec (sp.get f as) (fun r => some r) (t as)) (Nat.beq f g) : Option Res) = some r := hr
    cases hb : Nat.beq f g with
    | false => rw [hb] at hr; exact h.tab f as r hr
    | true =>
      have hr2 : (Option.rec (sp.get f as) (fun r => some r) (t as) : Option Res) = some r := by rw [hb] at hr; exact hr
      have := Nat.eq_of_beq_eq_true hb
      subst this
      cases ht2 : t as with
      | none => rw [ht2] at hr2; exact h.tab f as r hr2
      | some r2 => rw [ht2] at hr2; cases hr2; exact ht as _ ht2
section
variable {P : Program} {okF : Nat → Bool}
theorem SpOk.calls (hF : ∀ f fn c, okF f = true → P.funcs[f]? = some fn → fn.body = some c → funcOk fn c = true) (hmix : P.follows .mixedOrders = true) {sp : Spec} (h : SpOk P sp) (n : Nat) :
    CallSound (evF P okF (tabF sp) n) (evB P (tabC sp.get) n) ∧ CallOK P (evB P (tabC sp.get) n) ∧ CallGrow (evB P (tabC sp.get) n) :=
  ⟨evF_sound hF (tabF_sound h.ok) n, evB_ok hmix (tabC_ok h.tab) (tabC_grow _) n, evB_grow (tabC_grow _) n⟩
theorem SpOk.line (hF : ∀ f fn c, okF f = true → P.funcs[f]? = some fn → fn.body = some c → funcOk fn c = true) (hmix : P.follows .mixedOrders = true) {sp : Spec} (h : SpOk P sp) {n g : Nat} {as : List Arg} {r : Res}
    (hs : seenK (evF P okF (tabF sp) n) g as r = RC.skip) : LineOK P g as r :=
  seenK_sound (h.calls hF hmix n).1 (h.calls hF hmix n).2.1 hs
end
/-- All of a list. -/
noncomputable def allK {α : Type} (l : List α) (f : α → RC) : RC := List.rec RC.skip (fun x _ ih => RC.rec (fun _ _ => RC.no) (fun _ _ _ => RC.no) (fun _ _ => RC.no) (fun _ _ => RC.no) ih RC.no (f x)) l
theorem allK_get {α : Type} {l : List α} {f : α → RC} (h : allK l f = RC.skip) : ∀ x ∈ l, f x = RC.skip := by
  induction l with
  | nil => intro x hx; cases hx
  | cons y l ih =>
    have h : (RC.rec (fun _ _ => RC.no) (fun _ _ _ => RC.no) (fun _ _ => RC.no) (fun _ _ => RC.no) (allK l f) RC.no (f y) : RC) = RC.skip := h
    cases hy : f y with
    | skip =>
      rw [hy] at h
      intro x hx
      rcases List.mem_cons.1 hx with rfl | hx
      · exact hy
      · exact ih h x hx
    | _ => rw [hy] at h; cases h
/-- Equality of arguments, by recursors alone. -/
noncomputable def intsEq : List Value → List Value → Bool :=
  List.rec (motive := fun _ => List Value → Bool) (fun us => List.rec true (fun _ _ _ => false) us) (fun v _ ih us => List.rec false (fun u us _ => Bool.rec false (ih us) (sEq v u)) us)
theorem intsEq_sound : ∀ {l m : List Value}, intsEq l m = true → l = m := by
  intro l
  induction l with
  | nil => intro m h; cases m with | nil => rfl | cons => cases h
  | cons v l ih =>
    intro m h
    cases m with
    | nil => cases h
    | cons u m =>
      have h : (Bool.rec false (intsEq l m) (sEq v u) : Bool) = true := h
      cases hs : sEq v u with
      | false => rw [hs] at h; cases h
      | true => rw [hs] at h; rw [sEq_sound hs, ih h]
/- The top of a law: over numbers alone. -/
open Go.RowKit in
theorem law_ints {P : Program} {okF : Nat → Bool} (hF : ∀ f fn c, okF f = true → P.funcs[f]? = some fn → fn.body = some c → funcOk fn c = true) (hmix : P.follows .mixedOrders = true) {sp : Spec} (h : SpOk P sp) {n f : Nat} {args : List Value} {H' : FH}
    (hr : bodyK P okF (evF P okF (tabF sp) n) n (.func (.func f) #[] #[]) args ⟨0, deadT⟩ = .val (.bool true) H') (hp : ∀ v ∈ args, plain v = true) (w : World) :
    Calls P f ⟨args⟩ w fun e w' => e = .returned (.bool true) ∧ Below w.heap.size w w' := by
  obtain ⟨c1, c2, c3⟩ := h.calls hF hmix n
  obtain ⟨_, e⟩ := bodyK_sound hF c1 n _ _ _ _ _ dead_OK hr
  exact law_nil hmix c2 c3 e hp w
end Go.Abs
/- Tables as trees of lines, keyed by their arguments' number. -/
namespace Go.Abs
abbrev Line := List Arg × Res
inductive LT where
  | e
  | n (c : Nat) (x : Line) (l r : LT)
noncomputable def LT.put (c : Nat) (x : Line) (t : LT) : Nat → LT :=
  LT.rec (motive := fun _ => Nat → LT) (fun _ => .n c x .e .e) (fun c' x' l r ihl ihr h => Bool.rec (Bool.rec (.n c' x' l (ihr (Nat.div h 2))) (.n c' x' (ihl (Nat.div h 2)) r) (Nat.beq (Nat.mod h 2) 0)) (.n c x l r) (Nat.beq c c')) t
noncomputable def LT.find (c : Nat) (t : LT) : Nat → Option Line :=
  LT.rec (motive := fun _ => Nat → Option Line) (fun _ => none) (fun c' x' _ _ ihl ihr h => Bool.rec (Bool.rec (ihr (Nat.div h 2)) (ihl (Nat.div h 2)) (Nat.beq (Nat.mod h 2) 0)) (some x') (Nat.beq c c')) t
/-- A number of arguments. -/
noncomputable def hInt (z : Int) (a : Nat) : Nat := Int.rec (fun n => Nat.add (Nat.mul a 4294967296) (Nat.add n n)) (fun n => Nat.add (Nat.mul a 4294967296) (Nat.add (Nat.add n n) 1)) z
noncomputable def hVal (v : Value) (a : Nat) : Nat := Value.rec (motive_1 := fun _ => Nat) (motive_2 := fun _ => Nat) (motive_3 := fun _ => Nat) (fun b => Bool.rec (Nat.mul a 3) (Nat.add (Nat.mul a 3) 1) b) (fun _ z => hInt z a) (fun _ _ => a) (fun _ _ _ => a) (fun _ => Nat.add a 5) (fun _ => a) (fun p _ _ => Option.rec (Nat.add (Nat.mul a 7) 1) (fun _ => Nat.add (Nat.mul a 7) 2) p) (fun _ => a) (fun _ => a) (fun _ _ _ _ _ => a) a (fun _ _ _ => a) a (fun _ _ => a) (fun _ _ => a) (fun _ _ => a) a (fun _ _ _ _ => a) v
noncomputable def hVals (l : List Value) (a : Nat) : Nat := List.rec (motive := fun _ => Nat → Nat) (fun a => Nat.add (Nat.mul a 16) 3) (fun v _ ih a => fN (hVal v a) ih) l a
noncomputable def hArgs (l : List Arg) (a : Nat) : Nat := List.rec (motive := fun _ => Nat → Nat) (fun a => a) (fun x _ ih a => Arg.rec (motive := fun _ => Nat) (fun v => fN (hVal v a) ih) (fun vs => fN (hVals vs a) ih) x) l a
noncomputable def mix2 (c : Nat) : Nat := Nat.mod c 2305843009213693951
noncomputable def treeOf (l : List Line) : LT := List.rec .e (fun x _ ih => fN (hArgs x.1 1) fun c => ih.put c x (mix2 c)) l
noncomputable def argEqK (a b : Arg) : Bool := Arg.rec (motive := fun _ => Bool) (fun v => Arg.rec (motive := fun _ => Bool) (fun u => sEq v u) (fun _ => false) b) (fun vs => Arg.rec (motive := fun _ => Bool) (fun _ => false) (fun us => intsEq vs us) b) a
noncomputable def argsEqK : List Arg → List Arg → Bool :=
  List.rec (motive := fun _ => List Arg → Bool) (fun us => List.rec true (fun _ _ _ => false) us) (fun v _ ih us => List.rec false (fun u us _ => Bool.rec false (ih us) (argEqK v u)) us)
noncomputable def linesT (t : LT) (as : List Arg) : Option Res := fN (hArgs as 1) fun c => Option.rec none (fun x => Prod.rec (fun as' r => Bool.rec none (some r) (argsEqK as' as)) x) (t.find c (mix2 c))
theorem argEqK_sound {a b : Arg} (h : argEqK a b = true) : a = b := by
  cases a with
  | imm v => cases b with
    | imm u => rw [sEq_sound (show sEq v u = true from h)]
    | li _ => cases h
  | li vs => cases b with
    | imm _ => cases h
    | li us => rw [intsEq_sound (show intsEq vs us = true from h)]
theorem argsEqK_sound : ∀ {l m : List Arg}, argsEqK l m = true → l = m := by
  intro l
  induction l with
  | nil => intro m h; cases m with | nil => rfl | cons => cases h
  | cons v l ih =>
    intro m h
    cases m with
    | nil => cases h
    | cons u m =>
      have h : (Bool.rec false (argsEqK l m) (argEqK v u) : Bool) = true := h
      cases hs : argEqK v u with
      | false => rw [hs] at h; cases h
      | true => rw [hs] at h; rw [argEqK_sound hs, ih h]
inductive LT.In (x : Line) : LT → Prop
  | here {c l r} : LT.In x (.n c x l r)
  | left {c y l r} (h : LT.In x l) : LT.In x (.n c y l r)
  | right {c y l r} (h : LT.In x r) : LT.In x (.n c y l r)
theorem LT.in_put {c : Nat} {y x : Line} : ∀ {t : LT} {h : Nat}, LT.In x (t.put c y h) → x = y ∨ LT.In x t := by
  intro t
  induction t with
  | e => intro h hx; have hx : LT.In x (.n c y .e .e) := hx; cases hx with | here => exact .inl rfl | left h => exact .inr h | right h => exact .inr h
  | n c' x' l r ihl ihr =>
    intro h hx
    have hx : LT.In x (Bool.rec (Bool.rec (.n c' x' l (r.put c y (Nat.div h 2))) (.n c' x' (l.put c y (Nat.div h 2)) r) (Nat.beq (Nat.mod h 2) 0)) (.n c y l r) (Nat.beq c c') : LT) := hx
    cases hc : Nat.beq c c' with
    | true => rw [hc] at hx; cases hx with | here => exact .inl rfl | left h => exact .inr (.left h) | right h => exact .inr (.right h)
    | false =>
      rw [hc] at hx
      cases hb : Nat.beq (Nat.mod h 2) 0 with
      | true =>
        rw [hb] at hx
        cases hx with
        | here => exact .inr .here
        | left h => rcases ihl h with h | h; exact .inl h; exact .inr (.left h)
        | right h => exact .inr (.right h)
      | false =>
        rw [hb] at hx
        cases hx with
        | here => exact .inr .here
        | left h => exact .inr (.left h)
        | right h => rcases ihr h with h | h; exact .inl h; exact .inr (.right h)
theorem LT.in_find {c : Nat} {x : Line} : ∀ {t : LT} {h : Nat}, t.find c h = some x → LT.In x t := by
  intro t
  induction t with
  | e => intro h hx; cases hx
  | n c' x' l r ihl ihr =>
    intro h hx
    have hx : (Bool.rec (Bool.rec (r.find c (Nat.div h 2)) (l.find c (Nat.div h 2)) (Nat.beq (Nat.mod h 2) 0)) (some x') (Nat.beq c c') : Option Line) = some x := hx
    cases hc : Nat.beq c c' with
    | true => rw [hc] at hx; cases hx; exact .here
    | false =>
      rw [hc] at hx
      cases hb : Nat.beq (Nat.mod h 2) 0 with
      | true => rw [hb] at hx; exact .left (ihl hx)
      | false => rw [hb] at hx; exact .right (ihr hx)
theorem in_treeOf {x : Line} : ∀ {l : List Line}, LT.In x (treeOf l) → x ∈ l := by
  intro l
  induction l with
  | nil => intro h; cases h
  | cons y l ih =>
    intro h
    rcases LT.in_put (show LT.In x ((treeOf l).put (hArgs y.1 1) y (mix2 (hArgs y.1 1))) from h) with h | h
    · subst h; exact List.mem_cons_self ..
    · exact List.mem_cons_of_mem _ (ih h)
theorem linesT_get {l : List Line} {as : List Arg} {r : Res} (h : linesT (treeOf l) as = some r) : (as, r) ∈ l := by
  unfold linesT at h
  rw [fN_eq] at h
  cases hf : (treeOf l).find (hArgs as 1) (mix2 (hArgs as 1)) with
  | none => rw [hf] at h; cases h
  | some x =>
    rw [hf] at h
    obtain ⟨as', r'⟩ := x
    have h : (Bool.rec none (some r') (argsEqK as' as) : Option Res) = some r := h
    cases hb : argsEqK as' as with
    | false => rw [hb] at h; cases h
    | true =>
      rw [hb] at h
      cases h
      have := argsEqK_sound hb
      subst this
      exact in_treeOf (LT.in_find hf)
section
variable {P : Program} {okF : Nat → Bool}
/-- A table is laid over what stands, each line seen. -/
theorem SpOk.lines (hF : ∀ f fn c, okF f = true → P.funcs[f]? = some fn → fn.body = some c → funcOk fn c = true) (hmix : P.follows .mixedOrders = true) {sp : Spec} (h : SpOk P sp) {n g : Nat} {l : List Line}
    (hl : ∀ x ∈ l, LineOK P g x.1 x.2) : SpOk P (sp.add g (linesT (treeOf l))) := h.add fun as r hr => hl _ (linesT_get hr)
theorem SpOk.seen (hF : ∀ f fn c, okF f = true → P.funcs[f]? = some fn → fn.body = some c → funcOk fn c = true) (hmix : P.follows .mixedOrders = true) {sp : Spec} (h : SpOk P sp) {n g : Nat} {l : List Line}
    (hl : allK l (fun x => seenK (evF P okF (tabF sp) n) g x.1 x.2) = RC.skip) : ∀ x ∈ l, LineOK P g x.1 x.2 := fun x hx => h.line hF hmix (allK_get hl x hx)
end
end Go.Abs
/- Lists that are not looked into: calls with them are answered by their place alone. The top of a law over lists. -/
namespace Go.Abs
/-- What a function answers to these arguments. -/
structure Ora where
  g : Nat
  vals : List Value
  v : Value
noncomputable def ora {α : Type} (yes : Value → α) (no : α) (f : Nat) (args : List Value) (os : List Ora) : α :=
  List.rec no (fun o _ ih => Bool.rec ih (Bool.rec ih (yes o.v) (intsEq o.vals args)) (Nat.beq o.g f)) os
theorem ora_or (f : Nat) (args : List Value) : ∀ os : List Ora, (∀ (α : Type) (yes : Value → α) (no : α), ora yes no f args os = no) ∨ ∃ o ∈ os, o.g = f ∧ o.vals = args ∧ ∀ (α : Type) (yes : Value → α) (no : α), ora yes no f args os = yes o.v := by
  intro os
  induction os with
  | nil => exact .inl fun _ _ _ => rfl
  | cons o os ih =>
    have e : ∀ (α : Type) (yes : Value → α) (no : α), ora yes no f args (o :: os) = Bool.rec (ora yes no f args os) (Bool.rec (ora yes no f args os) (yes o.v) (intsEq o.vals args)) (Nat.beq o.g f) := fun _ _ _ => rfl
    have go : (∀ (α : Type) (yes : Value → α) (no : α), ora yes no f args (o :: os) = ora yes no f args os) → (∀ (α : Type) (yes : Value → α) (no : α), ora yes no f args (o :: os) = no) ∨ ∃ x ∈ o :: os, x.g = f ∧ x.vals = args ∧ ∀ (α : Type) (yes : Value → α) (no : α), ora yes no f args (o :: os) = yes x.v := by
      intro h
      rcases ih with ih | ⟨x, hx, h1, h2, h3⟩
      · exact .inl fun α yes no => by rw [h, ih]
      · exact .inr ⟨x, List.mem_cons_of_mem _ hx, h1, h2, fun α yes no => by rw [h, h3]⟩
    cases h1 : Nat.beq o.g f with
    | false => exact go fun α yes no => by rw [e, h1]
    | true =>
      cases h2 : intsEq o.vals args with
      | false => exact go fun α yes no => by rw [e, h1, h2]
      | true => exact .inr ⟨o, List.mem_cons_self .., Nat.eq_of_beq_eq_true h1, intsEq_sound h2, fun α yes no => by rw [e, h1, h2]⟩
noncomputable def oraF (os : List Ora) (base : CallFF) : CallFF := fun fv args H => match fv with
  | .func (.func f) first captured => bif first.isEmpty && captured.isEmpty then ora (fun v => .val v H) (base fv args H) f args os else base fv args H
  | _ => base fv args H
noncomputable def oraC (os : List Ora) (base : CallF) : CallF := fun fv args H => match fv with
  | .func (.func f) first captured => bif first.isEmpty && captured.isEmpty then ora (fun v => some (v, H)) (base fv args H) f args os else base fv args H
  | _ => base fv args H
theorem ora_base {os : List Ora} {base : CallFF} {baseA : CallF} (hb : BaseSound base baseA) : BaseSound (oraF os base) (oraC os baseA) := by
  constructor
  · intro fv args H v H' hH h
    unfold oraF at h
    unfold oraC
    split at h
    · rename_i f first captured
      cases hc : (first.isEmpty && captured.isEmpty) with
      | false => rw [hc] at h; exact hb.1 _ _ _ _ _ hH h
      | true =>
        rw [hc] at h
        simp only [cond_true] at h ⊢
        rcases ora_or f args os with e | ⟨o, _, _, _, e⟩
        · rw [e] at h ⊢; exact hb.1 _ _ _ _ _ hH h
        · rw [e] at h ⊢; cases h; exact ⟨hH, rfl⟩
    · exact hb.1 _ _ _ _ _ hH h
  · intro fv args H hH h
    unfold oraF at h
    unfold oraC
    split at h
    · rename_i f first captured
      cases hc : (first.isEmpty && captured.isEmpty) with
      | false => rw [hc] at h; exact hb.2 _ _ _ hH h
      | true =>
        rw [hc] at h
        simp only [cond_true] at h ⊢
        rcases ora_or f args os with e | ⟨o, _, _, _, e⟩
        · rw [e] at h ⊢; exact hb.2 _ _ _ hH h
        · rw [e] at h; cases h
    · exact hb.2 _ _ _ hH h
def immA : Value → Bool
  | .agg cs => cs.toList.all immOk
  | v => immOk v
def immV : Value → Bool
  | .tuple cs => cs.toList.all immA
  | v => immA v
theorem renS_imm {r : Nat → Option Nat} {v : Value} (h : immOk v = true) : renS r v = some v := by
  unfold renS
  split
  · simp [immOk] at h
  · rw [if_pos h]
theorem mapO_same {f : Value → Option Value} : ∀ {l : List Value}, (∀ x ∈ l, f x = some x) → mapO f l = some l := by
  intro l
  induction l with
  | nil => intro _; rfl
  | cons x l ih =>
    intro h
    unfold mapO
    rw [h x (List.mem_cons_self ..), ih fun y hy => h y (List.mem_cons_of_mem _ hy)]
theorem renA_imm {r : Nat → Option Nat} {v : Value} (h : immA v = true) : renA r v = some v := by
  unfold renA
  split
  · rename_i cs
    rw [mapO_same fun x hx => renS_imm (List.all_eq_true.1 h x hx)]
    rfl
  · rename_i hx
    unfold immA at h
    split at h
    · exact absurd rfl (hx _)
    · exact renS_imm h
theorem renV_imm {r : Nat → Option Nat} {v : Value} (h : immV v = true) : renV r v = some v := by
  unfold renV
  split
  · rename_i cs
    rw [mapO_same fun x hx => renA_imm (List.all_eq_true.1 h x hx)]
    rfl
  · rename_i hx
    unfold immV at h
    split at h
    · exact absurd rfl (hx _)
    · exact renA_imm h
theorem all2_self {R : Value → Value → Prop} : ∀ {l : List Value}, (∀ x ∈ l, R x x) → All2 R l l := by
  intro l
  induction l with
  | nil => intro _; exact .nil
  | cons x l ih => intro h; exact .cons (h x (List.mem_cons_self ..)) (ih fun y hy => h y (List.mem_cons_of_mem _ hy))
theorem MA_imm {acc : List Nat} {v : Value} (h : immA v = true) : MA acc v v := by
  unfold immA at h
  split at h
  · rename_i cs
    exact .inl ⟨cs, cs, rfl, rfl, all2_self fun x hx => .inl ⟨List.all_eq_true.1 h x hx, rfl⟩⟩
  · exact .inr (.inl ⟨h, rfl⟩)
theorem MV_imm {acc : List Nat} {v : Value} (h : immV v = true) : MV acc v v := by
  unfold immV at h
  split at h
  · rename_i cs
    exact .inl ⟨cs, cs, rfl, rfl, all2_self fun x hx => MA_imm (List.all_eq_true.1 h x hx)⟩
  · exact .inr (MA_imm h)
def OraOK (P : Program) (G : Heap) (o : Ora) : Prop := immV o.v = true ∧ ∃ as, mapO (readArg G) o.vals = some as ∧ LineOK P o.g as (o.v, [])
open Classical in
noncomputable def guardC (G : Heap) (c : CallF) : CallF := fun fv args H => if Sta G H then c fv args H else none
theorem readArg_sta {G H : Heap} (h : Sta G H) {v : Value} {a : Arg} (hr : readArg G v = some a) : readArg H v = some a := by
  unfold readArg at hr ⊢
  split at hr
  · rename_i b o n
    split at hr
    · rename_i hb
      rw [h.old b (lt_of_get hb), hb]
      exact hr
    · cases hr
  · exact hr
theorem readArgs_sta {G H : Heap} (h : Sta G H) : ∀ {vs : List Value} {as : List Arg}, mapO (readArg G) vs = some as → mapO (readArg H) vs = some as := by
  intro vs
  induction vs with
  | nil => intro as h; exact h
  | cons v vs ih =>
    intro as hr
    unfold mapO at hr ⊢
    split at hr
    · rename_i y ys h1 h2
      rw [readArg_sta h h1, ih h2]; exact hr
    · cases hr
section
variable {P : Program} {okF : Nat → Bool} {G : Heap} {os : List Ora}
open Classical in
theorem guard_ok {base : CallF} (hb : CallOK P base) (ho : ∀ o ∈ os, OraOK P G o) : CallOK P (guardC G (oraC os base)) := by
  intro fv args H v H' h
  unfold guardC at h
  split at h
  case isFalse => cases h
  rename_i hS
  unfold oraC at h
  split at h
  · rename_i f first captured
    cases hc : (first.isEmpty && captured.isEmpty) with
    | false => rw [hc] at h; exact hb _ _ _ _ _ h
    | true =>
      rw [hc] at h
      simp only [cond_true] at h
      rcases ora_or f args os with e | ⟨o, hom, rfl, rfl, e⟩
      · rw [e] at h; exact hb _ _ _ _ _ h
      · rw [e] at h
        cases h
        obtain ⟨himm, as, ha, hl⟩ := ho o hom
        have hk : CallOK P (tabC fun g as' => if g = o.g ∧ as' = as then some (o.v, []) else none) := tabC_ok fun g as' r hr => by
          split at hr
          · rename_i hg; obtain ⟨rfl, rfl⟩ := hg; cases hr; exact hl
          · cases hr
        refine hk _ _ _ _ _ ?_
        unfold tabC
        simp only [hc, if_true, readArgs_sta hS ha, and_self, renV_imm himm, mkBlks, List.append_nil]
  · exact hb _ _ _ _ _ h
theorem guard_grow {c : CallF} (hc : CallGrow c) : CallGrow (guardC G c) := by
  intro fv args H v H' h
  unfold guardC at h
  split at h
  · exact hc _ _ _ _ _ h
  · cases h
theorem oraC_grow {c : CallF} (hc : CallGrow c) : CallGrow (oraC os c) := by
  intro fv args H v H' h
  unfold oraC at h
  split at h
  · rename_i f first captured
    cases hb : (first.isEmpty && captured.isEmpty) with
    | false => rw [hb] at h; exact hc _ _ _ _ _ h
    | true =>
      rw [hb] at h
      simp only [cond_true] at h
      rcases ora_or f args os with e | ⟨o, _, _, _, e⟩
      · rw [e] at h; exact hc _ _ _ _ _ h
      · rw [e] at h; cases h; exact Nat.le_refl _
  · exact hc _ _ _ _ _ h
def KeepSta (G : Heap) (c : CallF) : Prop := ∀ fv args H v H', Sta G H → c fv args H = some (v, H') → Sta G H'
theorem oraC_sta {c : CallF} (hc : KeepSta G c) : KeepSta G (oraC os c) := by
  intro fv args H v H' hS h
  unfold oraC at h
  split at h
  · rename_i f first captured
    cases hb : (first.isEmpty && captured.isEmpty) with
    | false => rw [hb] at h; exact hc _ _ _ _ _ hS h
    | true =>
      rw [hb] at h
      simp only [cond_true] at h
      rcases ora_or f args os with e | ⟨o, _, _, _, e⟩
      · rw [e] at h; exact hc _ _ _ _ _ hS h
      · rw [e] at h; cases h; exact hS
  · exact hc _ _ _ _ _ hS h
theorem Sta.app {H : Heap} (h : Sta G H) : ∀ {l : Heap}, (∀ x ∈ l, ∀ f cs, x = .cells f true cs → G.length ≤ f) → Sta G (H ++ l) := by
  intro l
  induction l generalizing H with
  | nil => intro _; rw [List.append_nil]; exact h
  | cons x l ih =>
    intro hx
    have := ih (h.push (hx x (List.mem_cons_self ..))) fun y hy => hx y (List.mem_cons_of_mem _ hy)
    rwa [List.append_assoc] at this
theorem tabC_sta (spec : Nat → List Arg → Option Res) : KeepSta G (tabC spec) := by
  intro fv args H v H' hS h
  unfold tabC at h
  split at h
  case h_2 => cases h
  split at h
  case isFalse => cases h
  split at h
  case h_2 => cases h
  split at h
  case h_2 => cases h
  split at h
  case h_2 => cases h
  rename_i hl
  cases h
  refine hS.app fun x hx f cs e => ?_
  obtain ⟨i, hi⟩ := List.getElem?_of_mem hx
  obtain ⟨cs2, c, _, _, e2⟩ := (mkBlks_get hl).2 i x hi
  rw [e] at e2
  injection e2 with e3
  have := hS.len
  omega
theorem evB_agr {c : CallF} (hk : KeepSta G c) : ∀ n, Agr G (evB P c n) (evB P (guardC G c) n) := by
  have base : Agr G c (guardC G c) := fun fv args H v H' hS h => ⟨by unfold guardC; rw [if_pos hS]; exact h, hk _ _ _ _ _ hS h⟩
  intro n
  induction n with
  | zero => exact base
  | succ n ih =>
    intro fv args H v H' hS h
    have h : orC c (evBody P (evB P c n) n) fv args H = some (v, H') := h
    show orC (guardC G c) (evBody P (evB P (guardC G c) n) n) fv args H = some (v, H') ∧ _
    unfold orC at h ⊢
    cases hc : c fv args H with
    | some r =>
      rw [hc] at h
      obtain ⟨e1, e2⟩ := base fv args H v H' hS (by rw [hc]; exact h)
      rw [e1]
      exact ⟨rfl, e2⟩
    | none =>
      rw [hc] at h
      have e : guardC G c fv args H = none := by unfold guardC; rw [if_pos hS]; exact hc
      rw [e]
      exact body_agr ih n _ _ _ _ _ hS h
end
end Go.Abs
/- Lines and laws over lists that are not looked into. -/
namespace Go.Abs
/-- An argument of a run: a value alone, a list, a list that is not looked into. -/
inductive OArg where
  | imm (v : Value)
  | op (n : Nat) (t : FT)
def OArg.arg : OArg → Arg
  | .imm v => .imm v
  | .op n t => .li (toL n t)
noncomputable def startO (as : List OArg) : FH → (List Value → FH → RC) → RC :=
  List.rec (motive := fun _ => FH → (List Value → FH → RC) → RC) (fun H k => k [] H) (fun a _ ih H k => OArg.rec (motive := fun _ => RC) (fun v => ih H fun vs H => k (v :: vs) H)
    (fun n t => bif Nat.ble n 262144 then pushK H (fun i => ⟨.cells i false n t, n, [i]⟩) fun i H => ih H fun vs H => k (.slice (some ⟨i, 0, none⟩) n 1 :: vs) H else RC.no) a) as
theorem startO_or : ∀ (as : List OArg) (H : FH) (k : List Value → FH → RC), H.OK → startO as H k = RC.no ∨ ∃ H', H'.OK ∧ absH H' = absH H ++ mkHeap H.n (as.map OArg.arg) ∧ startO as H k = k (mkVals H.n (as.map OArg.arg)) H' := by
  intro as
  induction as with
  | nil => intro H k hH; exact .inr ⟨H, hH, by simp [mkHeap], rfl⟩
  | cons a as ih =>
    intro H k hH
    cases a with
    | imm v => exact ih H (fun vs H => k (v :: vs) H) hH
    | op n t =>
      have e : startO (.op n t :: as) H k = bif Nat.ble n 262144 then pushK H (fun i => ⟨.cells i false n t, n, [i]⟩) fun i H => startO as H fun vs H => k (.slice (some ⟨i, 0, none⟩) n 1 :: vs) H else RC.no := rfl
      rw [e]
      cases hc : Nat.ble n 262144 with
      | false => exact .inl rfl
      | true =>
        have h4 := Nat.le_of_ble_eq_true hc
        simp only [cond_true]
        rcases pushK_or H (fun i => (⟨.cells i false n t, n, [i]⟩ : Nd)) (fun i H => startO as H fun vs H => k (.slice (some ⟨i, 0, none⟩) n 1 :: vs) H) with h | ⟨hlt, h⟩
        · exact .inl h
        have hok := OK_push hH hlt (⟨.cells H.n false n t, n, [H.n]⟩ : Nd) (BOK_new hlt h4)
        have habs := absH_push hlt (⟨.cells H.n false n t, n, [H.n]⟩ : Nd)
        rcases ih (H.push ⟨.cells H.n false n t, n, [H.n]⟩) (fun vs H' => k (.slice (some ⟨H.n, 0, none⟩) n 1 :: vs) H') hok with h2 | ⟨H', e1, e2, e3⟩
        · exact .inl (h.trans h2)
        · refine .inr ⟨H', e1, ?_, h.trans ?_⟩
          · rw [e2, habs]
            simp only [absB, List.map_cons, OArg.arg, mkHeap]
            show _ = absH H ++ (.cells H.n false (toL n t) :: mkHeap (H.n + 1) (as.map OArg.arg))
            simp
            rfl
          · refine e3.trans ?_
            have hl : (toL n t).length = n := toL_length ..
            show k (.slice (some ⟨H.n, 0, none⟩) n 1 :: mkVals (H.n + 1) (as.map OArg.arg)) H' = k (sliceA H.n 0 (toL n t).length 1 :: mkVals (H.n + 1) (as.map OArg.arg)) H'
            rw [hl]
            rfl
theorem mkHeap_sta : ∀ (as : List Arg) (k b : Nat) (x : Blk), (mkHeap k as)[b]? = some x → ∃ cs, x = .cells (k + b) false cs := by
  intro as
  induction as with
  | nil => intro k b x h; simp [mkHeap] at h
  | cons a as ih =>
    intro k b x h
    cases a with
    | imm v => exact ih k b x h
    | li vs =>
      simp only [mkHeap] at h
      cases b with
      | zero => simp at h; exact ⟨vs, h.symm⟩
      | succ b =>
        obtain ⟨cs, e⟩ := ih (k + 1) b x (by simpa using h)
        exact ⟨cs, by rw [e]; congr 1; omega⟩
theorem sta_self (as : List Arg) : Sta (mkHeap 0 as) (mkHeap 0 as) where
  len := Nat.le_refl _
  old := fun _ _ => rfl
  fam := fun b f cs h => by obtain ⟨ds, e⟩ := mkHeap_sta as 0 b _ h; cases e
  cel := fun b x h => by
    obtain ⟨ds, e⟩ := mkHeap_sta as 0 b _ h
    have := lt_of_get h
    exact ⟨_, ds, e, by omega⟩
/-- A function's answer over such lists: 'skip'. -/
noncomputable def seenO (call : CallFF) (g : Nat) (as : List OArg) (v : Value) : RC :=
  startO as ⟨0, deadT⟩ fun vs H => RC.rec (fun _ _ => RC.no) (fun _ _ _ => RC.no) (fun _ _ => RC.no) (fun u _ => Bool.rec RC.no RC.skip (vEq2 u v)) RC.no RC.no (call (.func (.func g) #[] #[]) vs H)
section
variable {P : Program} {okF : Nat → Bool}
theorem SpOk.ora (hF : ∀ f fn c, okF f = true → P.funcs[f]? = some fn → fn.body = some c → funcOk fn c = true) (hmix : P.follows .mixedOrders = true) {sp : Spec} (h : SpOk P sp) {G : Heap} {os : List Ora} (ho : ∀ o ∈ os, OraOK P G o) (n : Nat) :
    CallSound (evF P okF (oraF os (tabF sp)) n) (evB P (oraC os (tabC sp.get)) n) ∧ CallOK P (evB P (guardC G (oraC os (tabC sp.get))) n) ∧ CallGrow (evB P (guardC G (oraC os (tabC sp.get))) n) ∧
      Agr G (evB P (oraC os (tabC sp.get)) n) (evB P (guardC G (oraC os (tabC sp.get))) n) :=
  ⟨evF_sound hF (ora_base (tabF_sound h.ok)) n, evB_ok hmix (guard_ok (tabC_ok h.tab) ho) (guard_grow (oraC_grow (tabC_grow _))) n, evB_grow (guard_grow (oraC_grow (tabC_grow _))) n, evB_agr (oraC_sta (tabC_sta _)) n⟩
theorem SpOk.seenO (hF : ∀ f fn c, okF f = true → P.funcs[f]? = some fn → fn.body = some c → funcOk fn c = true) (hmix : P.follows .mixedOrders = true) {sp : Spec} (h : SpOk P sp) {as : List OArg} {os : List Ora} (ho : ∀ o ∈ os, OraOK P (mkHeap 0 (as.map OArg.arg)) o)
    {n g : Nat} {v : Value} (hi : immV v = true) (hs : seenO (evF P okF (oraF os (tabF sp)) n) g as v = RC.skip) : LineOK P g (as.map OArg.arg) (v, []) := by
  obtain ⟨c1, c2, _, c4⟩ := h.ora hF hmix ho n
  unfold Abs.seenO at hs
  rcases startO_or as ⟨0, deadT⟩ (fun vs H => RC.rec (fun _ _ => RC.no) (fun _ _ _ => RC.no) (fun _ _ => RC.no) (fun u _ => Bool.rec RC.no RC.skip (vEq2 u v)) RC.no RC.no (evF P okF (oraF os (tabF sp)) n (.func (.func g) #[] #[]) vs H)) dead_OK with e | ⟨H, hH, habs, e⟩
  · rw [e] at hs; cases hs
  rw [e] at hs
  have habs : absH H = mkHeap 0 (as.map OArg.arg) := by rw [habs]; rfl
  have e0 : mkVals (⟨0, deadT⟩ : FH).n (as.map OArg.arg) = mkVals 0 (as.map OArg.arg) := rfl
  rw [e0] at hs
  cases hr : evF P okF (oraF os (tabF sp)) n (.func (.func g) #[] #[]) (mkVals 0 (as.map OArg.arg)) H with
  | val u H' =>
    rw [hr] at hs
    simp only at hs
    cases hv : vEq2 u v with
    | false => rw [hv] at hs; cases hs
    | true =>
      obtain rfl := vEq2_sound hv
      obtain ⟨o1, o2⟩ := c1 _ _ _ _ _ hH hr
      rw [habs] at o2
      obtain ⟨o3, _⟩ := c4 _ _ _ _ _ (sta_self _) o2
      exact ⟨_, u, absH H', [], c2, o3, MV_imm hi, rfl, fun j b h => by simp at h, fun i j b c f cs ds _ h => by simp at h⟩
  | _ => rw [hr] at hs; cases hs
/-- What the world bears of an argument. -/
inductive ArgAt (w : World) : Arg → Value → Prop
  | imm {v v' : Value} (h : ∀ m, VR m v v') : ArgAt w (.imm v) v'
  | li {l : List Value} {g o cap : Nat} {C : Array Value} {el : TypeId} {fr : Nat × Nat} (h : w.heap[g]? = some (.cells C el fr)) (hl : l.length ≤ cap) (hc : o + cap ≤ C.size) (hv : ∀ i v, l[i]? = some v → C[o + i]? = some v) (hp : ∀ v ∈ l, plain v = true) :
      ArgAt w (.li l) (.slice (some ⟨g, o, none⟩) l.length cap)
theorem args_at {w : World} : ∀ {as : List Arg} {args' : List Value} (k : Nat), All2 (ArgAt w) as args' →
    ∃ locs : List Loc, locs.length = (mkHeap k as).length ∧ (∀ (i : Nat) (x : Blk) (l : Loc), (mkHeap k as)[i]? = some x → locs[i]? = some l → x.owned = false ∧ l.g < w.heap.size ∧ ∀ m', BR m' w l x) ∧
      ∀ ms : Mp, (∀ i, i < locs.length → ms (k + i) = locs[i]?) → All2 (VR ms) (mkVals k as) args' := by
  intro as
  induction as with
  | nil => intro args' k h; cases h; exact ⟨[], rfl, fun i x l hx => by simp [mkHeap] at hx, fun ms _ => .nil⟩
  | cons a as ih =>
    intro args' k h
    cases h with
    | cons ha ht =>
      cases ha with
      | imm hv =>
        obtain ⟨locs, e1, e2, e3⟩ := ih k ht
        exact ⟨locs, e1, e2, fun ms hms => .cons (hv ms) (e3 ms hms)⟩
      | @li l g o cap C el fr hh hl hc hcell hp =>
        obtain ⟨locs, e1, e2, e3⟩ := ih (k + 1) ht
        refine ⟨⟨g, o, C.size⟩ :: locs, by simp [mkHeap, e1], fun i x y hx hy => ?_, fun ms hms => .cons ?_ (e3 ms fun i hi => ?_)⟩
        · cases i with
          | zero =>
            simp [mkHeap] at hx hy
            subst hx; subst hy
            have hlt : g < w.heap.size := by
              apply Nat.lt_of_not_le
              intro hge
              rw [Array.getElem?_eq_none hge] at hh
              cases hh
            exact ⟨rfl, hlt, fun m' => ⟨C, el, fr, hh, rfl, (fun h => by cases h), fun i v hv => ⟨v, hcell i v hv, by
              have := VR.of_plain m' (hp v (List.mem_of_getElem? hv))
              cases this with
              | a h => cases h with
                | s h => exact h
                | agg h => have := hp _ (List.mem_of_getElem? hv); simp [plain] at this
              | tuple h => have := hp _ (List.mem_of_getElem? hv); simp [plain] at this⟩⟩⟩
          | succ i => exact e2 i x y (by simpa [mkHeap] using hx) (by simpa using hy)
        · have h0 := hms 0 (by simp)
          simp at h0
          have := SR.slice (m := ms) k 0 l.length 1 cap ⟨g, o, C.size⟩ h0 hl (by simp; omega)
          exact .a (.s this)
        · have := hms (i + 1) (by simp; omega)
          rw [show k + (i + 1) = k + 1 + i by omega] at this
          simpa using this
theorem rows_rel {w : World} {as : List Arg} {args' : List Value} (h : All2 (ArgAt w) as args') : ∃ m, Rel m (mkHeap 0 as) w ∧ All2 (VR m) (mkVals 0 as) args' ∧ ∀ g, ¬ Owned m (mkHeap 0 as) g := by
  obtain ⟨locs, la, lb, lc⟩ := args_at 0 h
  refine ⟨fun b => locs[b]?, ?_, lc _ fun i hi => by simp, ?_⟩
  · exact {
      len := fun b l hb => by have := lt_of_get hb; omega
      has := fun b x hx _ => by
        have := lt_of_get hx
        exact ⟨locs[b]'(by omega), List.getElem?_eq_getElem _⟩
      bnd := fun b l hb => by
        have := lt_of_get hb
        exact (lb b _ l (List.getElem?_eq_getElem (by omega)) hb).2.1
      blk := fun b x l hx hb => (lb b x l hx hb).2.2 _
      sep := fun b c x y l k _ hx hy hb hc ho => by have := (lb b x l hx hb).1; rw [this] at ho; cases ho }
  · rintro g ⟨b, x, l, h1, h2, h3, _⟩
    have := (lb b x l h1 h2).1
    rw [this] at h3; cases h3
open Go.RowKit in
/-- A law over lists, from the evaluator's answer. -/
theorem law_args (hmix : P.follows .mixedOrders = true) {call : CallF} (hcall : CallOK P call) (hg : CallGrow call) {n f : Nat} {as : List Arg} {H' : Heap} (h : evBody P call n (.func (.func f) #[] #[]) (mkVals 0 as) (mkHeap 0 as) = some (.bool true, H'))
    {w : World} {args : Array Value} (ha : All2 (ArgAt w) as args.toList) : Calls P f args w fun e w' => e = .returned (.bool true) ∧ Below w.heap.size w w' := by
  obtain ⟨m, hR, hargs, hno⟩ := rows_rel ha
  obtain ⟨m', w', v', s1, s2, s3⟩ := body_calls hmix hcall hg h hR hargs
  obtain rfl := s2.plain rfl
  have hB : Below w.heap.size w w' := ⟨s1.keep.os, s1.keep.tape, s1.keep.output, s1.keep.size, fun k hk => s1.keep.block k hk (hno k)⟩
  refine fun cs => ?_
  obtain ⟨e, w2, fr, ⟨rfl, rfl⟩, h2⟩ := s3 cs
  exact ⟨_, _, fr, ⟨rfl, hB⟩, h2⟩
/-- A law's run over lists that are looked into, and over ones that are not: 'skip'. -/
noncomputable def topC (P : Program) (okF : Nat → Bool) (call : CallFF) (n f : Nat) (as : List Arg) : RC :=
  startK as fun vs H => RC.rec (fun _ _ => RC.no) (fun _ _ _ => RC.no) (fun _ _ => RC.no) (fun u _ => Bool.rec RC.no RC.skip (vEq2 u (.bool true))) RC.no RC.no (bodyK P okF call n (.func (.func f) #[] #[]) vs H)
noncomputable def topO (P : Program) (okF : Nat → Bool) (call : CallFF) (n f : Nat) (as : List OArg) : RC :=
  startO as ⟨0, deadT⟩ fun vs H => RC.rec (fun _ _ => RC.no) (fun _ _ _ => RC.no) (fun _ _ => RC.no) (fun u _ => Bool.rec RC.no RC.skip (vEq2 u (.bool true))) RC.no RC.no (bodyK P okF call n (.func (.func f) #[] #[]) vs H)
open Go.RowKit in
theorem SpOk.topC (hF : ∀ f fn c, okF f = true → P.funcs[f]? = some fn → fn.body = some c → funcOk fn c = true) (hmix : P.follows .mixedOrders = true) {sp : Spec} (h : SpOk P sp) {n f : Nat} {as : List Arg}
    (hs : topC P okF (evF P okF (tabF sp) n) n f as = RC.skip) {w : World} {args : Array Value} (ha : All2 (ArgAt w) as args.toList) : Calls P f args w fun e w' => e = .returned (.bool true) ∧ Below w.heap.size w w' := by
  obtain ⟨c1, c2, c3⟩ := h.calls hF hmix n
  unfold Abs.topC startK at hs
  rcases startR_or as ⟨0, deadT⟩ (fun vs H => RC.rec (fun _ _ => RC.no) (fun _ _ _ => RC.no) (fun _ _ => RC.no) (fun u _ => Bool.rec RC.no RC.skip (vEq2 u (.bool true))) RC.no RC.no (bodyK P okF (evF P okF (tabF sp) n) n (.func (.func f) #[] #[]) vs H)) dead_OK with e | ⟨H, hH, habs, e⟩
  · rw [e] at hs; cases hs
  rw [e] at hs
  have habs : absH H = mkHeap 0 as := by rw [habs]; rfl
  have e0 : mkVals (⟨0, deadT⟩ : FH).n as = mkVals 0 as := rfl
  rw [e0] at hs
  cases hr : bodyK P okF (evF P okF (tabF sp) n) n (.func (.func f) #[] #[]) (mkVals 0 as) H with
  | val u H' =>
    rw [hr] at hs
    simp only at hs
    cases hv : vEq2 u (.bool true) with
    | false => rw [hv] at hs; cases hs
    | true =>
      obtain rfl := vEq2_sound hv
      obtain ⟨_, o2⟩ := bodyK_sound hF c1 n _ _ _ _ _ hH hr
      rw [habs] at o2
      exact law_args hmix c2 c3 o2 ha
  | _ => rw [hr] at hs; cases hs
open Go.RowKit in
theorem SpOk.topO (hF : ∀ f fn c, okF f = true → P.funcs[f]? = some fn → fn.body = some c → funcOk fn c = true) (hmix : P.follows .mixedOrders = true) {sp : Spec} (h : SpOk P sp) {as : List OArg} {os : List Ora} (ho : ∀ o ∈ os, OraOK P (mkHeap 0 (as.map OArg.arg)) o) {n f : Nat}
    (hs : topO P okF (evF P okF (oraF os (tabF sp)) n) n f as = RC.skip) {w : World} {args : Array Value} (ha : All2 (ArgAt w) (as.map OArg.arg) args.toList) : Calls P f args w fun e w' => e = .returned (.bool true) ∧ Below w.heap.size w w' := by
  obtain ⟨c1, c2, c3, c4⟩ := h.ora hF hmix ho n
  unfold Abs.topO at hs
  rcases startO_or as ⟨0, deadT⟩ (fun vs H => RC.rec (fun _ _ => RC.no) (fun _ _ _ => RC.no) (fun _ _ => RC.no) (fun u _ => Bool.rec RC.no RC.skip (vEq2 u (.bool true))) RC.no RC.no (bodyK P okF (evF P okF (oraF os (tabF sp)) n) n (.func (.func f) #[] #[]) vs H)) dead_OK with e | ⟨H, hH, habs, e⟩
  · rw [e] at hs; cases hs
  rw [e] at hs
  have habs : absH H = mkHeap 0 (as.map OArg.arg) := by rw [habs]; rfl
  have e0 : mkVals (⟨0, deadT⟩ : FH).n (as.map OArg.arg) = mkVals 0 (as.map OArg.arg) := rfl
  rw [e0] at hs
  cases hr : bodyK P okF (evF P okF (oraF os (tabF sp)) n) n (.func (.func f) #[] #[]) (mkVals 0 (as.map OArg.arg)) H with
  | val u H' =>
    rw [hr] at hs
    simp only at hs
    cases hv : vEq2 u (.bool true) with
    | false => rw [hv] at hs; cases hs
    | true =>
      obtain rfl := vEq2_sound hv
      obtain ⟨_, o2⟩ := bodyK_sound hF c1 n _ _ _ _ _ hH hr
      rw [habs] at o2
      obtain ⟨o3, _⟩ := body_agr c4 n _ _ _ _ _ (sta_self _) o2
      exact law_args hmix c2 c3 o3 ha
  | _ => rw [hr] at hs; cases hs
end
end Go.Abs
/- Laws over lists of which the length alone is asked. -/
namespace Go.Abs
inductive BArg where
  | imm (v : Value)
  | big (n : Nat)
def bVals (k : Nat) : List BArg → List Value
  | [] => []
  | .imm v :: r => v :: bVals k r
  | .big n :: r => sliceA k 0 n 1 :: bVals (k + 1) r
def bHeap (k : Nat) : List BArg → Heap
  | [] => []
  | .imm _ :: r => bHeap k r
  | .big _ :: r => .cells k false [] :: bHeap (k + 1) r
noncomputable def startB (as : List BArg) : FH → (List Value → FH → RC) → RC :=
  List.rec (motive := fun _ => FH → (List Value → FH → RC) → RC) (fun H k => k [] H) (fun a _ ih H k => BArg.rec (motive := fun _ => RC) (fun v => ih H fun vs H => k (v :: vs) H)
    (fun n => pushK H (fun i => ⟨.cells i false 0 blank, 0, [i]⟩) fun i H => ih H fun vs H => k (.slice (some ⟨i, 0, none⟩) n 1 :: vs) H) a) as
theorem startB_or : ∀ (as : List BArg) (H : FH) (k : List Value → FH → RC), H.OK → startB as H k = RC.no ∨ ∃ H', H'.OK ∧ absH H' = absH H ++ bHeap H.n as ∧ startB as H k = k (bVals H.n as) H' := by
  intro as
  induction as with
  | nil => intro H k hH; exact .inr ⟨H, hH, by simp [bHeap], rfl⟩
  | cons a as ih =>
    intro H k hH
    cases a with
    | imm v => exact ih H (fun vs H => k (v :: vs) H) hH
    | big n =>
      have e : startB (.big n :: as) H k = pushK H (fun i => ⟨.cells i false 0 blank, 0, [i]⟩) fun i H => startB as H fun vs H => k (.slice (some ⟨i, 0, none⟩) n 1 :: vs) H := rfl
      rw [e]
      rcases pushK_or H (fun i => (⟨.cells i false 0 blank, 0, [i]⟩ : Nd)) (fun i H => startB as H fun vs H => k (.slice (some ⟨i, 0, none⟩) n 1 :: vs) H) with h | ⟨hlt, h⟩
      · exact .inl h
      have hok := OK_push hH hlt (⟨.cells H.n false 0 blank, 0, [H.n]⟩ : Nd) (BOK_new hlt (Nat.zero_le _))
      have habs := absH_push hlt (⟨.cells H.n false 0 blank, 0, [H.n]⟩ : Nd)
      rcases ih (H.push ⟨.cells H.n false 0 blank, 0, [H.n]⟩) (fun vs H' => k (.slice (some ⟨H.n, 0, none⟩) n 1 :: vs) H') hok with h2 | ⟨H', e1, e2, e3⟩
      · exact .inl (h.trans h2)
      · refine .inr ⟨H', e1, ?_, h.trans e3⟩
        rw [e2, habs]
        have h0 : toL 0 (blank : FT) = [] := List.length_eq_zero_iff.1 (toL_length ..)
        simp only [absB, bHeap, h0]
        show _ = absH H ++ (.cells H.n false [] :: bHeap (H.n + 1) as)
        simp
        rfl
/-- What the world bears of an argument. -/
inductive BAt (w : World) : BArg → Value → Prop
  | imm {v v' : Value} (h : ∀ m, VR m v v') : BAt w (.imm v) v'
  | big {n g o cap : Nat} {C : Array Value} {el : TypeId} {fr : Nat × Nat} (h : w.heap[g]? = some (.cells C el fr)) (hl : n ≤ cap) (hc : o + cap ≤ C.size) : BAt w (.big n) (.slice (some ⟨g, o, none⟩) n cap)
theorem BAt.of {w : World} {l : List Value} {v : Value} (h : ArgAt w (.li l) v) : BAt w (.big l.length) v := by
  cases h with
  | li h hl hc _ _ => exact .big h hl hc
theorem BAt.of_imm {w : World} {u v : Value} (h : ArgAt w (.imm u) v) : BAt w (.imm u) v := by
  cases h with
  | imm h => exact .imm h
theorem bargs_at {w : World} : ∀ {as : List BArg} {args' : List Value} (k : Nat), All2 (BAt w) as args' →
    ∃ locs : List Loc, locs.length = (bHeap k as).length ∧ (∀ (i : Nat) (x : Blk) (l : Loc), (bHeap k as)[i]? = some x → locs[i]? = some l → x.owned = false ∧ l.g < w.heap.size ∧ ∀ m', BR m' w l x) ∧
      ∀ ms : Mp, (∀ i, i < locs.length → ms (k + i) = locs[i]?) → All2 (VR ms) (bVals k as) args' := by
  intro as
  induction as with
  | nil => intro args' k h; cases h; exact ⟨[], rfl, fun i x l hx => by simp [bHeap] at hx, fun ms _ => .nil⟩
  | cons a as ih =>
    intro args' k h
    cases h with
    | cons ha ht =>
      cases ha with
      | imm hv =>
        obtain ⟨locs, e1, e2, e3⟩ := ih k ht
        exact ⟨locs, e1, e2, fun ms hms => .cons (hv ms) (e3 ms hms)⟩
      | @big n g o cap C el fr hh hl hc =>
        obtain ⟨locs, e1, e2, e3⟩ := ih (k + 1) ht
        refine ⟨⟨g, o, C.size⟩ :: locs, by simp [bHeap, e1], fun i x y hx hy => ?_, fun ms hms => .cons ?_ (e3 ms fun i hi => ?_)⟩
        · cases i with
          | zero =>
            simp [bHeap] at hx hy
            subst hx; subst hy
            have hlt : g < w.heap.size := by
              apply Nat.lt_of_not_le
              intro hge
              rw [Array.getElem?_eq_none hge] at hh
              cases hh
            exact ⟨rfl, hlt, fun m' => ⟨C, el, fr, hh, rfl, (fun h => by cases h), fun i v hv => by simp at hv⟩⟩
          | succ i => exact e2 i x y (by simpa [bHeap] using hx) (by simpa using hy)
        · have h0 := hms 0 (by simp)
          simp at h0
          have := SR.slice (m := ms) k 0 n 1 cap ⟨g, o, C.size⟩ h0 hl (by simp; omega)
          exact .a (.s this)
        · have := hms (i + 1) (by simp; omega)
          rw [show k + (i + 1) = k + 1 + i by omega] at this
          simpa using this
theorem brows_rel {w : World} {as : List BArg} {args' : List Value} (h : All2 (BAt w) as args') : ∃ m, Rel m (bHeap 0 as) w ∧ All2 (VR m) (bVals 0 as) args' ∧ ∀ g, ¬ Owned m (bHeap 0 as) g := by
  obtain ⟨locs, la, lb, lc⟩ := bargs_at 0 h
  refine ⟨fun b => locs[b]?, ?_, lc _ fun i hi => by simp, ?_⟩
  · exact {
      len := fun b l hb => by have := lt_of_get hb; omega
      has := fun b x hx _ => by
        have := lt_of_get hx
        exact ⟨locs[b]'(by omega), List.getElem?_eq_getElem _⟩
      bnd := fun b l hb => by
        have := lt_of_get hb
        exact (lb b _ l (List.getElem?_eq_getElem (by omega)) hb).2.1
      blk := fun b x l hx hb => (lb b x l hx hb).2.2 _
      sep := fun b c x y l k _ hx hy hb hc ho => by have := (lb b x l hx hb).1; rw [this] at ho; cases ho }
  · rintro g ⟨b, x, l, h1, h2, h3, _⟩
    have := (lb b x l h1 h2).1
    rw [this] at h3; cases h3
section
variable {P : Program} {okF : Nat → Bool}
noncomputable def topB (P : Program) (okF : Nat → Bool) (call : CallFF) (n f : Nat) (as : List BArg) : RC :=
  startB as ⟨0, deadT⟩ fun vs H => RC.rec (fun _ _ => RC.no) (fun _ _ _ => RC.no) (fun _ _ => RC.no) (fun u _ => Bool.rec RC.no RC.skip (vEq2 u (.bool true))) RC.no RC.no (bodyK P okF call n (.func (.func f) #[] #[]) vs H)
open Go.RowKit in
theorem SpOk.topB (hF : ∀ f fn c, okF f = true → P.funcs[f]? = some fn → fn.body = some c → funcOk fn c = true) (hmix : P.follows .mixedOrders = true) {sp : Spec} (h : SpOk P sp) {n f : Nat} {as : List BArg}
    (hs : topB P okF (evF P okF (tabF sp) n) n f as = RC.skip) {w : World} {args : Array Value} (ha : All2 (BAt w) as args.toList) : Calls P f args w fun e w' => e = .returned (.bool true) ∧ Below w.heap.size w w' := by
  obtain ⟨c1, c2, c3⟩ := h.calls hF hmix n
  unfold Abs.topB at hs
  rcases startB_or as ⟨0, deadT⟩ (fun vs H => RC.rec (fun _ _ => RC.no) (fun _ _ _ => RC.no) (fun _ _ => RC.no) (fun u _ => Bool.rec RC.no RC.skip (vEq2 u (.bool true))) RC.no RC.no (bodyK P okF (evF P okF (tabF sp) n) n (.func (.func f) #[] #[]) vs H)) dead_OK with e | ⟨H, hH, habs, e⟩
  · rw [e] at hs; cases hs
  rw [e] at hs
  have habs : absH H = bHeap 0 as := by rw [habs]; rfl
  have e0 : bVals (⟨0, deadT⟩ : FH).n as = bVals 0 as := rfl
  rw [e0] at hs
  cases hr : bodyK P okF (evF P okF (tabF sp) n) n (.func (.func f) #[] #[]) (bVals 0 as) H with
  | val u H' =>
    rw [hr] at hs
    simp only at hs
    cases hv : vEq2 u (.bool true) with
    | false => rw [hv] at hs; cases hs
    | true =>
      obtain rfl := vEq2_sound hv
      obtain ⟨_, o2⟩ := bodyK_sound hF c1 n _ _ _ _ _ hH hr
      rw [habs] at o2
      obtain ⟨m, hR, hargs, hno⟩ := brows_rel ha
      obtain ⟨m', w', v', s1, s2, s3⟩ := body_calls hmix c2 c3 o2 hR hargs
      obtain rfl := s2.plain rfl
      have hB : Below w.heap.size w w' := ⟨s1.keep.os, s1.keep.tape, s1.keep.output, s1.keep.size, fun k hk => s1.keep.block k hk (hno k)⟩
      refine fun cs => ?_
      obtain ⟨e, w2, fr, ⟨rfl, rfl⟩, h2⟩ := s3 cs
      exact ⟨_, _, fr, ⟨rfl, hB⟩, h2⟩
  | _ => rw [hr] at hs; cases hs
end
end Go.Abs
