/- Tables put together; lists of lines; the top of a law. -/
import Derived.Test.YtmmgdgmjkhcfaaaFastQ
import Derived.Test.YtmmgdgmjkhcfaaaEngV
namespace Go.Abs
structure SpOk (P : Program) (sp : Spec) : Prop where
  ok : sp.Ok
  tab : TabOK P sp.get
theorem noSpec_good (P : Program) : SpOk P noSpec := ⟨fun _ _ _ => rfl, fun _ _ _ h => by cases h⟩
noncomputable def Spec.add (sp : Spec) (g : Nat) (t : List Arg → Option Res) : Spec := ⟨sp.has ||| 1 <<< g, fun f as => Bool.rec (sp.get f as) (Option.rec (sp.get f as) (fun r => some r) (t as)) (Nat.beq f g)⟩
theorem SpOk.add {P : Program} {sp : Spec} (h : SpOk P sp) {g : Nat} {t : List Arg → Option Res} (ht : ∀ as r, t as = some r → LineOK P g as r) : SpOk P (sp.add g t) := by
  constructor
  · intro f as hf
    have hf : (sp.has ||| 1 <<< g).testBit f = false := hf
    rw [Nat.testBit_or, Bool.or_eq_false_iff, Nat.testBit_shiftLeft] at hf
    have hne : f ≠ g := by
      rintro rfl
      simp at hf
    show (Bool.rec (sp.get f as) (Option.rec (sp.get f as) (fun r => some r) (t as)) (Nat.beq f g) : Option Res) = none
    cases hb : Nat.beq f g with
    | true => exact absurd (Nat.eq_of_beq_eq_true hb) hne
    | false => exact h.ok f as hf.1
  · intro f as r hr
    have hr : (Bool.rec (sp.get f as) (Option.rec (sp.get f as) (fun r => some r) (t as)) (Nat.beq f g) : Option Res) = some r := hr
    cases hb : Nat.beq f g with
    | false => rw [hb] at hr; exact h.tab f as r hr
    | true =>
      have hr2 : (Option.rec (sp.get f as) (fun r => some r) (t as) : Option Res) = some r := by rw [hb] at hr; exact hr
      have := Nat.eq_of_beq_eq_true hb
      subst this
      cases ht2 : t as with
      | none => rw [ht2] at hr2; exact h.tab f as r hr2
      | some r2 => rw [ht2] at hr2; cases hr2; exact ht as _ ht2
section
variable {P : Program} {okF : Nat → Bool}
theorem SpOk.calls (hF : ∀ f fn c, okF f = true → P.funcs[f]? = some fn → fn.body = some c → funcOk fn c = true) (hmix : P.follows .mixedOrders = true) {sp : Spec} (h : SpOk P sp) (n : Nat) :
    CallSound (evF P okF (tabF sp) n) (evB P (tabC sp.get) n) ∧ CallOK P (evB P (tabC sp.get) n) ∧ CallGrow (evB P (tabC sp.get) n) :=
  ⟨evF_sound hF (tabF_sound h.ok) n, evB_ok hmix (tabC_ok h.tab) (tabC_grow _) n, evB_grow (tabC_grow _) n⟩
theorem SpOk.line (hF : ∀ f fn c, okF f = true → P.funcs[f]? = some fn → fn.body = some c → funcOk fn c = true) (hmix : P.follows .mixedOrders = true) {sp : Spec} (h : SpOk P sp) {n g : Nat} {as : List Arg} {r : Res}
    (hs : seenK (evF P okF (tabF sp) n) g as r = RC.skip) : LineOK P g as r :=
  seenK_sound (h.calls hF hmix n).1 (h.calls hF hmix n).2.1 hs
end
/-- All of a list. -/
noncomputable def allK {α : Type} (l : List α) (f : α → RC) : RC := List.rec RC.skip (fun x _ ih => RC.rec (fun _ _ => RC.no) (fun _ _ _ => RC.no) (fun _ _ => RC.no) (fun _ _ => RC.no) ih RC.no (f x)) l
theorem allK_get {α : Type} {l : List α} {f : α → RC} (h : allK l f = RC.skip) : ∀ x ∈ l, f x = RC.skip := by
  induction l with
  | nil => intro x hx; cases hx
  | cons y l ih =>
    have h : (RC.rec (fun _ _ => RC.no) (fun _ _ _ => RC.no) (fun _ _ => RC.no) (fun _ _ => RC.no) (allK l f) RC.no (f y) : RC) = RC.skip := h
    cases hy : f y with
    | skip =>
      rw [hy] at h
      intro x hx
      rcases List.mem_cons.1 hx with rfl | hx
      · exact hy
      · exact ih h x hx
    | _ => rw [hy] at h; cases h
/-- Equality of arguments, by recursors alone. -/
noncomputable def intsEq : List Value → List Value → Bool :=
  List.rec (motive := fun _ => List Value → Bool) (fun us => List.rec true (fun _ _ _ => false) us) (fun v _ ih us => List.rec false (fun u us _ => Bool.rec false (ih us) (sEq v u)) us)
theorem intsEq_sound : ∀ {l m : List Value}, intsEq l m = true → l = m := by
  intro l
  induction l with
  | nil => intro m h; cases m with | nil => rfl | cons => cases h
  | cons v l ih =>
    intro m h
    cases m with
    | nil => cases h
    | cons u m =>
      have h : (Bool.rec false (intsEq l m) (sEq v u) : Bool) = true := h
      cases hs : sEq v u with
      | false => rw [hs] at h; cases h
      | true => rw [hs] at h; rw [sEq_sound hs, ih h]
/- The top of a law: over numbers alone. -/
open Go.RowKit in
theorem law_ints {P : Program} {okF : Nat → Bool} (hF : ∀ f fn c, okF f = true → P.funcs[f]? = some fn → fn.body = some c → funcOk fn c = true) (hmix : P.follows .mixedOrders = true) {sp : Spec} (h : SpOk P sp) {n f : Nat} {args : List Value} {H' : FH}
    (hr : bodyK P okF (evF P okF (tabF sp) n) n (.func (.func f) #[] #[]) args ⟨0, deadT⟩ = .val (.bool true) H') (hp : ∀ v ∈ args, plain v = true) (w : World) :
    Calls P f ⟨args⟩ w fun e w' => e = .returned (.bool true) ∧ Below w.heap.size w w' := by
  obtain ⟨c1, c2, c3⟩ := h.calls hF hmix n
  obtain ⟨_, e⟩ := bodyK_sound hF c1 n _ _ _ _ _ dead_OK hr
  exact law_nil hmix c2 c3 e hp w
end Go.Abs
