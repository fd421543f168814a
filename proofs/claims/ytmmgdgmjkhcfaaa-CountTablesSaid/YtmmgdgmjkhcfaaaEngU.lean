/- Equality of answers and arguments; sound tables. -/
import Derived.Test.YtmmgdgmjkhcfaaaEngT
import Derived.KernelRfl
namespace Go.Abs
def aEq2 : Value → Value → Bool
  | .agg a, .agg b => listEq a.toList b.toList
  | a, b => sEq a b
def aEqs : List Value → List Value → Bool
  | [], [] => true
  | a :: l, b :: m => aEq2 a b && aEqs l m
  | _, _ => false
def vEq2 : Value → Value → Bool
  | .tuple a, .tuple b => aEqs a.toList b.toList
  | a, b => aEq2 a b
def lEq : List (List Value) → List (List Value) → Bool
  | [], [] => true
  | a :: l, b :: m => aEqs a b && lEq l m
  | _, _ => false
def rEq (a b : Res) : Bool := vEq2 a.1 b.1 && lEq a.2 b.2
theorem aEq2_sound {a b : Value} (h : aEq2 a b = true) : a = b := by
  unfold aEq2 at h
  split at h
  · rename_i x y
    have := listEq_sound h
    cases x; cases y; simp at this; rw [this]
  · exact sEq_sound h
theorem aEqs_sound : ∀ {l m : List Value}, aEqs l m = true → l = m := by
  intro l
  induction l with
  | nil => intro m h; cases m with | nil => rfl | cons _ _ => simp [aEqs] at h
  | cons x l ih =>
    intro m h
    cases m with
    | nil => simp [aEqs] at h
    | cons y m => simp only [aEqs, Bool.and_eq_true] at h; rw [aEq2_sound h.1, ih h.2]
theorem vEq2_sound {a b : Value} (h : vEq2 a b = true) : a = b := by
  unfold vEq2 at h
  split at h
  · rename_i x y
    have := aEqs_sound h
    cases x; cases y; simp at this; rw [this]
  · exact aEq2_sound h
theorem lEq_sound : ∀ {l m : List (List Value)}, lEq l m = true → l = m := by
  intro l
  induction l with
  | nil => intro m h; cases m with | nil => rfl | cons _ _ => simp [lEq] at h
  | cons x l ih =>
    intro m h
    cases m with
    | nil => simp [lEq] at h
    | cons y m => simp only [lEq, Bool.and_eq_true] at h; rw [aEqs_sound h.1, ih h.2]
theorem rEq_sound {a b : Res} (h : rEq a b = true) : a = b := by
  unfold rEq at h
  simp only [Bool.and_eq_true] at h
  cases a; cases b
  simp only at h
  rw [vEq2_sound h.1, lEq_sound h.2]
def argEq : Arg → Arg → Bool
  | .imm a, .imm b => sEq a b
  | .li a, .li b => listEq a b
  | _, _ => false
theorem argEq_sound {a b : Arg} (h : argEq a b = true) : a = b := by
  unfold argEq at h
  split at h
  · rw [sEq_sound h]
  · rw [listEq_sound h]
  · cases h
def argsEq : List Arg → List Arg → Bool
  | [], [] => true
  | a :: l, b :: m => argEq a b && argsEq l m
  | _, _ => false
theorem argsEq_sound : ∀ {l m : List Arg}, argsEq l m = true → l = m := by
  intro l
  induction l with
  | nil => intro m h; cases m with | nil => rfl | cons _ _ => simp [argsEq] at h
  | cons x l ih =>
    intro m h
    cases m with
    | nil => simp [argsEq] at h
    | cons y m => simp only [argsEq, Bool.and_eq_true] at h; rw [argEq_sound h.1, ih h.2]
/-- A table's lines are all sound. -/
def TabOK (P : Program) (spec : Nat → List Arg → Option Res) : Prop := ∀ f as r, spec f as = some r → LineOK P f as r
end Go.Abs
