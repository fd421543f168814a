/- Of the law: texts of its proof, joined (part 6). -/
import Derived.Test.YtmmgdgmjkhcfaaaQst5
set_option linter.all false
namespace Go.Proofs.Ytmmgdgmjkhcfaaa
open Go Go.Abs
def posV (n : Nat) : Value := .int .i64 (Int.ofNat n)
def i (n : Nat) : Arg := .imm (posV n)
def lo : Arg := .imm lostSlice
def L (l : List Nat) : Arg := .li (l.map posV)
def trueR : Res := (.bool true, [])
noncomputable def run (sp : Abs.Spec) : CallFF := evF Try.prog okN (tabF sp) 200
def Seen (sp : Abs.Spec) (g : Nat) (l : List Line) : Prop := allK l (fun x => seenK (run sp) g x.1 x.2) = RC.skip
abbrev Ok (sp : Abs.Spec) : Prop := SpOk Try.prog sp
theorem ok_of {sp : Abs.Spec} (h : Ok sp) {g : Nat} {l : List Line} (hs : Seen sp g l) : ∀ x ∈ l, LineOK Try.prog g x.1 x.2 := h.seen hF hmix hs
noncomputable def lay (sp : Abs.Spec) (g : Nat) (l : List Line) : Abs.Spec := sp.add g (linesT (treeOf l))
def isTrue (r : RC) : Bool := match r with
  | .val (.bool true) _ => true
  | _ => false
end Go.Proofs.Ytmmgdgmjkhcfaaa
