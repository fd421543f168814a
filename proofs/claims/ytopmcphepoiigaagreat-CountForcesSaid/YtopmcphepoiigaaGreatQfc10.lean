/- Of the law: texts of its proof, joined (part 10). -/
import Derived.Test.YtopmcphepoiigaaGreatQfc9
set_option linter.all false
namespace Go.Proofs.YtopmcphepoiigaaGreat
open Go Go.Abs
def posV (n : Nat) : Value := .int .i64 (Int.ofNat n)
def nilV : Value := .slice none 0 0
def i (n : Nat) : Arg := .imm (posV n)
def lo : Arg := .imm lostSlice
def L (l : List Nat) : Arg := .li (l.map posV)
def trueR : Res := (.bool true, [])
noncomputable def run (sp : Abs.Spec) : CallFF := evF Tryz.prog okN (tabF sp) 200
def Seen (sp : Abs.Spec) (g : Nat) (l : List Line) : Prop := allK l (fun x => seenK (run sp) g x.1 x.2) = RC.skip
abbrev Ok (sp : Abs.Spec) : Prop := SpOk Tryz.prog sp
theorem ok_of {sp : Abs.Spec} (h : Ok sp) {g : Nat} {l : List Line} (hs : Seen sp g l) : ∀ x ∈ l, LineOK Tryz.prog g x.1 x.2 := h.seen hF hmix hs
noncomputable def lay (sp : Abs.Spec) (g : Nat) (l : List Line) : Abs.Spec := sp.add g (linesT (treeOf l))
theorem ok_lay {sp : Abs.Spec} (h : Ok sp) {g : Nat} {l : List Line} (hl : ∀ x ∈ l, LineOK Tryz.prog g x.1 x.2) : Ok (lay sp g l) := h.add fun _ _ hr => hl _ (linesT_get hr)
theorem lines_append {g : Nat} {l m : List Line} (hl : ∀ x ∈ l, LineOK Tryz.prog g x.1 x.2) (hm : ∀ x ∈ m, LineOK Tryz.prog g x.1 x.2) : ∀ x ∈ l ++ m, LineOK Tryz.prog g x.1 x.2 := fun x hx => (List.mem_append.1 hx).elim (hl x) (hm x)
def isTrue (r : RC) : Bool := match r with
  | .val (.bool true) _ => true
  | _ => false
end Go.Proofs.YtopmcphepoiigaaGreat
