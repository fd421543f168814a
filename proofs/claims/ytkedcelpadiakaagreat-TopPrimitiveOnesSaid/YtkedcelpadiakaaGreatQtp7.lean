/- Of the law: texts of its proof, joined (part 7). -/
import Derived.Test.YtkedcelpadiakaaGreatQtp6
set_option linter.all false
namespace Go.Proofs.YtkedcelpadiakaaGreat
open Go Go.Abs
def posV (n : Nat) : Value := .int .i64 (Int.ofNat n)
def nilV : Value := .slice none 0 0
def sl (l : List Value) : Res := (sliceA 0 0 l.length 1, [l])
def i (n : Nat) : Arg := .imm (posV n)
def ni : Arg := .imm nilV
def lo : Arg := .imm lostSlice
def L (l : List Nat) : Arg := .li (l.map posV)
def strR (l : List Nat) : Res := (.string ⟨⟨l.map UInt8.ofNat⟩⟩, [])
def trueR : Res := (.bool true, [])
noncomputable def run (sp : Abs.Spec) : CallFF := evF Tryz.prog okN (tabF sp) 200
def Seen (sp : Abs.Spec) (g : Nat) (l : List Line) : Prop := allK l (fun x => seenK (run sp) g x.1 x.2) = RC.skip
abbrev Ok (sp : Abs.Spec) : Prop := SpOk Tryz.prog sp
theorem ok_of {sp : Abs.Spec} (h : Ok sp) {g : Nat} {l : List Line} (hs : Seen sp g l) : ∀ x ∈ l, LineOK Tryz.prog g x.1 x.2 := h.seen hF hmix hs
noncomputable def lay (sp : Abs.Spec) (g : Nat) (l : List Line) : Abs.Spec := sp.add g (linesT (treeOf l))
theorem ok_lay {sp : Abs.Spec} (h : Ok sp) {g : Nat} {l : List Line} (hl : ∀ x ∈ l, LineOK Tryz.prog g x.1 x.2) : Ok (lay sp g l) := h.add fun _ _ hr => hl _ (linesT_get hr)
theorem lines_append {g : Nat} {l m : List Line} (hl : ∀ x ∈ l, LineOK Tryz.prog g x.1 x.2) (hm : ∀ x ∈ m, LineOK Tryz.prog g x.1 x.2) : ∀ x ∈ l ++ m, LineOK Tryz.prog g x.1 x.2 := fun x hx => (List.mem_append.1 hx).elim (hl x) (hm x)
noncomputable def topK (sp : Abs.Spec) (f : Nat) (args : List Value) : RC := bodyK Tryz.prog okN (run sp) 200 (.func (.func f) #[] #[]) args ⟨0, deadT⟩
def isTrue (r : RC) : Bool := match r with
  | .val (.bool true) _ => true
  | _ => false
open Go.RowKit in
theorem top_ints {sp : Abs.Spec} (h : Ok sp) {f : Nat} {args : List Value} (hr : isTrue (topK sp f args) = true) (hp : ∀ v ∈ args, plain v = true) (w : World) :
    Calls Tryz.prog f ⟨args⟩ w fun e w' => e = .returned (.bool true) ∧ Below w.heap.size w w' := by
  unfold isTrue at hr
  split at hr
  · rename_i H' he; exact law_ints hF hmix h he hp w
  · cases hr
end Go.Proofs.YtkedcelpadiakaaGreat
