/- Of the law: texts of its proof, joined (part 6). -/
import Derived.Test.YtkedcelpadiakaaGreatQap5
set_option linter.all false
namespace Go.Proofs.YtkedcelpadiakaaGreat
open Go Go.Abs
def bigB : Nat := 100000000
def digs : Nat → Nat → List Nat
  | 0, _ => []
  | f + 1, n => bif Nat.beq n 0 then [] else (n % bigB) :: digs f (n / bigB)
def posV (n : Nat) : Value := .int .i64 (Int.ofNat n)
def negV (n : Nat) : Value := .int .i64 (bif Nat.beq n 0 then Int.ofNat 0 else Int.negSucc (Nat.sub n 1))
def nilV : Value := .slice none 0 0
def numA (c : Nat) : Arg :=
  bif Nat.beq c 0 then .imm nilV else bif Nat.beq c 1 then .li [] else bif Nat.beq c 2 then .imm lostSlice
  else bif Nat.beq (c % 2) 1 then .li ((digs 9 (c / 2)).map posV) else .li ((digs 9 (c / 2 - 1)).map negV)
def valC (c : Nat) : Int := bif Nat.ble c 2 then 0 else bif Nat.beq (c % 2) 1 then Int.ofNat (c / 2) else Int.negSucc (c / 2 - 2)
def dZ (z : Int) : List Value := match z with
  | .ofNat n => (digs 9 n).map posV
  | .negSucc n => (digs 9 (n + 1)).map negV
def sl (l : List Value) : Res := (sliceA 0 0 l.length 1, [l])
def pN (z : Int) : Res := match dZ z with
  | [] => (nilV, [])
  | l => sl l
def rN (z : Int) : Res := sl (dZ z)
def gcdZ (x y : Int) : Int := Int.ofNat (Int.gcd x y)
def bin (f : Int → Int → Int) (a : Int → Res) (l : List (Nat × Nat)) : List Line := l.map fun p => ([numA p.1, numA p.2], a (f (valC p.1) (valC p.2)))
def ofs (l : List Int) : List Line := l.map fun z => ([.imm (.int .i64 z)], pN z)
def i (n : Nat) : Arg := .imm (posV n)
def ni : Arg := .imm nilV
def lo : Arg := .imm lostSlice
def L (l : List Nat) : Arg := .li (l.map posV)
def hkC (e : Bool) : List (List Nat × Nat) → Nat → List Value
  | [], _ => []
  | (l, h) :: r, b => bif e && l.isEmpty then nilV :: posV h :: hkC e r b else sliceA b 0 l.length 1 :: posV h :: hkC e r (b + 1)
def hkB (e : Bool) : List (List Nat × Nat) → List (List Value)
  | [] => []
  | (l, _) :: r => bif e && l.isEmpty then hkB e r else l.map posV :: hkB e r
def hkR (e : Bool) (l : List (List Nat × Nat)) : Res := match l with
  | [] => (nilV, [])
  | l => (sliceA 0 0 l.length 2, hkC e l 1 :: hkB e l)
def strR (l : List Nat) : Res := (.string ⟨⟨l.map UInt8.ofNat⟩⟩, [])
def trueR : Res := (.bool true, [])
noncomputable def run (sp : Abs.Spec) : CallFF := evF Tryz.prog okN (tabF sp) 200
def Seen (sp : Abs.Spec) (g : Nat) (l : List Line) : Prop := allK l (fun x => seenK (run sp) g x.1 x.2) = RC.skip
abbrev Ok (sp : Abs.Spec) : Prop := SpOk Tryz.prog sp
theorem ok_of {sp : Abs.Spec} (h : Ok sp) {g : Nat} {l : List Line} (hs : Seen sp g l) : ∀ x ∈ l, LineOK Tryz.prog g x.1 x.2 := h.seen hF hmix hs
noncomputable def lay (sp : Abs.Spec) (g : Nat) (l : List Line) : Abs.Spec := sp.add g (linesT (treeOf l))
theorem ok_lay {sp : Abs.Spec} (h : Ok sp) {g : Nat} {l : List Line} (hl : ∀ x ∈ l, LineOK Tryz.prog g x.1 x.2) : Ok (lay sp g l) := h.add fun _ _ hr => hl _ (linesT_get hr)
theorem lines_append {g : Nat} {l m : List Line} (hl : ∀ x ∈ l, LineOK Tryz.prog g x.1 x.2) (hm : ∀ x ∈ m, LineOK Tryz.prog g x.1 x.2) : ∀ x ∈ l ++ m, LineOK Tryz.prog g x.1 x.2 := fun x hx => (List.mem_append.1 hx).elim (hl x) (hm x)
noncomputable def topK (sp : Abs.Spec) (f : Nat) (args : List Value) : RC := bodyK Tryz.prog okN (run sp) 200 (.func (.func f) #[] #[]) args ⟨0, deadT⟩
def isTrue (r : RC) : Bool := match r with
  | .val (.bool true) _ => true
  | _ => false
open Go.RowKit in
theorem top_ints {sp : Abs.Spec} (h : Ok sp) {f : Nat} {args : List Value} (hr : isTrue (topK sp f args) = true) (hp : ∀ v ∈ args, plain v = true) (w : World) :
    Calls Tryz.prog f ⟨args⟩ w fun e w' => e = .returned (.bool true) ∧ Below w.heap.size w w' := by
  unfold isTrue at hr
  split at hr
  · rename_i H' he; exact law_ints hF hmix h he hp w
  · cases hr
end Go.Proofs.YtkedcelpadiakaaGreat
