/- This program: types, functions that the evaluator takes. -/
import Derived.Test.YtmmgdgmjkhcfaaaSymG
import Derived.Test.YtmmgdgmjkhcfaaaOkf
set_option linter.all false
namespace Go.Proofs.Ytmmgdgmjkhcfaaa
open Go Go.Abs
theorem uL : Try.prog.underlying 22 = some (.slice 3) := by kernel_rfl
theorem eL : sliceElem Try.prog 22 = some (3, 1) := by kernel_rfl
theorem aI : isAggT Try.prog 3 = some false := by kernel_rfl
theorem zI : sizeT Try.prog 3 = some 1 := by kernel_rfl
theorem pI : ((bytesT Try.prog 3).isSome && decide ((bytesT Try.prog 3).getD 0 ≤ maxA) && (zeros Try.prog 3 1 1).isSome) = true := by kernel_rfl
theorem yI : bytesT Try.prog 3 = some 8 := by kernel_rfl
theorem oI : zeros Try.prog 3 1 1 = some [vi 0] := by kernel_rfl
theorem nI : zeros Try.prog 3 1 0 = some [] := by kernel_rfl
theorem ok_fn {f : Nat} {fn : Func} {c : Code} (ho : okN f = true) (hf : Try.prog.funcs[f]? = some fn) (hb : fn.body = some c) : funcOk fn c = true := hF f fn c ho hf hb
theorem aL : isAggT Try.prog 22 = some false := by kernel_rfl
theorem aB : isAggT Try.prog 4 = some false := by kernel_rfl
theorem zL : sizeT Try.prog 22 = some 1 := by kernel_rfl
theorem zB : sizeT Try.prog 4 = some 1 := by kernel_rfl
theorem qB (x y : Operand) (p q : Bool) : pureVal Try.prog (do eqGuard .eql 4 x y (.bool p) (.bool q); binOp .eql 4 (.bool p) (.bool q)) = some (.bool (p == q)) := by kernel_rfl
theorem nB (x y : Operand) (p q : Bool) : pureVal Try.prog (do eqGuard .neq 4 x y (.bool p) (.bool q); binOp .neq 4 (.bool p) (.bool q)) = some (.bool (!(p == q))) := by kernel_rfl
theorem aW : isAggT Try.prog 85 = some true := by kernel_rfl
theorem zW : sizeT Try.prog 85 = some 2 := by kernel_rfl
theorem fW0 : fieldOff Try.prog 85 0 = some 0 := by kernel_rfl
theorem fW1 : fieldOff Try.prog 85 1 = some 1 := by kernel_rfl
theorem iW : zeroT Try.prog 85 = some (.agg #[.bool false, .slice none 0 0]) := by kernel_rfl
noncomputable def sfs (t : TypeId) : Array Field := match Try.prog.underlying t with
  | some (.struct fs) => fs
  | _ => #[]
theorem uW : Try.prog.underlying 85 = some (.struct (sfs 85)) := by kernel_rfl
theorem oW : sizesOf Try.prog (sfs 85).toList = some [(0, 1), (1, 1)] := by kernel_rfl
theorem bW2 (p : Bool) (v : Value) (h : scal v = some [v]) : buildA Try.prog 85 [(0, .bool p), (1, v)] = some (.agg #[.bool p, v]) := by
  have hb : ∀ q : Bool, scal (.bool q) = some [.bool q] := fun _ => rfl
  simp only [buildA, iW, uW, oW, fillL, hb, h]
  rfl
theorem bW1 (v : Value) (h : scal v = some [v]) : buildA Try.prog 85 [(1, v)] = some (.agg #[.bool false, v]) := by
  have hb : ∀ q : Bool, scal (.bool q) = some [.bool q] := fun _ => rfl
  simp only [buildA, iW, uW, oW, fillL, hb, h]
  rfl
theorem bW0 : buildA Try.prog 85 [] = some (.agg #[.bool false, .slice none 0 0]) := by kernel_rfl
end Go.Proofs.Ytmmgdgmjkhcfaaa
