/-
  No cell of these rows narrows 'for every input' (looked for: loops, veiled, ifaces, maps, wideKeys, modest, calm, conditions, laid).
  DERIVED. THE GIVEN ROWS OF THIS SEAT. 4 by the template 'for every input the law returns true; each argument reads behind the call as it read before'; 0 by the template 'total and deterministic' (their statements: YtopmcphepoiigaaGreatTotals.lean).
  GIVEN WITH THE SEED: the statements are not yours to turn. If you find one false, say at which input.
  Laid BY PROGRAM, IN A SANDBOX (cutbox-rows.mjs): the forced cells as the released guide's own fill.sh prints them over the translation 42a18c0f0ea25968… (all of the seat's roots in one cut). By AI agents, Wed Nov 11 2026. No macro, syntax, notation, axiom, sorry.
-/
import Derived.Test.YtopmcphepoiigaaGreatChecked
import GoSem.Claim
import GoSem.ClaimJoined
import GoSem.ClaimMapViews
import Derived.JoinedTies
import Derived.KernelRfl
namespace Go.Proofs.YtopmcphepoiigaaGreat
/- THE CELL 'sum', in the pinned program and in every row, IS THE sha256 OF THE DUMP (.gsa) THAT YtopmcphepoiigaaGreatProg.lean LOADS. Nothing in Lean hashes anything: it is a label: what it is worth is what the hold of that sum in a sandbox is worth. -/
noncomputable def Tryz.pinned : Pinned := { name := "ytopmcphepoiigaagreat", sum := "42a18c0f0ea25968749e90919591b246cd61bc1d564c2813c4ccbcc7fae7c781", checked := Tryz.checked }
namespace Rows
def none {H : Type} : Left H := { results := [], args := [] }

/-- 'flatlandlaw09.CountForces': WHATEVER THE INPUT: true; the input reads as it did. -/
def countForcesSpec : ChangeSpec := { name := "countForces", fn := fun _ => fun
  | [d] => { results := [.lit (.bool true)], args := [d] }
  | _ => none }
def countForcesRow : OpenClaim := { program := "ytopmcphepoiigaagreat", sum := "42a18c0f0ea25968749e90919591b246cd61bc1d564c2813c4ccbcc7fae7c781", func := "flatland/flatlandlaw09.CountForces", spec := "countForces", unfollowed := true, recurses := true, apart := false }
def CountForcesSaid : Prop := countForcesRow.holds Tryz.pinned (OpenSpec.ofChange countForcesSpec)

/-- ITS FALSE NEIGHBOUR: 'it returns false'. Refute it at one input. -/
def countForcesWrong : ChangeSpec := { name := "countForces", fn := fun _ => fun
  | [d] => { results := [.lit (.bool false)], args := [d] }
  | _ => none }
def CountForcesWrongFalsely : Prop := countForcesRow.holds Tryz.pinned (OpenSpec.ofChange countForcesWrong)

/-- 'flatlandlaw09.CountClasses': WHATEVER THE INPUT: true; the input reads as it did. -/
def countClassesSpec : ChangeSpec := { name := "countClasses", fn := fun _ => fun
  | [d] => { results := [.lit (.bool true)], args := [d] }
  | _ => none }
def countClassesRow : OpenClaim := { program := "ytopmcphepoiigaagreat", sum := "42a18c0f0ea25968749e90919591b246cd61bc1d564c2813c4ccbcc7fae7c781", func := "flatland/flatlandlaw09.CountClasses", spec := "countClasses", unfollowed := true, recurses := true, apart := false }
def CountClassesSaid : Prop := countClassesRow.holds Tryz.pinned (OpenSpec.ofChange countClassesSpec)

/-- ITS FALSE NEIGHBOUR: 'it returns false'. Refute it at one input. -/
def countClassesWrong : ChangeSpec := { name := "countClasses", fn := fun _ => fun
  | [d] => { results := [.lit (.bool false)], args := [d] }
  | _ => none }
def CountClassesWrongFalsely : Prop := countClassesRow.holds Tryz.pinned (OpenSpec.ofChange countClassesWrong)

/-- 'flatlandlaw09.CountWeighs': WHATEVER THE INPUT: true; the input reads as it did. -/
def countWeighsSpec : ChangeSpec := { name := "countWeighs", fn := fun _ => fun
  | [d] => { results := [.lit (.bool true)], args := [d] }
  | _ => none }
def countWeighsRow : OpenClaim := { program := "ytopmcphepoiigaagreat", sum := "42a18c0f0ea25968749e90919591b246cd61bc1d564c2813c4ccbcc7fae7c781", func := "flatland/flatlandlaw09.CountWeighs", spec := "countWeighs", unfollowed := true, recurses := true, apart := false }
def CountWeighsSaid : Prop := countWeighsRow.holds Tryz.pinned (OpenSpec.ofChange countWeighsSpec)

/-- ITS FALSE NEIGHBOUR: 'it returns false'. Refute it at one input. -/
def countWeighsWrong : ChangeSpec := { name := "countWeighs", fn := fun _ => fun
  | [d] => { results := [.lit (.bool false)], args := [d] }
  | _ => none }
def CountWeighsWrongFalsely : Prop := countWeighsRow.holds Tryz.pinned (OpenSpec.ofChange countWeighsWrong)

/-- 'flatlandtop.TopAllPairs': WHATEVER THE INPUT: true; the input reads as it did. -/
def topAllPairsSpec : ChangeSpec := { name := "topAllPairs", fn := fun _ => fun
  | [d] => { results := [.lit (.bool true)], args := [d] }
  | _ => none }
def topAllPairsRow : OpenClaim := { program := "ytopmcphepoiigaagreat", sum := "42a18c0f0ea25968749e90919591b246cd61bc1d564c2813c4ccbcc7fae7c781", func := "flatland/flatlandtop.TopAllPairs", spec := "topAllPairs", unfollowed := true, recurses := true, apart := false }
def TopAllPairsSaid : Prop := topAllPairsRow.holds Tryz.pinned (OpenSpec.ofChange topAllPairsSpec)

/-- ITS FALSE NEIGHBOUR: 'it returns false'. Refute it at one input. -/
def topAllPairsWrong : ChangeSpec := { name := "topAllPairs", fn := fun _ => fun
  | [d] => { results := [.lit (.bool false)], args := [d] }
  | _ => none }
def TopAllPairsWrongFalsely : Prop := topAllPairsRow.holds Tryz.pinned (OpenSpec.ofChange topAllPairsWrong)

/- THE SECOND FORM. 'bulk': how many values and letters a reading holds, each counted each time it is reached (what is shared counts as often as it is met; a slice's spare places count too). A statement '..UptoSaid' is the law's where the arguments, and the package variables that the reading takes, are together of bulk at most 1048576: NARROWER than '..Said'. Prove '..Said' where nothing that the law and all that it calls make is longer than what came in: it says more and counts as full. Else prove '..UptoSaid'. A law counts once. -/
mutual
def uptoBulk {H : Type} : DataW H → Nat
  | .lit (.string bytes) => bytes.length + 1
  | .lit _ => 1
  | .nil => 1
  | .ptr d => uptoBulk d + 1
  | .slice elems spare => uptoBulkAll elems + uptoBulkAll spare + 1
  | .agg parts => uptoBulkAll parts + 1
  | .iface _ d => uptoBulk d + 1
  | .map entries => uptoBulkEntries entries + 1
  | .held _ => 1
def uptoBulkAll {H : Type} : List (DataW H) → Nat
  | [] => 0
  | d :: r => uptoBulk d + uptoBulkAll r
def uptoBulkEntries {H : Type} : List (Lit × DataW H) → Nat
  | [] => 0
  | x :: r => uptoBulkEntry x + uptoBulkEntries r
def uptoBulkEntry {H : Type} : Lit × DataW H → Nat
  | (.string bytes, d) => bytes.length + uptoBulk d + 1
  | (_, d) => uptoBulk d + 1
 end
def uptoSmall : (H : Type) → List (DataW H) → Bool := fun _ ds => decide (uptoBulkAll ds ≤ 1048576)
def OpenSpec.upto (s : _root_.Go.ChangeSpec) : _root_.Go.OpenSpec := { _root_.Go.OpenSpec.ofChange s with cond := some uptoSmall }

/-- 'flatlandlaw09.CountForces', WHERE WHAT IT READS IS OF BULK AT MOST 1048576: true; the input reads as it did. -/
def countForcesUptoRow : OpenClaim := { program := "ytopmcphepoiigaagreat", sum := "42a18c0f0ea25968749e90919591b246cd61bc1d564c2813c4ccbcc7fae7c781", func := "flatland/flatlandlaw09.CountForces", spec := "countForces", unfollowed := true, recurses := true, apart := false, narrowed := true }
def CountForcesUptoSaid : Prop := countForcesUptoRow.holds Tryz.pinned (OpenSpec.upto countForcesSpec)

/-- 'flatlandlaw09.CountClasses', WHERE WHAT IT READS IS OF BULK AT MOST 1048576: true; the input reads as it did. -/
def countClassesUptoRow : OpenClaim := { program := "ytopmcphepoiigaagreat", sum := "42a18c0f0ea25968749e90919591b246cd61bc1d564c2813c4ccbcc7fae7c781", func := "flatland/flatlandlaw09.CountClasses", spec := "countClasses", unfollowed := true, recurses := true, apart := false, narrowed := true }
def CountClassesUptoSaid : Prop := countClassesUptoRow.holds Tryz.pinned (OpenSpec.upto countClassesSpec)

/-- 'flatlandlaw09.CountWeighs', WHERE WHAT IT READS IS OF BULK AT MOST 1048576: true; the input reads as it did. -/
def countWeighsUptoRow : OpenClaim := { program := "ytopmcphepoiigaagreat", sum := "42a18c0f0ea25968749e90919591b246cd61bc1d564c2813c4ccbcc7fae7c781", func := "flatland/flatlandlaw09.CountWeighs", spec := "countWeighs", unfollowed := true, recurses := true, apart := false, narrowed := true }
def CountWeighsUptoSaid : Prop := countWeighsUptoRow.holds Tryz.pinned (OpenSpec.upto countWeighsSpec)

/-- 'flatlandtop.TopAllPairs', WHERE WHAT IT READS IS OF BULK AT MOST 1048576: true; the input reads as it did. -/
def topAllPairsUptoRow : OpenClaim := { program := "ytopmcphepoiigaagreat", sum := "42a18c0f0ea25968749e90919591b246cd61bc1d564c2813c4ccbcc7fae7c781", func := "flatland/flatlandtop.TopAllPairs", spec := "topAllPairs", unfollowed := true, recurses := true, apart := false, narrowed := true }
def TopAllPairsUptoSaid : Prop := topAllPairsUptoRow.holds Tryz.pinned (OpenSpec.upto topAllPairsSpec)

end Rows
end Go.Proofs.YtopmcphepoiigaaGreat
