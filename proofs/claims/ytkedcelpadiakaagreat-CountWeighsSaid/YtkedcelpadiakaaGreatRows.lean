/-
  No cell of these rows narrows 'for every input' (looked for: loops, veiled, ifaces, maps, wideKeys, modest, calm, conditions, laid).
  DERIVED. THE GIVEN ROWS OF THIS SEAT. 6 by the template 'for every input the law returns true; each argument reads behind the call as it read before'; 0 by the template 'total and deterministic' (their statements: YtkedcelpadiakaaGreatTotals.lean).
  GIVEN WITH THE SEED: the statements are not yours to turn. If you find one false, say at which input.
  Laid BY PROGRAM, IN A SANDBOX (cutbox-rows.mjs): the forced cells as the released guide's own fill.sh prints them over the translation 6ee90a63de3aff70… (all of the seat's roots in one cut). By AI agents, Wed Nov 11 2026. No macro, syntax, notation, axiom, sorry.
-/
import Derived.Test.YtkedcelpadiakaaGreatChecked
import GoSem.Claim
import GoSem.ClaimJoined
import GoSem.ClaimMapViews
import Derived.JoinedTies
import Derived.KernelRfl
namespace Go.Proofs.YtkedcelpadiakaaGreat
/- THE CELL 'sum', in the pinned program and in every row, IS THE sha256 OF THE DUMP (.gsa) THAT YtkedcelpadiakaaGreatProg.lean LOADS. Nothing in Lean hashes anything: it is a label: what it is worth is what the hold of that sum in a sandbox is worth. -/
noncomputable def Tryz.pinned : Pinned := { name := "ytkedcelpadiakaagreat", sum := "6ee90a63de3aff70189c3aff133feaadefbbe59b15d3c550eba14928fd021fa7", checked := Tryz.checked }
namespace Rows
def none {H : Type} : Left H := { results := [], args := [] }

/-- 'flatlandlaw09.CountClasses': WHATEVER THE INPUT: true; the input reads as it did. -/
def countClassesSpec : ChangeSpec := { name := "countClasses", fn := fun _ => fun
  | [d] => { results := [.lit (.bool true)], args := [d] }
  | _ => none }
def countClassesRow : OpenClaim := { program := "ytkedcelpadiakaagreat", sum := "6ee90a63de3aff70189c3aff133feaadefbbe59b15d3c550eba14928fd021fa7", func := "flatland/flatlandlaw09.CountClasses", spec := "countClasses", unfollowed := true, recurses := true, apart := false }
def CountClassesSaid : Prop := countClassesRow.holds Tryz.pinned (OpenSpec.ofChange countClassesSpec)

/-- ITS FALSE NEIGHBOUR: 'it returns false'. Refute it at one input. -/
def countClassesWrong : ChangeSpec := { name := "countClasses", fn := fun _ => fun
  | [d] => { results := [.lit (.bool false)], args := [d] }
  | _ => none }
def CountClassesWrongFalsely : Prop := countClassesRow.holds Tryz.pinned (OpenSpec.ofChange countClassesWrong)

/-- 'flatlandlaw09.CountWeighs': WHATEVER THE INPUT: true; the input reads as it did. -/
def countWeighsSpec : ChangeSpec := { name := "countWeighs", fn := fun _ => fun
  | [d] => { results := [.lit (.bool true)], args := [d] }
  | _ => none }
def countWeighsRow : OpenClaim := { program := "ytkedcelpadiakaagreat", sum := "6ee90a63de3aff70189c3aff133feaadefbbe59b15d3c550eba14928fd021fa7", func := "flatland/flatlandlaw09.CountWeighs", spec := "countWeighs", unfollowed := true, recurses := true, apart := false }
def CountWeighsSaid : Prop := countWeighsRow.holds Tryz.pinned (OpenSpec.ofChange countWeighsSpec)

/-- ITS FALSE NEIGHBOUR: 'it returns false'. Refute it at one input. -/
def countWeighsWrong : ChangeSpec := { name := "countWeighs", fn := fun _ => fun
  | [d] => { results := [.lit (.bool false)], args := [d] }
  | _ => none }
def CountWeighsWrongFalsely : Prop := countWeighsRow.holds Tryz.pinned (OpenSpec.ofChange countWeighsWrong)

/-- 'flatlandtop.TopAllPairs': WHATEVER THE INPUT: true; the input reads as it did. -/
def topAllPairsSpec : ChangeSpec := { name := "topAllPairs", fn := fun _ => fun
  | [d] => { results := [.lit (.bool true)], args := [d] }
  | _ => none }
def topAllPairsRow : OpenClaim := { program := "ytkedcelpadiakaagreat", sum := "6ee90a63de3aff70189c3aff133feaadefbbe59b15d3c550eba14928fd021fa7", func := "flatland/flatlandtop.TopAllPairs", spec := "topAllPairs", unfollowed := true, recurses := true, apart := false }
def TopAllPairsSaid : Prop := topAllPairsRow.holds Tryz.pinned (OpenSpec.ofChange topAllPairsSpec)

/-- ITS FALSE NEIGHBOUR: 'it returns false'. Refute it at one input. -/
def topAllPairsWrong : ChangeSpec := { name := "topAllPairs", fn := fun _ => fun
  | [d] => { results := [.lit (.bool false)], args := [d] }
  | _ => none }
def TopAllPairsWrongFalsely : Prop := topAllPairsRow.holds Tryz.pinned (OpenSpec.ofChange topAllPairsWrong)

/-- 'flatlandtop.TopPrimitiveOnes': WHATEVER THE INPUT: true; the input reads as it did. -/
def topPrimitiveOnesSpec : ChangeSpec := { name := "topPrimitiveOnes", fn := fun _ => fun
  | [d] => { results := [.lit (.bool true)], args := [d] }
  | _ => none }
def topPrimitiveOnesRow : OpenClaim := { program := "ytkedcelpadiakaagreat", sum := "6ee90a63de3aff70189c3aff133feaadefbbe59b15d3c550eba14928fd021fa7", func := "flatland/flatlandtop.TopPrimitiveOnes", spec := "topPrimitiveOnes", unfollowed := true, recurses := true, apart := false }
def TopPrimitiveOnesSaid : Prop := topPrimitiveOnesRow.holds Tryz.pinned (OpenSpec.ofChange topPrimitiveOnesSpec)

/-- ITS FALSE NEIGHBOUR: 'it returns false'. Refute it at one input. -/
def topPrimitiveOnesWrong : ChangeSpec := { name := "topPrimitiveOnes", fn := fun _ => fun
  | [d] => { results := [.lit (.bool false)], args := [d] }
  | _ => none }
def TopPrimitiveOnesWrongFalsely : Prop := topPrimitiveOnesRow.holds Tryz.pinned (OpenSpec.ofChange topPrimitiveOnesWrong)

/-- 'flatlandtop.TopTorusLattices': WHATEVER THE INPUT: true; the input reads as it did. -/
def topTorusLatticesSpec : ChangeSpec := { name := "topTorusLattices", fn := fun _ => fun
  | [d] => { results := [.lit (.bool true)], args := [d] }
  | _ => none }
def topTorusLatticesRow : OpenClaim := { program := "ytkedcelpadiakaagreat", sum := "6ee90a63de3aff70189c3aff133feaadefbbe59b15d3c550eba14928fd021fa7", func := "flatland/flatlandtop.TopTorusLattices", spec := "topTorusLattices", unfollowed := true, recurses := true, apart := false }
def TopTorusLatticesSaid : Prop := topTorusLatticesRow.holds Tryz.pinned (OpenSpec.ofChange topTorusLatticesSpec)

/-- ITS FALSE NEIGHBOUR: 'it returns false'. Refute it at one input. -/
def topTorusLatticesWrong : ChangeSpec := { name := "topTorusLattices", fn := fun _ => fun
  | [d] => { results := [.lit (.bool false)], args := [d] }
  | _ => none }
def TopTorusLatticesWrongFalsely : Prop := topTorusLatticesRow.holds Tryz.pinned (OpenSpec.ofChange topTorusLatticesWrong)

/-- 'flatlandtop.TopClassesAreOrbits': WHATEVER THE INPUT: true; the input reads as it did. -/
def topClassesAreOrbitsSpec : ChangeSpec := { name := "topClassesAreOrbits", fn := fun _ => fun
  | [d] => { results := [.lit (.bool true)], args := [d] }
  | _ => none }
def topClassesAreOrbitsRow : OpenClaim := { program := "ytkedcelpadiakaagreat", sum := "6ee90a63de3aff70189c3aff133feaadefbbe59b15d3c550eba14928fd021fa7", func := "flatland/flatlandtop.TopClassesAreOrbits", spec := "topClassesAreOrbits", inPlace := ["slices.overlaps[flatland/api.Origami]"], unfollowed := true, recurses := true, apart := false }
def TopClassesAreOrbitsSaid : Prop := topClassesAreOrbitsRow.holds Tryz.pinned (OpenSpec.ofChange topClassesAreOrbitsSpec)

/-- ITS FALSE NEIGHBOUR: 'it returns false'. Refute it at one input. -/
def topClassesAreOrbitsWrong : ChangeSpec := { name := "topClassesAreOrbits", fn := fun _ => fun
  | [d] => { results := [.lit (.bool false)], args := [d] }
  | _ => none }
def TopClassesAreOrbitsWrongFalsely : Prop := topClassesAreOrbitsRow.holds Tryz.pinned (OpenSpec.ofChange topClassesAreOrbitsWrong)

/- THE SECOND FORM. 'bulk': how many values and letters a reading holds, each counted each time it is reached (what is shared counts as often as it is met; a slice's spare places count too). A statement '..UptoSaid' is the law's where the arguments, and the package variables that the reading takes, are together of bulk at most 1048576: NARROWER than '..Said'. Prove '..Said' where nothing that the law and all that it calls make is longer than what came in: it says more and counts as full. Else prove '..UptoSaid'. A law counts once. -/
mutual
def uptoBulk {H : Type} : DataW H → Nat
  | .lit (.string bytes) => bytes.length + 1
  | .lit _ => 1
  | .nil => 1
  | .ptr d => uptoBulk d + 1
  | .slice elems spare => uptoBulkAll elems + uptoBulkAll spare + 1
  | .agg parts => uptoBulkAll parts + 1
  | .iface _ d => uptoBulk d + 1
  | .map entries => uptoBulkEntries entries + 1
  | .held _ => 1
def uptoBulkAll {H : Type} : List (DataW H) → Nat
  | [] => 0
  | d :: r => uptoBulk d + uptoBulkAll r
def uptoBulkEntries {H : Type} : List (Lit × DataW H) → Nat
  | [] => 0
  | x :: r => uptoBulkEntry x + uptoBulkEntries r
def uptoBulkEntry {H : Type} : Lit × DataW H → Nat
  | (.string bytes, d) => bytes.length + uptoBulk d + 1
  | (_, d) => uptoBulk d + 1
 end
def uptoSmall : (H : Type) → List (DataW H) → Bool := fun _ ds => decide (uptoBulkAll ds ≤ 1048576)
def OpenSpec.upto (s : _root_.Go.ChangeSpec) : _root_.Go.OpenSpec := { _root_.Go.OpenSpec.ofChange s with cond := some uptoSmall }

/-- 'flatlandlaw09.CountClasses', WHERE WHAT IT READS IS OF BULK AT MOST 1048576: true; the input reads as it did. -/
def countClassesUptoRow : OpenClaim := { program := "ytkedcelpadiakaagreat", sum := "6ee90a63de3aff70189c3aff133feaadefbbe59b15d3c550eba14928fd021fa7", func := "flatland/flatlandlaw09.CountClasses", spec := "countClasses", unfollowed := true, recurses := true, apart := false, narrowed := true }
def CountClassesUptoSaid : Prop := countClassesUptoRow.holds Tryz.pinned (OpenSpec.upto countClassesSpec)

/-- 'flatlandlaw09.CountWeighs', WHERE WHAT IT READS IS OF BULK AT MOST 1048576: true; the input reads as it did. -/
def countWeighsUptoRow : OpenClaim := { program := "ytkedcelpadiakaagreat", sum := "6ee90a63de3aff70189c3aff133feaadefbbe59b15d3c550eba14928fd021fa7", func := "flatland/flatlandlaw09.CountWeighs", spec := "countWeighs", unfollowed := true, recurses := true, apart := false, narrowed := true }
def CountWeighsUptoSaid : Prop := countWeighsUptoRow.holds Tryz.pinned (OpenSpec.upto countWeighsSpec)

/-- 'flatlandtop.TopAllPairs', WHERE WHAT IT READS IS OF BULK AT MOST 1048576: true; the input reads as it did. -/
def topAllPairsUptoRow : OpenClaim := { program := "ytkedcelpadiakaagreat", sum := "6ee90a63de3aff70189c3aff133feaadefbbe59b15d3c550eba14928fd021fa7", func := "flatland/flatlandtop.TopAllPairs", spec := "topAllPairs", unfollowed := true, recurses := true, apart := false, narrowed := true }
def TopAllPairsUptoSaid : Prop := topAllPairsUptoRow.holds Tryz.pinned (OpenSpec.upto topAllPairsSpec)

/-- 'flatlandtop.TopPrimitiveOnes', WHERE WHAT IT READS IS OF BULK AT MOST 1048576: true; the input reads as it did. -/
def topPrimitiveOnesUptoRow : OpenClaim := { program := "ytkedcelpadiakaagreat", sum := "6ee90a63de3aff70189c3aff133feaadefbbe59b15d3c550eba14928fd021fa7", func := "flatland/flatlandtop.TopPrimitiveOnes", spec := "topPrimitiveOnes", unfollowed := true, recurses := true, apart := false, narrowed := true }
def TopPrimitiveOnesUptoSaid : Prop := topPrimitiveOnesUptoRow.holds Tryz.pinned (OpenSpec.upto topPrimitiveOnesSpec)

/-- 'flatlandtop.TopTorusLattices', WHERE WHAT IT READS IS OF BULK AT MOST 1048576: true; the input reads as it did. -/
def topTorusLatticesUptoRow : OpenClaim := { program := "ytkedcelpadiakaagreat", sum := "6ee90a63de3aff70189c3aff133feaadefbbe59b15d3c550eba14928fd021fa7", func := "flatland/flatlandtop.TopTorusLattices", spec := "topTorusLattices", unfollowed := true, recurses := true, apart := false, narrowed := true }
def TopTorusLatticesUptoSaid : Prop := topTorusLatticesUptoRow.holds Tryz.pinned (OpenSpec.upto topTorusLatticesSpec)

/-- 'flatlandtop.TopClassesAreOrbits', WHERE WHAT IT READS IS OF BULK AT MOST 1048576: true; the input reads as it did. -/
def topClassesAreOrbitsUptoRow : OpenClaim := { program := "ytkedcelpadiakaagreat", sum := "6ee90a63de3aff70189c3aff133feaadefbbe59b15d3c550eba14928fd021fa7", func := "flatland/flatlandtop.TopClassesAreOrbits", spec := "topClassesAreOrbits", inPlace := ["slices.overlaps[flatland/api.Origami]"], unfollowed := true, recurses := true, apart := false, narrowed := true }
def TopClassesAreOrbitsUptoSaid : Prop := topClassesAreOrbitsUptoRow.holds Tryz.pinned (OpenSpec.upto topClassesAreOrbitsSpec)

end Rows
end Go.Proofs.YtkedcelpadiakaaGreat
