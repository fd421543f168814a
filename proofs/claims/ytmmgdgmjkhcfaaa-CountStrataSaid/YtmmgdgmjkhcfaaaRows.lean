/-
  No cell of these rows narrows 'for every input' (looked for: loops, veiled, ifaces, maps, wideKeys, modest, calm, conditions, laid).
  DERIVED. THE GIVEN ROWS OF THIS SEAT. 11 by the template 'for every input the law returns true; each argument reads behind the call as it read before'; 0 by the template 'total and deterministic' (their statements: YtmmgdgmjkhcfaaaTotals.lean).
  GIVEN WITH THE SEED: the statements are not yours to turn. If you find one false, say at which input.
  Laid BY PROGRAM, IN A SANDBOX (cutbox-rows.mjs): the forced cells as the released guide's own fill.sh prints them over the translation 6376d0b0c7d8709b… (all of the seat's roots in one cut). By AI agents, Wed Nov 11 2026. No macro, syntax, notation, axiom, sorry.
-/
import Derived.Test.YtmmgdgmjkhcfaaaChecked
import GoSem.Claim
import GoSem.ClaimJoined
import GoSem.ClaimMapViews
import Derived.JoinedTies
import Derived.KernelRfl
namespace Go.Proofs.Ytmmgdgmjkhcfaaa
/- THE CELL 'sum', in the pinned program and in every row, IS THE sha256 OF THE DUMP (.gsa) THAT YtmmgdgmjkhcfaaaProg.lean LOADS. Nothing in Lean hashes anything: it is a label: what it is worth is what the hold of that sum in a sandbox is worth. -/
noncomputable def Try.pinned : Pinned := { name := "ytmmgdgmjkhcfaaa", sum := "6376d0b0c7d8709b06485ca1e9ec502e9825b278da87b0e9900d70859c8eaa0e", checked := Try.checked }
namespace Rows
def none {H : Type} : Left H := { results := [], args := [] }

/-- 'flatlandlaw09.CountCharacters': WHATEVER THE INPUT: true; the input reads as it did. -/
def countCharactersSpec : ChangeSpec := { name := "countCharacters", fn := fun _ => fun
  | [d1, d2] => { results := [.lit (.bool true)], args := [d1, d2] }
  | _ => none }
def countCharactersRow : OpenClaim := { program := "ytmmgdgmjkhcfaaa", sum := "6376d0b0c7d8709b06485ca1e9ec502e9825b278da87b0e9900d70859c8eaa0e", func := "flatland/flatlandlaw09.CountCharacters", spec := "countCharacters", unfollowed := true, recurses := true, apart := false }
def CountCharactersSaid : Prop := countCharactersRow.holds Try.pinned (OpenSpec.ofChange countCharactersSpec)

/-- ITS FALSE NEIGHBOUR: 'it returns false'. Refute it at one input. -/
def countCharactersWrong : ChangeSpec := { name := "countCharacters", fn := fun _ => fun
  | [d1, d2] => { results := [.lit (.bool false)], args := [d1, d2] }
  | _ => none }
def CountCharactersWrongFalsely : Prop := countCharactersRow.holds Try.pinned (OpenSpec.ofChange countCharactersWrong)

/-- 'flatlandlaw09.CountPairs': WHATEVER THE INPUT: true; the input reads as it did. -/
def countPairsSpec : ChangeSpec := { name := "countPairs", fn := fun _ => fun
  | [d] => { results := [.lit (.bool true)], args := [d] }
  | _ => none }
def countPairsRow : OpenClaim := { program := "ytmmgdgmjkhcfaaa", sum := "6376d0b0c7d8709b06485ca1e9ec502e9825b278da87b0e9900d70859c8eaa0e", func := "flatland/flatlandlaw09.CountPairs", spec := "countPairs", unfollowed := true, recurses := true, apart := false }
def CountPairsSaid : Prop := countPairsRow.holds Try.pinned (OpenSpec.ofChange countPairsSpec)

/-- ITS FALSE NEIGHBOUR: 'it returns false'. Refute it at one input. -/
def countPairsWrong : ChangeSpec := { name := "countPairs", fn := fun _ => fun
  | [d] => { results := [.lit (.bool false)], args := [d] }
  | _ => none }
def CountPairsWrongFalsely : Prop := countPairsRow.holds Try.pinned (OpenSpec.ofChange countPairsWrong)

/-- 'flatlandlaw09.CountConnected': WHATEVER THE INPUT: true; the input reads as it did. -/
def countConnectedSpec : ChangeSpec := { name := "countConnected", fn := fun _ => fun
  | [d] => { results := [.lit (.bool true)], args := [d] }
  | _ => none }
def countConnectedRow : OpenClaim := { program := "ytmmgdgmjkhcfaaa", sum := "6376d0b0c7d8709b06485ca1e9ec502e9825b278da87b0e9900d70859c8eaa0e", func := "flatland/flatlandlaw09.CountConnected", spec := "countConnected", unfollowed := true, recurses := true, apart := false }
def CountConnectedSaid : Prop := countConnectedRow.holds Try.pinned (OpenSpec.ofChange countConnectedSpec)

/-- ITS FALSE NEIGHBOUR: 'it returns false'. Refute it at one input. -/
def countConnectedWrong : ChangeSpec := { name := "countConnected", fn := fun _ => fun
  | [d] => { results := [.lit (.bool false)], args := [d] }
  | _ => none }
def CountConnectedWrongFalsely : Prop := countConnectedRow.holds Try.pinned (OpenSpec.ofChange countConnectedWrong)

/-- 'flatlandlaw09.CountFormulas': WHATEVER THE INPUT: true; the input reads as it did. -/
def countFormulasSpec : ChangeSpec := { name := "countFormulas", fn := fun _ => fun
  | [d] => { results := [.lit (.bool true)], args := [d] }
  | _ => none }
def countFormulasRow : OpenClaim := { program := "ytmmgdgmjkhcfaaa", sum := "6376d0b0c7d8709b06485ca1e9ec502e9825b278da87b0e9900d70859c8eaa0e", func := "flatland/flatlandlaw09.CountFormulas", spec := "countFormulas", unfollowed := true, recurses := true, apart := false }
def CountFormulasSaid : Prop := countFormulasRow.holds Try.pinned (OpenSpec.ofChange countFormulasSpec)

/-- ITS FALSE NEIGHBOUR: 'it returns false'. Refute it at one input. -/
def countFormulasWrong : ChangeSpec := { name := "countFormulas", fn := fun _ => fun
  | [d] => { results := [.lit (.bool false)], args := [d] }
  | _ => none }
def CountFormulasWrongFalsely : Prop := countFormulasRow.holds Try.pinned (OpenSpec.ofChange countFormulasWrong)

/-- 'flatlandlaw09.CountConjugates': WHATEVER THE INPUT: true; the input reads as it did. -/
def countConjugatesSpec : ChangeSpec := { name := "countConjugates", fn := fun _ => fun
  | [d1, d2] => { results := [.lit (.bool true)], args := [d1, d2] }
  | _ => none }
def countConjugatesRow : OpenClaim := { program := "ytmmgdgmjkhcfaaa", sum := "6376d0b0c7d8709b06485ca1e9ec502e9825b278da87b0e9900d70859c8eaa0e", func := "flatland/flatlandlaw09.CountConjugates", spec := "countConjugates", unfollowed := true, recurses := true, apart := false }
def CountConjugatesSaid : Prop := countConjugatesRow.holds Try.pinned (OpenSpec.ofChange countConjugatesSpec)

/-- ITS FALSE NEIGHBOUR: 'it returns false'. Refute it at one input. -/
def countConjugatesWrong : ChangeSpec := { name := "countConjugates", fn := fun _ => fun
  | [d1, d2] => { results := [.lit (.bool false)], args := [d1, d2] }
  | _ => none }
def CountConjugatesWrongFalsely : Prop := countConjugatesRow.holds Try.pinned (OpenSpec.ofChange countConjugatesWrong)

/-- 'flatlandlaw09.CountKnown': WHATEVER THE INPUT: true; the input reads as it did. -/
def countKnownSpec : ChangeSpec := { name := "countKnown", fn := fun _ => fun
  | [d] => { results := [.lit (.bool true)], args := [d] }
  | _ => none }
def countKnownRow : OpenClaim := { program := "ytmmgdgmjkhcfaaa", sum := "6376d0b0c7d8709b06485ca1e9ec502e9825b278da87b0e9900d70859c8eaa0e", func := "flatland/flatlandlaw09.CountKnown", spec := "countKnown", unfollowed := true, recurses := true, apart := false }
def CountKnownSaid : Prop := countKnownRow.holds Try.pinned (OpenSpec.ofChange countKnownSpec)

/-- ITS FALSE NEIGHBOUR: 'it returns false'. Refute it at one input. -/
def countKnownWrong : ChangeSpec := { name := "countKnown", fn := fun _ => fun
  | [d] => { results := [.lit (.bool false)], args := [d] }
  | _ => none }
def CountKnownWrongFalsely : Prop := countKnownRow.holds Try.pinned (OpenSpec.ofChange countKnownWrong)

/-- 'flatlandlaw09.CountTables': WHATEVER THE INPUT: true; the input reads as it did. -/
def countTablesSpec : ChangeSpec := { name := "countTables", fn := fun _ => fun
  | [d] => { results := [.lit (.bool true)], args := [d] }
  | _ => none }
def countTablesRow : OpenClaim := { program := "ytmmgdgmjkhcfaaa", sum := "6376d0b0c7d8709b06485ca1e9ec502e9825b278da87b0e9900d70859c8eaa0e", func := "flatland/flatlandlaw09.CountTables", spec := "countTables", unfollowed := true, recurses := true, apart := false }
def CountTablesSaid : Prop := countTablesRow.holds Try.pinned (OpenSpec.ofChange countTablesSpec)

/-- ITS FALSE NEIGHBOUR: 'it returns false'. Refute it at one input. -/
def countTablesWrong : ChangeSpec := { name := "countTables", fn := fun _ => fun
  | [d] => { results := [.lit (.bool false)], args := [d] }
  | _ => none }
def CountTablesWrongFalsely : Prop := countTablesRow.holds Try.pinned (OpenSpec.ofChange countTablesWrong)

/-- 'flatlandlaw09.CountPartitions': WHATEVER THE INPUT: true; the input reads as it did. -/
def countPartitionsSpec : ChangeSpec := { name := "countPartitions", fn := fun _ => fun
  | [d1, d2] => { results := [.lit (.bool true)], args := [d1, d2] }
  | _ => none }
def countPartitionsRow : OpenClaim := { program := "ytmmgdgmjkhcfaaa", sum := "6376d0b0c7d8709b06485ca1e9ec502e9825b278da87b0e9900d70859c8eaa0e", func := "flatland/flatlandlaw09.CountPartitions", spec := "countPartitions", unfollowed := true, recurses := true, apart := false }
def CountPartitionsSaid : Prop := countPartitionsRow.holds Try.pinned (OpenSpec.ofChange countPartitionsSpec)

/-- ITS FALSE NEIGHBOUR: 'it returns false'. Refute it at one input. -/
def countPartitionsWrong : ChangeSpec := { name := "countPartitions", fn := fun _ => fun
  | [d1, d2] => { results := [.lit (.bool false)], args := [d1, d2] }
  | _ => none }
def CountPartitionsWrongFalsely : Prop := countPartitionsRow.holds Try.pinned (OpenSpec.ofChange countPartitionsWrong)

/-- 'flatlandlaw09.CountHooks': WHATEVER THE INPUT: true; the input reads as it did. -/
def countHooksSpec : ChangeSpec := { name := "countHooks", fn := fun _ => fun
  | [d1, d2] => { results := [.lit (.bool true)], args := [d1, d2] }
  | _ => none }
def countHooksRow : OpenClaim := { program := "ytmmgdgmjkhcfaaa", sum := "6376d0b0c7d8709b06485ca1e9ec502e9825b278da87b0e9900d70859c8eaa0e", func := "flatland/flatlandlaw09.CountHooks", spec := "countHooks", unfollowed := true, recurses := true, apart := false }
def CountHooksSaid : Prop := countHooksRow.holds Try.pinned (OpenSpec.ofChange countHooksSpec)

/-- ITS FALSE NEIGHBOUR: 'it returns false'. Refute it at one input. -/
def countHooksWrong : ChangeSpec := { name := "countHooks", fn := fun _ => fun
  | [d1, d2] => { results := [.lit (.bool false)], args := [d1, d2] }
  | _ => none }
def CountHooksWrongFalsely : Prop := countHooksRow.holds Try.pinned (OpenSpec.ofChange countHooksWrong)

/-- 'flatlandlaw09.CountOrthogonal': WHATEVER THE INPUT: true; the input reads as it did. -/
def countOrthogonalSpec : ChangeSpec := { name := "countOrthogonal", fn := fun _ => fun
  | [d1, d2, d3] => { results := [.lit (.bool true)], args := [d1, d2, d3] }
  | _ => none }
def countOrthogonalRow : OpenClaim := { program := "ytmmgdgmjkhcfaaa", sum := "6376d0b0c7d8709b06485ca1e9ec502e9825b278da87b0e9900d70859c8eaa0e", func := "flatland/flatlandlaw09.CountOrthogonal", spec := "countOrthogonal", unfollowed := true, recurses := true, apart := false }
def CountOrthogonalSaid : Prop := countOrthogonalRow.holds Try.pinned (OpenSpec.ofChange countOrthogonalSpec)

/-- ITS FALSE NEIGHBOUR: 'it returns false'. Refute it at one input. -/
def countOrthogonalWrong : ChangeSpec := { name := "countOrthogonal", fn := fun _ => fun
  | [d1, d2, d3] => { results := [.lit (.bool false)], args := [d1, d2, d3] }
  | _ => none }
def CountOrthogonalWrongFalsely : Prop := countOrthogonalRow.holds Try.pinned (OpenSpec.ofChange countOrthogonalWrong)

/-- 'flatlandlaw09.CountStrata': WHATEVER THE INPUT: true; the input reads as it did. -/
def countStrataSpec : ChangeSpec := { name := "countStrata", fn := fun _ => fun
  | [d1, d2, d3] => { results := [.lit (.bool true)], args := [d1, d2, d3] }
  | _ => none }
def countStrataRow : OpenClaim := { program := "ytmmgdgmjkhcfaaa", sum := "6376d0b0c7d8709b06485ca1e9ec502e9825b278da87b0e9900d70859c8eaa0e", func := "flatland/flatlandlaw09.CountStrata", spec := "countStrata", unfollowed := true, recurses := true, apart := false }
def CountStrataSaid : Prop := countStrataRow.holds Try.pinned (OpenSpec.ofChange countStrataSpec)

/-- ITS FALSE NEIGHBOUR: 'it returns false'. Refute it at one input. -/
def countStrataWrong : ChangeSpec := { name := "countStrata", fn := fun _ => fun
  | [d1, d2, d3] => { results := [.lit (.bool false)], args := [d1, d2, d3] }
  | _ => none }
def CountStrataWrongFalsely : Prop := countStrataRow.holds Try.pinned (OpenSpec.ofChange countStrataWrong)

/- THE SECOND FORM. 'bulk': how many values and letters a reading holds, each counted each time it is reached (what is shared counts as often as it is met; a slice's spare places count too). A statement '..UptoSaid' is the law's where the arguments, and the package variables that the reading takes, are together of bulk at most 1048576: NARROWER than '..Said'. Prove '..Said' where nothing that the law and all that it calls make is longer than what came in: it says more and counts as full. Else prove '..UptoSaid'. A law counts once. -/
mutual
def uptoBulk {H : Type} : DataW H → Nat
  | .lit (.string bytes) => bytes.length + 1
  | .lit _ => 1
  | .nil => 1
  | .ptr d => uptoBulk d + 1
  | .slice elems spare => uptoBulkAll elems + uptoBulkAll spare + 1
  | .agg parts => uptoBulkAll parts + 1
  | .iface _ d => uptoBulk d + 1
  | .map entries => uptoBulkEntries entries + 1
  | .held _ => 1
def uptoBulkAll {H : Type} : List (DataW H) → Nat
  | [] => 0
  | d :: r => uptoBulk d + uptoBulkAll r
def uptoBulkEntries {H : Type} : List (Lit × DataW H) → Nat
  | [] => 0
  | x :: r => uptoBulkEntry x + uptoBulkEntries r
def uptoBulkEntry {H : Type} : Lit × DataW H → Nat
  | (.string bytes, d) => bytes.length + uptoBulk d + 1
  | (_, d) => uptoBulk d + 1
 end
def uptoSmall : (H : Type) → List (DataW H) → Bool := fun _ ds => decide (uptoBulkAll ds ≤ 1048576)
def OpenSpec.upto (s : _root_.Go.ChangeSpec) : _root_.Go.OpenSpec := { _root_.Go.OpenSpec.ofChange s with cond := some uptoSmall }

/-- 'flatlandlaw09.CountCharacters', WHERE WHAT IT READS IS OF BULK AT MOST 1048576: true; the input reads as it did. -/
def countCharactersUptoRow : OpenClaim := { program := "ytmmgdgmjkhcfaaa", sum := "6376d0b0c7d8709b06485ca1e9ec502e9825b278da87b0e9900d70859c8eaa0e", func := "flatland/flatlandlaw09.CountCharacters", spec := "countCharacters", unfollowed := true, recurses := true, apart := false, narrowed := true }
def CountCharactersUptoSaid : Prop := countCharactersUptoRow.holds Try.pinned (OpenSpec.upto countCharactersSpec)

/-- 'flatlandlaw09.CountPairs', WHERE WHAT IT READS IS OF BULK AT MOST 1048576: true; the input reads as it did. -/
def countPairsUptoRow : OpenClaim := { program := "ytmmgdgmjkhcfaaa", sum := "6376d0b0c7d8709b06485ca1e9ec502e9825b278da87b0e9900d70859c8eaa0e", func := "flatland/flatlandlaw09.CountPairs", spec := "countPairs", unfollowed := true, recurses := true, apart := false, narrowed := true }
def CountPairsUptoSaid : Prop := countPairsUptoRow.holds Try.pinned (OpenSpec.upto countPairsSpec)

/-- 'flatlandlaw09.CountConnected', WHERE WHAT IT READS IS OF BULK AT MOST 1048576: true; the input reads as it did. -/
def countConnectedUptoRow : OpenClaim := { program := "ytmmgdgmjkhcfaaa", sum := "6376d0b0c7d8709b06485ca1e9ec502e9825b278da87b0e9900d70859c8eaa0e", func := "flatland/flatlandlaw09.CountConnected", spec := "countConnected", unfollowed := true, recurses := true, apart := false, narrowed := true }
def CountConnectedUptoSaid : Prop := countConnectedUptoRow.holds Try.pinned (OpenSpec.upto countConnectedSpec)

/-- 'flatlandlaw09.CountFormulas', WHERE WHAT IT READS IS OF BULK AT MOST 1048576: true; the input reads as it did. -/
def countFormulasUptoRow : OpenClaim := { program := "ytmmgdgmjkhcfaaa", sum := "6376d0b0c7d8709b06485ca1e9ec502e9825b278da87b0e9900d70859c8eaa0e", func := "flatland/flatlandlaw09.CountFormulas", spec := "countFormulas", unfollowed := true, recurses := true, apart := false, narrowed := true }
def CountFormulasUptoSaid : Prop := countFormulasUptoRow.holds Try.pinned (OpenSpec.upto countFormulasSpec)

/-- 'flatlandlaw09.CountConjugates', WHERE WHAT IT READS IS OF BULK AT MOST 1048576: true; the input reads as it did. -/
def countConjugatesUptoRow : OpenClaim := { program := "ytmmgdgmjkhcfaaa", sum := "6376d0b0c7d8709b06485ca1e9ec502e9825b278da87b0e9900d70859c8eaa0e", func := "flatland/flatlandlaw09.CountConjugates", spec := "countConjugates", unfollowed := true, recurses := true, apart := false, narrowed := true }
def CountConjugatesUptoSaid : Prop := countConjugatesUptoRow.holds Try.pinned (OpenSpec.upto countConjugatesSpec)

/-- 'flatlandlaw09.CountKnown', WHERE WHAT IT READS IS OF BULK AT MOST 1048576: true; the input reads as it did. -/
def countKnownUptoRow : OpenClaim := { program := "ytmmgdgmjkhcfaaa", sum := "6376d0b0c7d8709b06485ca1e9ec502e9825b278da87b0e9900d70859c8eaa0e", func := "flatland/flatlandlaw09.CountKnown", spec := "countKnown", unfollowed := true, recurses := true, apart := false, narrowed := true }
def CountKnownUptoSaid : Prop := countKnownUptoRow.holds Try.pinned (OpenSpec.upto countKnownSpec)

/-- 'flatlandlaw09.CountTables', WHERE WHAT IT READS IS OF BULK AT MOST 1048576: true; the input reads as it did. -/
def countTablesUptoRow : OpenClaim := { program := "ytmmgdgmjkhcfaaa", sum := "6376d0b0c7d8709b06485ca1e9ec502e9825b278da87b0e9900d70859c8eaa0e", func := "flatland/flatlandlaw09.CountTables", spec := "countTables", unfollowed := true, recurses := true, apart := false, narrowed := true }
def CountTablesUptoSaid : Prop := countTablesUptoRow.holds Try.pinned (OpenSpec.upto countTablesSpec)

/-- 'flatlandlaw09.CountPartitions', WHERE WHAT IT READS IS OF BULK AT MOST 1048576: true; the input reads as it did. -/
def countPartitionsUptoRow : OpenClaim := { program := "ytmmgdgmjkhcfaaa", sum := "6376d0b0c7d8709b06485ca1e9ec502e9825b278da87b0e9900d70859c8eaa0e", func := "flatland/flatlandlaw09.CountPartitions", spec := "countPartitions", unfollowed := true, recurses := true, apart := false, narrowed := true }
def CountPartitionsUptoSaid : Prop := countPartitionsUptoRow.holds Try.pinned (OpenSpec.upto countPartitionsSpec)

/-- 'flatlandlaw09.CountHooks', WHERE WHAT IT READS IS OF BULK AT MOST 1048576: true; the input reads as it did. -/
def countHooksUptoRow : OpenClaim := { program := "ytmmgdgmjkhcfaaa", sum := "6376d0b0c7d8709b06485ca1e9ec502e9825b278da87b0e9900d70859c8eaa0e", func := "flatland/flatlandlaw09.CountHooks", spec := "countHooks", unfollowed := true, recurses := true, apart := false, narrowed := true }
def CountHooksUptoSaid : Prop := countHooksUptoRow.holds Try.pinned (OpenSpec.upto countHooksSpec)

/-- 'flatlandlaw09.CountOrthogonal', WHERE WHAT IT READS IS OF BULK AT MOST 1048576: true; the input reads as it did. -/
def countOrthogonalUptoRow : OpenClaim := { program := "ytmmgdgmjkhcfaaa", sum := "6376d0b0c7d8709b06485ca1e9ec502e9825b278da87b0e9900d70859c8eaa0e", func := "flatland/flatlandlaw09.CountOrthogonal", spec := "countOrthogonal", unfollowed := true, recurses := true, apart := false, narrowed := true }
def CountOrthogonalUptoSaid : Prop := countOrthogonalUptoRow.holds Try.pinned (OpenSpec.upto countOrthogonalSpec)

/-- 'flatlandlaw09.CountStrata', WHERE WHAT IT READS IS OF BULK AT MOST 1048576: true; the input reads as it did. -/
def countStrataUptoRow : OpenClaim := { program := "ytmmgdgmjkhcfaaa", sum := "6376d0b0c7d8709b06485ca1e9ec502e9825b278da87b0e9900d70859c8eaa0e", func := "flatland/flatlandlaw09.CountStrata", spec := "countStrata", unfollowed := true, recurses := true, apart := false, narrowed := true }
def CountStrataUptoSaid : Prop := countStrataUptoRow.holds Try.pinned (OpenSpec.upto countStrataSpec)

end Rows
end Go.Proofs.Ytmmgdgmjkhcfaaa
