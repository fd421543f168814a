/-
  No cell of these rows narrows 'for every input' (looked for: loops, veiled, ifaces, maps, wideKeys, modest, calm, conditions, laid).
  DERIVED. THE GIVEN ROWS OF THIS SEAT. 8 by the template 'for every input the law returns true; each argument reads behind the call as it read before'; 0 by the template 'total and deterministic' (their statements: YtopmcphepoiigaaTotals.lean).
  GIVEN WITH THE SEED: the statements are not yours to turn. If you find one false, say at which input.
  Laid BY PROGRAM, IN A SANDBOX (cutbox-rows.mjs): the forced cells as the released guide's own fill.sh prints them over the translation 5e030a8c1613209b… (all of the seat's roots in one cut). By AI agents, Wed Nov 11 2026. No macro, syntax, notation, axiom, sorry.
-/
import Derived.Test.YtopmcphepoiigaaChecked
import GoSem.Claim
import GoSem.ClaimJoined
import GoSem.ClaimMapViews
import Derived.JoinedTies
import Derived.KernelRfl
namespace Go.Proofs.Ytopmcphepoiigaa
/- THE CELL 'sum', in the pinned program and in every row, IS THE sha256 OF THE DUMP (.gsa) THAT YtopmcphepoiigaaProg.lean LOADS. Nothing in Lean hashes anything: it is a label: what it is worth is what the hold of that sum in a sandbox is worth. -/
noncomputable def Try.pinned : Pinned := { name := "ytopmcphepoiigaa", sum := "5e030a8c1613209b6f14120cfe771aff779e3339901cec7e47efebfe0a159bf0", checked := Try.checked }
namespace Rows
def none {H : Type} : Left H := { results := [], args := [] }

/-- 'flatlandlaw09.CountFrobenius': WHATEVER THE INPUT: true; the input reads as it did. -/
def countFrobeniusSpec : ChangeSpec := { name := "countFrobenius", fn := fun _ => fun
  | [d] => { results := [.lit (.bool true)], args := [d] }
  | _ => none }
def countFrobeniusRow : OpenClaim := { program := "ytopmcphepoiigaa", sum := "5e030a8c1613209b6f14120cfe771aff779e3339901cec7e47efebfe0a159bf0", func := "flatland/flatlandlaw09.CountFrobenius", spec := "countFrobenius", unfollowed := true, recurses := true, apart := false }
def CountFrobeniusSaid : Prop := countFrobeniusRow.holds Try.pinned (OpenSpec.ofChange countFrobeniusSpec)

/-- ITS FALSE NEIGHBOUR: 'it returns false'. Refute it at one input. -/
def countFrobeniusWrong : ChangeSpec := { name := "countFrobenius", fn := fun _ => fun
  | [d] => { results := [.lit (.bool false)], args := [d] }
  | _ => none }
def CountFrobeniusWrongFalsely : Prop := countFrobeniusRow.holds Try.pinned (OpenSpec.ofChange countFrobeniusWrong)

/-- 'flatlandlaw09.CountCharacters': WHATEVER THE INPUT: true; the input reads as it did. -/
def countCharactersSpec : ChangeSpec := { name := "countCharacters", fn := fun _ => fun
  | [d1, d2] => { results := [.lit (.bool true)], args := [d1, d2] }
  | _ => none }
def countCharactersRow : OpenClaim := { program := "ytopmcphepoiigaa", sum := "5e030a8c1613209b6f14120cfe771aff779e3339901cec7e47efebfe0a159bf0", func := "flatland/flatlandlaw09.CountCharacters", spec := "countCharacters", unfollowed := true, recurses := true, apart := false }
def CountCharactersSaid : Prop := countCharactersRow.holds Try.pinned (OpenSpec.ofChange countCharactersSpec)

/-- ITS FALSE NEIGHBOUR: 'it returns false'. Refute it at one input. -/
def countCharactersWrong : ChangeSpec := { name := "countCharacters", fn := fun _ => fun
  | [d1, d2] => { results := [.lit (.bool false)], args := [d1, d2] }
  | _ => none }
def CountCharactersWrongFalsely : Prop := countCharactersRow.holds Try.pinned (OpenSpec.ofChange countCharactersWrong)

/-- 'flatlandlaw09.CountFormulas': WHATEVER THE INPUT: true; the input reads as it did. -/
def countFormulasSpec : ChangeSpec := { name := "countFormulas", fn := fun _ => fun
  | [d] => { results := [.lit (.bool true)], args := [d] }
  | _ => none }
def countFormulasRow : OpenClaim := { program := "ytopmcphepoiigaa", sum := "5e030a8c1613209b6f14120cfe771aff779e3339901cec7e47efebfe0a159bf0", func := "flatland/flatlandlaw09.CountFormulas", spec := "countFormulas", unfollowed := true, recurses := true, apart := false }
def CountFormulasSaid : Prop := countFormulasRow.holds Try.pinned (OpenSpec.ofChange countFormulasSpec)

/-- ITS FALSE NEIGHBOUR: 'it returns false'. Refute it at one input. -/
def countFormulasWrong : ChangeSpec := { name := "countFormulas", fn := fun _ => fun
  | [d] => { results := [.lit (.bool false)], args := [d] }
  | _ => none }
def CountFormulasWrongFalsely : Prop := countFormulasRow.holds Try.pinned (OpenSpec.ofChange countFormulasWrong)

/-- 'flatlandlaw09.CountHooks': WHATEVER THE INPUT: true; the input reads as it did. -/
def countHooksSpec : ChangeSpec := { name := "countHooks", fn := fun _ => fun
  | [d1, d2] => { results := [.lit (.bool true)], args := [d1, d2] }
  | _ => none }
def countHooksRow : OpenClaim := { program := "ytopmcphepoiigaa", sum := "5e030a8c1613209b6f14120cfe771aff779e3339901cec7e47efebfe0a159bf0", func := "flatland/flatlandlaw09.CountHooks", spec := "countHooks", unfollowed := true, recurses := true, apart := false }
def CountHooksSaid : Prop := countHooksRow.holds Try.pinned (OpenSpec.ofChange countHooksSpec)

/-- ITS FALSE NEIGHBOUR: 'it returns false'. Refute it at one input. -/
def countHooksWrong : ChangeSpec := { name := "countHooks", fn := fun _ => fun
  | [d1, d2] => { results := [.lit (.bool false)], args := [d1, d2] }
  | _ => none }
def CountHooksWrongFalsely : Prop := countHooksRow.holds Try.pinned (OpenSpec.ofChange countHooksWrong)

/-- 'flatlandlaw09.CountPartitions': WHATEVER THE INPUT: true; the input reads as it did. -/
def countPartitionsSpec : ChangeSpec := { name := "countPartitions", fn := fun _ => fun
  | [d1, d2] => { results := [.lit (.bool true)], args := [d1, d2] }
  | _ => none }
def countPartitionsRow : OpenClaim := { program := "ytopmcphepoiigaa", sum := "5e030a8c1613209b6f14120cfe771aff779e3339901cec7e47efebfe0a159bf0", func := "flatland/flatlandlaw09.CountPartitions", spec := "countPartitions", unfollowed := true, recurses := true, apart := false }
def CountPartitionsSaid : Prop := countPartitionsRow.holds Try.pinned (OpenSpec.ofChange countPartitionsSpec)

/-- ITS FALSE NEIGHBOUR: 'it returns false'. Refute it at one input. -/
def countPartitionsWrong : ChangeSpec := { name := "countPartitions", fn := fun _ => fun
  | [d1, d2] => { results := [.lit (.bool false)], args := [d1, d2] }
  | _ => none }
def CountPartitionsWrongFalsely : Prop := countPartitionsRow.holds Try.pinned (OpenSpec.ofChange countPartitionsWrong)

/-- 'flatlandlaw09.CountPairs': WHATEVER THE INPUT: true; the input reads as it did. -/
def countPairsSpec : ChangeSpec := { name := "countPairs", fn := fun _ => fun
  | [d] => { results := [.lit (.bool true)], args := [d] }
  | _ => none }
def countPairsRow : OpenClaim := { program := "ytopmcphepoiigaa", sum := "5e030a8c1613209b6f14120cfe771aff779e3339901cec7e47efebfe0a159bf0", func := "flatland/flatlandlaw09.CountPairs", spec := "countPairs", unfollowed := true, recurses := true, apart := false }
def CountPairsSaid : Prop := countPairsRow.holds Try.pinned (OpenSpec.ofChange countPairsSpec)

/-- ITS FALSE NEIGHBOUR: 'it returns false'. Refute it at one input. -/
def countPairsWrong : ChangeSpec := { name := "countPairs", fn := fun _ => fun
  | [d] => { results := [.lit (.bool false)], args := [d] }
  | _ => none }
def CountPairsWrongFalsely : Prop := countPairsRow.holds Try.pinned (OpenSpec.ofChange countPairsWrong)

/-- 'flatlandlaw09.CountConnected': WHATEVER THE INPUT: true; the input reads as it did. -/
def countConnectedSpec : ChangeSpec := { name := "countConnected", fn := fun _ => fun
  | [d] => { results := [.lit (.bool true)], args := [d] }
  | _ => none }
def countConnectedRow : OpenClaim := { program := "ytopmcphepoiigaa", sum := "5e030a8c1613209b6f14120cfe771aff779e3339901cec7e47efebfe0a159bf0", func := "flatland/flatlandlaw09.CountConnected", spec := "countConnected", unfollowed := true, recurses := true, apart := false }
def CountConnectedSaid : Prop := countConnectedRow.holds Try.pinned (OpenSpec.ofChange countConnectedSpec)

/-- ITS FALSE NEIGHBOUR: 'it returns false'. Refute it at one input. -/
def countConnectedWrong : ChangeSpec := { name := "countConnected", fn := fun _ => fun
  | [d] => { results := [.lit (.bool false)], args := [d] }
  | _ => none }
def CountConnectedWrongFalsely : Prop := countConnectedRow.holds Try.pinned (OpenSpec.ofChange countConnectedWrong)

/-- 'flatlandlaw09.CountStrata': WHATEVER THE INPUT: true; the input reads as it did. -/
def countStrataSpec : ChangeSpec := { name := "countStrata", fn := fun _ => fun
  | [d1, d2, d3] => { results := [.lit (.bool true)], args := [d1, d2, d3] }
  | _ => none }
def countStrataRow : OpenClaim := { program := "ytopmcphepoiigaa", sum := "5e030a8c1613209b6f14120cfe771aff779e3339901cec7e47efebfe0a159bf0", func := "flatland/flatlandlaw09.CountStrata", spec := "countStrata", unfollowed := true, recurses := true, apart := false }
def CountStrataSaid : Prop := countStrataRow.holds Try.pinned (OpenSpec.ofChange countStrataSpec)

/-- ITS FALSE NEIGHBOUR: 'it returns false'. Refute it at one input. -/
def countStrataWrong : ChangeSpec := { name := "countStrata", fn := fun _ => fun
  | [d1, d2, d3] => { results := [.lit (.bool false)], args := [d1, d2, d3] }
  | _ => none }
def CountStrataWrongFalsely : Prop := countStrataRow.holds Try.pinned (OpenSpec.ofChange countStrataWrong)

/- THE SECOND FORM. 'bulk': how many values and letters a reading holds, each counted each time it is reached (what is shared counts as often as it is met; a slice's spare places count too). A statement '..UptoSaid' is the law's where the arguments, and the package variables that the reading takes, are together of bulk at most 1048576: NARROWER than '..Said'. Prove '..Said' where nothing that the law and all that it calls make is longer than what came in: it says more and counts as full. Else prove '..UptoSaid'. A law counts once. -/
mutual
def uptoBulk {H : Type} : DataW H → Nat
  | .lit (.string bytes) => bytes.length + 1
  | .lit _ => 1
  | .nil => 1
  | .ptr d => uptoBulk d + 1
  | .slice elems spare => uptoBulkAll elems + uptoBulkAll spare + 1
  | .agg parts => uptoBulkAll parts + 1
  | .iface _ d => uptoBulk d + 1
  | .map entries => uptoBulkEntries entries + 1
  | .held _ => 1
def uptoBulkAll {H : Type} : List (DataW H) → Nat
  | [] => 0
  | d :: r => uptoBulk d + uptoBulkAll r
def uptoBulkEntries {H : Type} : List (Lit × DataW H) → Nat
  | [] => 0
  | x :: r => uptoBulkEntry x + uptoBulkEntries r
def uptoBulkEntry {H : Type} : Lit × DataW H → Nat
  | (.string bytes, d) => bytes.length + uptoBulk d + 1
  | (_, d) => uptoBulk d + 1
 end
def uptoSmall : (H : Type) → List (DataW H) → Bool := fun _ ds => decide (uptoBulkAll ds ≤ 1048576)
def OpenSpec.upto (s : _root_.Go.ChangeSpec) : _root_.Go.OpenSpec := { _root_.Go.OpenSpec.ofChange s with cond := some uptoSmall }

/-- 'flatlandlaw09.CountFrobenius', WHERE WHAT IT READS IS OF BULK AT MOST 1048576: true; the input reads as it did. -/
def countFrobeniusUptoRow : OpenClaim := { program := "ytopmcphepoiigaa", sum := "5e030a8c1613209b6f14120cfe771aff779e3339901cec7e47efebfe0a159bf0", func := "flatland/flatlandlaw09.CountFrobenius", spec := "countFrobenius", unfollowed := true, recurses := true, apart := false, narrowed := true }
def CountFrobeniusUptoSaid : Prop := countFrobeniusUptoRow.holds Try.pinned (OpenSpec.upto countFrobeniusSpec)

/-- 'flatlandlaw09.CountCharacters', WHERE WHAT IT READS IS OF BULK AT MOST 1048576: true; the input reads as it did. -/
def countCharactersUptoRow : OpenClaim := { program := "ytopmcphepoiigaa", sum := "5e030a8c1613209b6f14120cfe771aff779e3339901cec7e47efebfe0a159bf0", func := "flatland/flatlandlaw09.CountCharacters", spec := "countCharacters", unfollowed := true, recurses := true, apart := false, narrowed := true }
def CountCharactersUptoSaid : Prop := countCharactersUptoRow.holds Try.pinned (OpenSpec.upto countCharactersSpec)

/-- 'flatlandlaw09.CountFormulas', WHERE WHAT IT READS IS OF BULK AT MOST 1048576: true; the input reads as it did. -/
def countFormulasUptoRow : OpenClaim := { program := "ytopmcphepoiigaa", sum := "5e030a8c1613209b6f14120cfe771aff779e3339901cec7e47efebfe0a159bf0", func := "flatland/flatlandlaw09.CountFormulas", spec := "countFormulas", unfollowed := true, recurses := true, apart := false, narrowed := true }
def CountFormulasUptoSaid : Prop := countFormulasUptoRow.holds Try.pinned (OpenSpec.upto countFormulasSpec)

/-- 'flatlandlaw09.CountHooks', WHERE WHAT IT READS IS OF BULK AT MOST 1048576: true; the input reads as it did. -/
def countHooksUptoRow : OpenClaim := { program := "ytopmcphepoiigaa", sum := "5e030a8c1613209b6f14120cfe771aff779e3339901cec7e47efebfe0a159bf0", func := "flatland/flatlandlaw09.CountHooks", spec := "countHooks", unfollowed := true, recurses := true, apart := false, narrowed := true }
def CountHooksUptoSaid : Prop := countHooksUptoRow.holds Try.pinned (OpenSpec.upto countHooksSpec)

/-- 'flatlandlaw09.CountPartitions', WHERE WHAT IT READS IS OF BULK AT MOST 1048576: true; the input reads as it did. -/
def countPartitionsUptoRow : OpenClaim := { program := "ytopmcphepoiigaa", sum := "5e030a8c1613209b6f14120cfe771aff779e3339901cec7e47efebfe0a159bf0", func := "flatland/flatlandlaw09.CountPartitions", spec := "countPartitions", unfollowed := true, recurses := true, apart := false, narrowed := true }
def CountPartitionsUptoSaid : Prop := countPartitionsUptoRow.holds Try.pinned (OpenSpec.upto countPartitionsSpec)

/-- 'flatlandlaw09.CountPairs', WHERE WHAT IT READS IS OF BULK AT MOST 1048576: true; the input reads as it did. -/
def countPairsUptoRow : OpenClaim := { program := "ytopmcphepoiigaa", sum := "5e030a8c1613209b6f14120cfe771aff779e3339901cec7e47efebfe0a159bf0", func := "flatland/flatlandlaw09.CountPairs", spec := "countPairs", unfollowed := true, recurses := true, apart := false, narrowed := true }
def CountPairsUptoSaid : Prop := countPairsUptoRow.holds Try.pinned (OpenSpec.upto countPairsSpec)

/-- 'flatlandlaw09.CountConnected', WHERE WHAT IT READS IS OF BULK AT MOST 1048576: true; the input reads as it did. -/
def countConnectedUptoRow : OpenClaim := { program := "ytopmcphepoiigaa", sum := "5e030a8c1613209b6f14120cfe771aff779e3339901cec7e47efebfe0a159bf0", func := "flatland/flatlandlaw09.CountConnected", spec := "countConnected", unfollowed := true, recurses := true, apart := false, narrowed := true }
def CountConnectedUptoSaid : Prop := countConnectedUptoRow.holds Try.pinned (OpenSpec.upto countConnectedSpec)

/-- 'flatlandlaw09.CountStrata', WHERE WHAT IT READS IS OF BULK AT MOST 1048576: true; the input reads as it did. -/
def countStrataUptoRow : OpenClaim := { program := "ytopmcphepoiigaa", sum := "5e030a8c1613209b6f14120cfe771aff779e3339901cec7e47efebfe0a159bf0", func := "flatland/flatlandlaw09.CountStrata", spec := "countStrata", unfollowed := true, recurses := true, apart := false, narrowed := true }
def CountStrataUptoSaid : Prop := countStrataUptoRow.holds Try.pinned (OpenSpec.upto countStrataSpec)

end Rows
end Go.Proofs.Ytopmcphepoiigaa
