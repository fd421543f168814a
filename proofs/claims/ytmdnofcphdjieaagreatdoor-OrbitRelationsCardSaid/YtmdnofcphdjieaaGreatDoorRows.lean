/-
  NARROWER THAN 'FOR EVERY INPUT', by the rows' own cells (each row's printed sentence says how): OrbitWords: laid · OrbitUnits: laid · OrbitActs: laid · OrbitRelations: laid · TopCoverOrbits: laid · TopActionIsAction: laid.
  DERIVED. THE GIVEN ROWS OF THIS SEAT. 6 by the template 'for every input the law returns true; each argument reads behind the call as it read before'; 0 by the template 'total and deterministic' (their statements: YtmdnofcphdjieaaGreatDoorTotals.lean).
  GIVEN WITH THE SEED: the statements are not yours to turn. If you find one false, say at which input.
  Laid BY PROGRAM, IN A SANDBOX (cutbox-rows.mjs): the forced cells as the released guide's own fill.sh prints them over the translation 207580186ebbb750… (all of the seat's roots in one cut). By AI agents, Wed Nov 11 2026. No macro, syntax, notation, axiom, sorry.
-/
import Derived.Test.YtmdnofcphdjieaaGreatDoorChecked
import GoSem.PinnedTables
import GoSem.Claim
import GoSem.ClaimJoined
import GoSem.ClaimMapViews
import Derived.JoinedTies
import Derived.KernelRfl
namespace Go.Proofs.YtmdnofcphdjieaaGreatDoor
/- THE CELL 'sum', in the pinned program and in every row, IS THE sha256 OF THE DUMP (.gsa) THAT YtmdnofcphdjieaaGreatDoorProg.lean LOADS. Nothing in Lean hashes anything: it is a label: what it is worth is what the hold of that sum in a sandbox is worth. -/
noncomputable def Tryz.pinned : Pinned := { name := "ytmdnofcphdjieaagreatdoor", sum := "207580186ebbb750d6737a93e87f2b4b17b485dd7ed5dfad3fd7122f0f518beb", checked := Tryz.checked }
namespace Rows
def none {H : Type} : Left H := { results := [], args := [] }

/- WHAT THE LISTED PACKAGE-LEVEL VARIABLES READ AS WHEN THE CALL BEGINS. Each datum BY PROGRAM (the guide's laid-datum.mjs) off the statement by which the dump's own 'gosem.cut.vars' lays the variable. In a bare row this is a premise. The card (YtmdnofcphdjieaaGreatDoorCards.lean) ties it to the program's text. -/
def laid_unicode_utf8_acceptRanges {H : Type} : DataW H := .agg [.agg [.lit (.int .u8 128), .lit (.int .u8 191)], .agg [.lit (.int .u8 160), .lit (.int .u8 191)], .agg [.lit (.int .u8 128), .lit (.int .u8 159)], .agg [.lit (.int .u8 144), .lit (.int .u8 191)], .agg [.lit (.int .u8 128), .lit (.int .u8 143)], .agg [.lit (.int .u8 0), .lit (.int .u8 0)], .agg [.lit (.int .u8 0), .lit (.int .u8 0)], .agg [.lit (.int .u8 0), .lit (.int .u8 0)], .agg [.lit (.int .u8 0), .lit (.int .u8 0)], .agg [.lit (.int .u8 0), .lit (.int .u8 0)], .agg [.lit (.int .u8 0), .lit (.int .u8 0)], .agg [.lit (.int .u8 0), .lit (.int .u8 0)], .agg [.lit (.int .u8 0), .lit (.int .u8 0)], .agg [.lit (.int .u8 0), .lit (.int .u8 0)], .agg [.lit (.int .u8 0), .lit (.int .u8 0)], .agg [.lit (.int .u8 0), .lit (.int .u8 0)]]
/-- One of Go's own tables, pinned by name: the form's constant. -/
def laid_unicode_utf8_first : DataW Unit := Go.Pinned.utf8First

/-- 'flatlandlaw07.OrbitWords': WHATEVER THE INPUT: true; the input reads as it did. -/
def orbitWordsSpec : ChangeSpec := { name := "orbitWords", fn := fun _ => fun
  | [d] => { results := [.lit (.bool true)], args := [d] }
  | _ => none }
def orbitWordsRow : OpenClaim := { program := "ytmdnofcphdjieaagreatdoor", sum := "207580186ebbb750d6737a93e87f2b4b17b485dd7ed5dfad3fd7122f0f518beb", func := "flatland/flatlandlaw07.OrbitWords", spec := "orbitWords", inPlace := ["internal/abi.NoEscape", "internal/bytealg.MakeNoZero", "slices.overlaps[flatland/api.Origami]", "internal/bytealg.IndexByteString", "internal/bytealg.IndexString"], unfollowed := true, recurses := true, named := ["unicode/utf8.first", "unicode/utf8.acceptRanges", "internal/bytealg.MaxLen"], apart := false, laid := [("unicode/utf8.acceptRanges", laid_unicode_utf8_acceptRanges), ("unicode/utf8.first", laid_unicode_utf8_first)] }
def OrbitWordsSaid : Prop := orbitWordsRow.holds Tryz.pinned (OpenSpec.ofChange orbitWordsSpec)

/-- ITS FALSE NEIGHBOUR: 'it returns false'. Refute it at one input. -/
def orbitWordsWrong : ChangeSpec := { name := "orbitWords", fn := fun _ => fun
  | [d] => { results := [.lit (.bool false)], args := [d] }
  | _ => none }
def OrbitWordsWrongFalsely : Prop := orbitWordsRow.holds Tryz.pinned (OpenSpec.ofChange orbitWordsWrong)

/-- 'flatlandlaw07.OrbitUnits': WHATEVER THE INPUT: true; the input reads as it did. -/
def orbitUnitsSpec : ChangeSpec := { name := "orbitUnits", fn := fun _ => fun
  | [d1, d2] => { results := [.lit (.bool true)], args := [d1, d2] }
  | _ => none }
def orbitUnitsRow : OpenClaim := { program := "ytmdnofcphdjieaagreatdoor", sum := "207580186ebbb750d6737a93e87f2b4b17b485dd7ed5dfad3fd7122f0f518beb", func := "flatland/flatlandlaw07.OrbitUnits", spec := "orbitUnits", inPlace := ["internal/abi.NoEscape", "internal/bytealg.MakeNoZero", "slices.overlaps[flatland/api.Origami]", "internal/bytealg.IndexByteString", "internal/bytealg.IndexString"], unfollowed := true, recurses := true, named := ["unicode/utf8.first", "unicode/utf8.acceptRanges", "internal/bytealg.MaxLen"], apart := false, laid := [("unicode/utf8.acceptRanges", laid_unicode_utf8_acceptRanges), ("unicode/utf8.first", laid_unicode_utf8_first)] }
def OrbitUnitsSaid : Prop := orbitUnitsRow.holds Tryz.pinned (OpenSpec.ofChange orbitUnitsSpec)

/-- ITS FALSE NEIGHBOUR: 'it returns false'. Refute it at one input. -/
def orbitUnitsWrong : ChangeSpec := { name := "orbitUnits", fn := fun _ => fun
  | [d1, d2] => { results := [.lit (.bool false)], args := [d1, d2] }
  | _ => none }
def OrbitUnitsWrongFalsely : Prop := orbitUnitsRow.holds Tryz.pinned (OpenSpec.ofChange orbitUnitsWrong)

/-- 'flatlandlaw07.OrbitActs': WHATEVER THE INPUT: true; the input reads as it did. -/
def orbitActsSpec : ChangeSpec := { name := "orbitActs", fn := fun _ => fun
  | [d1, d2] => { results := [.lit (.bool true)], args := [d1, d2] }
  | _ => none }
def orbitActsRow : OpenClaim := { program := "ytmdnofcphdjieaagreatdoor", sum := "207580186ebbb750d6737a93e87f2b4b17b485dd7ed5dfad3fd7122f0f518beb", func := "flatland/flatlandlaw07.OrbitActs", spec := "orbitActs", inPlace := ["internal/abi.NoEscape", "internal/bytealg.MakeNoZero", "slices.overlaps[flatland/api.Origami]", "internal/bytealg.IndexByteString", "internal/bytealg.IndexString"], unfollowed := true, recurses := true, named := ["unicode/utf8.first", "unicode/utf8.acceptRanges", "internal/bytealg.MaxLen"], apart := false, laid := [("unicode/utf8.acceptRanges", laid_unicode_utf8_acceptRanges), ("unicode/utf8.first", laid_unicode_utf8_first)] }
def OrbitActsSaid : Prop := orbitActsRow.holds Tryz.pinned (OpenSpec.ofChange orbitActsSpec)

/-- ITS FALSE NEIGHBOUR: 'it returns false'. Refute it at one input. -/
def orbitActsWrong : ChangeSpec := { name := "orbitActs", fn := fun _ => fun
  | [d1, d2] => { results := [.lit (.bool false)], args := [d1, d2] }
  | _ => none }
def OrbitActsWrongFalsely : Prop := orbitActsRow.holds Tryz.pinned (OpenSpec.ofChange orbitActsWrong)

/-- 'flatlandlaw07.OrbitRelations': WHATEVER THE INPUT: true; the input reads as it did. -/
def orbitRelationsSpec : ChangeSpec := { name := "orbitRelations", fn := fun _ => fun
  | [d1, d2, d3] => { results := [.lit (.bool true)], args := [d1, d2, d3] }
  | _ => none }
def orbitRelationsRow : OpenClaim := { program := "ytmdnofcphdjieaagreatdoor", sum := "207580186ebbb750d6737a93e87f2b4b17b485dd7ed5dfad3fd7122f0f518beb", func := "flatland/flatlandlaw07.OrbitRelations", spec := "orbitRelations", inPlace := ["internal/abi.NoEscape", "internal/bytealg.MakeNoZero", "slices.overlaps[flatland/api.Origami]", "internal/bytealg.IndexByteString", "internal/bytealg.IndexString"], unfollowed := true, recurses := true, named := ["unicode/utf8.first", "unicode/utf8.acceptRanges", "internal/bytealg.MaxLen"], apart := false, laid := [("unicode/utf8.acceptRanges", laid_unicode_utf8_acceptRanges), ("unicode/utf8.first", laid_unicode_utf8_first)] }
def OrbitRelationsSaid : Prop := orbitRelationsRow.holds Tryz.pinned (OpenSpec.ofChange orbitRelationsSpec)

/-- ITS FALSE NEIGHBOUR: 'it returns false'. Refute it at one input. -/
def orbitRelationsWrong : ChangeSpec := { name := "orbitRelations", fn := fun _ => fun
  | [d1, d2, d3] => { results := [.lit (.bool false)], args := [d1, d2, d3] }
  | _ => none }
def OrbitRelationsWrongFalsely : Prop := orbitRelationsRow.holds Tryz.pinned (OpenSpec.ofChange orbitRelationsWrong)

/-- 'flatlandtop.TopCoverOrbits': WHATEVER THE INPUT: true; the input reads as it did. -/
def topCoverOrbitsSpec : ChangeSpec := { name := "topCoverOrbits", fn := fun _ => fun
  | [d1, d2] => { results := [.lit (.bool true)], args := [d1, d2] }
  | _ => none }
def topCoverOrbitsRow : OpenClaim := { program := "ytmdnofcphdjieaagreatdoor", sum := "207580186ebbb750d6737a93e87f2b4b17b485dd7ed5dfad3fd7122f0f518beb", func := "flatland/flatlandtop.TopCoverOrbits", spec := "topCoverOrbits", inPlace := ["slices.overlaps[flatland/api.Origami]", "internal/bytealg.IndexByteString", "internal/bytealg.IndexString"], unfollowed := true, recurses := true, named := ["unicode/utf8.first", "unicode/utf8.acceptRanges", "internal/bytealg.MaxLen"], apart := false, laid := [("unicode/utf8.acceptRanges", laid_unicode_utf8_acceptRanges), ("unicode/utf8.first", laid_unicode_utf8_first)] }
def TopCoverOrbitsSaid : Prop := topCoverOrbitsRow.holds Tryz.pinned (OpenSpec.ofChange topCoverOrbitsSpec)

/-- ITS FALSE NEIGHBOUR: 'it returns false'. Refute it at one input. -/
def topCoverOrbitsWrong : ChangeSpec := { name := "topCoverOrbits", fn := fun _ => fun
  | [d1, d2] => { results := [.lit (.bool false)], args := [d1, d2] }
  | _ => none }
def TopCoverOrbitsWrongFalsely : Prop := topCoverOrbitsRow.holds Tryz.pinned (OpenSpec.ofChange topCoverOrbitsWrong)

/-- 'flatlandtop.TopActionIsAction': WHATEVER THE INPUT: true; the input reads as it did. -/
def topActionIsActionSpec : ChangeSpec := { name := "topActionIsAction", fn := fun _ => fun
  | [d1, d2] => { results := [.lit (.bool true)], args := [d1, d2] }
  | _ => none }
def topActionIsActionRow : OpenClaim := { program := "ytmdnofcphdjieaagreatdoor", sum := "207580186ebbb750d6737a93e87f2b4b17b485dd7ed5dfad3fd7122f0f518beb", func := "flatland/flatlandtop.TopActionIsAction", spec := "topActionIsAction", inPlace := ["slices.overlaps[flatland/api.Origami]", "internal/bytealg.IndexByteString", "internal/bytealg.IndexString", "internal/abi.NoEscape", "internal/bytealg.MakeNoZero"], unfollowed := true, recurses := true, named := ["unicode/utf8.first", "unicode/utf8.acceptRanges", "internal/bytealg.MaxLen"], apart := false, laid := [("unicode/utf8.acceptRanges", laid_unicode_utf8_acceptRanges), ("unicode/utf8.first", laid_unicode_utf8_first)] }
def TopActionIsActionSaid : Prop := topActionIsActionRow.holds Tryz.pinned (OpenSpec.ofChange topActionIsActionSpec)

/-- ITS FALSE NEIGHBOUR: 'it returns false'. Refute it at one input. -/
def topActionIsActionWrong : ChangeSpec := { name := "topActionIsAction", fn := fun _ => fun
  | [d1, d2] => { results := [.lit (.bool false)], args := [d1, d2] }
  | _ => none }
def TopActionIsActionWrongFalsely : Prop := topActionIsActionRow.holds Tryz.pinned (OpenSpec.ofChange topActionIsActionWrong)

/- THE SECOND FORM. 'bulk': how many values and letters a reading holds, each counted each time it is reached (what is shared counts as often as it is met; a slice's spare places count too). A statement '..UptoSaid' is the law's where the arguments, and the package variables that the reading takes, are together of bulk at most 1048576: NARROWER than '..Said'. Prove '..Said' where nothing that the law and all that it calls make is longer than what came in: it says more and counts as full. Else prove '..UptoSaid'. A law counts once. -/
mutual
def uptoBulk {H : Type} : DataW H → Nat
  | .lit (.string bytes) => bytes.length + 1
  | .lit _ => 1
  | .nil => 1
  | .ptr d => uptoBulk d + 1
  | .slice elems spare => uptoBulkAll elems + uptoBulkAll spare + 1
  | .agg parts => uptoBulkAll parts + 1
  | .iface _ d => uptoBulk d + 1
  | .map entries => uptoBulkEntries entries + 1
  | .held _ => 1
def uptoBulkAll {H : Type} : List (DataW H) → Nat
  | [] => 0
  | d :: r => uptoBulk d + uptoBulkAll r
def uptoBulkEntries {H : Type} : List (Lit × DataW H) → Nat
  | [] => 0
  | x :: r => uptoBulkEntry x + uptoBulkEntries r
def uptoBulkEntry {H : Type} : Lit × DataW H → Nat
  | (.string bytes, d) => bytes.length + uptoBulk d + 1
  | (_, d) => uptoBulk d + 1
 end
def uptoSmall : (H : Type) → List (DataW H) → Bool := fun _ ds => decide (uptoBulkAll ds ≤ 1048576)
def OpenSpec.upto (s : _root_.Go.ChangeSpec) : _root_.Go.OpenSpec := { _root_.Go.OpenSpec.ofChange s with cond := some uptoSmall }

/-- 'flatlandlaw07.OrbitWords', WHERE WHAT IT READS IS OF BULK AT MOST 1048576: true; the input reads as it did. -/
def orbitWordsUptoRow : OpenClaim := { program := "ytmdnofcphdjieaagreatdoor", sum := "207580186ebbb750d6737a93e87f2b4b17b485dd7ed5dfad3fd7122f0f518beb", func := "flatland/flatlandlaw07.OrbitWords", spec := "orbitWords", inPlace := ["internal/abi.NoEscape", "internal/bytealg.MakeNoZero", "slices.overlaps[flatland/api.Origami]", "internal/bytealg.IndexByteString", "internal/bytealg.IndexString"], unfollowed := true, recurses := true, named := ["unicode/utf8.first", "unicode/utf8.acceptRanges", "internal/bytealg.MaxLen"], apart := false, laid := [("unicode/utf8.acceptRanges", laid_unicode_utf8_acceptRanges), ("unicode/utf8.first", laid_unicode_utf8_first)], narrowed := true }
def OrbitWordsUptoSaid : Prop := orbitWordsUptoRow.holds Tryz.pinned (OpenSpec.upto orbitWordsSpec)

/-- 'flatlandlaw07.OrbitUnits', WHERE WHAT IT READS IS OF BULK AT MOST 1048576: true; the input reads as it did. -/
def orbitUnitsUptoRow : OpenClaim := { program := "ytmdnofcphdjieaagreatdoor", sum := "207580186ebbb750d6737a93e87f2b4b17b485dd7ed5dfad3fd7122f0f518beb", func := "flatland/flatlandlaw07.OrbitUnits", spec := "orbitUnits", inPlace := ["internal/abi.NoEscape", "internal/bytealg.MakeNoZero", "slices.overlaps[flatland/api.Origami]", "internal/bytealg.IndexByteString", "internal/bytealg.IndexString"], unfollowed := true, recurses := true, named := ["unicode/utf8.first", "unicode/utf8.acceptRanges", "internal/bytealg.MaxLen"], apart := false, laid := [("unicode/utf8.acceptRanges", laid_unicode_utf8_acceptRanges), ("unicode/utf8.first", laid_unicode_utf8_first)], narrowed := true }
def OrbitUnitsUptoSaid : Prop := orbitUnitsUptoRow.holds Tryz.pinned (OpenSpec.upto orbitUnitsSpec)

/-- 'flatlandlaw07.OrbitActs', WHERE WHAT IT READS IS OF BULK AT MOST 1048576: true; the input reads as it did. -/
def orbitActsUptoRow : OpenClaim := { program := "ytmdnofcphdjieaagreatdoor", sum := "207580186ebbb750d6737a93e87f2b4b17b485dd7ed5dfad3fd7122f0f518beb", func := "flatland/flatlandlaw07.OrbitActs", spec := "orbitActs", inPlace := ["internal/abi.NoEscape", "internal/bytealg.MakeNoZero", "slices.overlaps[flatland/api.Origami]", "internal/bytealg.IndexByteString", "internal/bytealg.IndexString"], unfollowed := true, recurses := true, named := ["unicode/utf8.first", "unicode/utf8.acceptRanges", "internal/bytealg.MaxLen"], apart := false, laid := [("unicode/utf8.acceptRanges", laid_unicode_utf8_acceptRanges), ("unicode/utf8.first", laid_unicode_utf8_first)], narrowed := true }
def OrbitActsUptoSaid : Prop := orbitActsUptoRow.holds Tryz.pinned (OpenSpec.upto orbitActsSpec)

/-- 'flatlandlaw07.OrbitRelations', WHERE WHAT IT READS IS OF BULK AT MOST 1048576: true; the input reads as it did. -/
def orbitRelationsUptoRow : OpenClaim := { program := "ytmdnofcphdjieaagreatdoor", sum := "207580186ebbb750d6737a93e87f2b4b17b485dd7ed5dfad3fd7122f0f518beb", func := "flatland/flatlandlaw07.OrbitRelations", spec := "orbitRelations", inPlace := ["internal/abi.NoEscape", "internal/bytealg.MakeNoZero", "slices.overlaps[flatland/api.Origami]", "internal/bytealg.IndexByteString", "internal/bytealg.IndexString"], unfollowed := true, recurses := true, named := ["unicode/utf8.first", "unicode/utf8.acceptRanges", "internal/bytealg.MaxLen"], apart := false, laid := [("unicode/utf8.acceptRanges", laid_unicode_utf8_acceptRanges), ("unicode/utf8.first", laid_unicode_utf8_first)], narrowed := true }
def OrbitRelationsUptoSaid : Prop := orbitRelationsUptoRow.holds Tryz.pinned (OpenSpec.upto orbitRelationsSpec)

/-- 'flatlandtop.TopCoverOrbits', WHERE WHAT IT READS IS OF BULK AT MOST 1048576: true; the input reads as it did. -/
def topCoverOrbitsUptoRow : OpenClaim := { program := "ytmdnofcphdjieaagreatdoor", sum := "207580186ebbb750d6737a93e87f2b4b17b485dd7ed5dfad3fd7122f0f518beb", func := "flatland/flatlandtop.TopCoverOrbits", spec := "topCoverOrbits", inPlace := ["slices.overlaps[flatland/api.Origami]", "internal/bytealg.IndexByteString", "internal/bytealg.IndexString"], unfollowed := true, recurses := true, named := ["unicode/utf8.first", "unicode/utf8.acceptRanges", "internal/bytealg.MaxLen"], apart := false, laid := [("unicode/utf8.acceptRanges", laid_unicode_utf8_acceptRanges), ("unicode/utf8.first", laid_unicode_utf8_first)], narrowed := true }
def TopCoverOrbitsUptoSaid : Prop := topCoverOrbitsUptoRow.holds Tryz.pinned (OpenSpec.upto topCoverOrbitsSpec)

/-- 'flatlandtop.TopActionIsAction', WHERE WHAT IT READS IS OF BULK AT MOST 1048576: true; the input reads as it did. -/
def topActionIsActionUptoRow : OpenClaim := { program := "ytmdnofcphdjieaagreatdoor", sum := "207580186ebbb750d6737a93e87f2b4b17b485dd7ed5dfad3fd7122f0f518beb", func := "flatland/flatlandtop.TopActionIsAction", spec := "topActionIsAction", inPlace := ["slices.overlaps[flatland/api.Origami]", "internal/bytealg.IndexByteString", "internal/bytealg.IndexString", "internal/abi.NoEscape", "internal/bytealg.MakeNoZero"], unfollowed := true, recurses := true, named := ["unicode/utf8.first", "unicode/utf8.acceptRanges", "internal/bytealg.MaxLen"], apart := false, laid := [("unicode/utf8.acceptRanges", laid_unicode_utf8_acceptRanges), ("unicode/utf8.first", laid_unicode_utf8_first)], narrowed := true }
def TopActionIsActionUptoSaid : Prop := topActionIsActionUptoRow.holds Tryz.pinned (OpenSpec.upto topActionIsActionSpec)

end Rows
end Go.Proofs.YtmdnofcphdjieaaGreatDoor
