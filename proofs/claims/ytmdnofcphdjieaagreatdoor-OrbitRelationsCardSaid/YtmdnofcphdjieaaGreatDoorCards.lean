/-
  DERIVED. GIVEN WITH THE SEED: THE CARDS: each row of YtmdnofcphdjieaaGreatDoorRows.lean that lists a variable, with what it lists TIED to the program's text (the seventh form; the later family's looks); each row that meets fmt, with fmt's text TOLD by the authors' own Lean function (tested against real Go, not proved from fmt's source: count such statements apart). THE CARD IS WHAT COUNTS. Prove the row's statement (the work); the ties are given (YtmdnofcphdjieaaGreatDoorTie.lean); close each card by the builder's one call (the guide's Derived/Test/ToyasCard.lean, 'card_holds'). Laid BY PROGRAM, IN A SANDBOX (cutbox-door.mjs). By AI agents, Wed Nov 11 2026. No macro, syntax, notation, axiom, sorry.
-/
import Derived.Test.YtmdnofcphdjieaaGreatDoorRows
import GoSem.ClaimSeven
namespace Go.Proofs.YtmdnofcphdjieaaGreatDoor
namespace Rows

/-- THE TIED CARD OF 'flatlandlaw07.OrbitWords'. -/
def orbitWordsCard : Claim7 := { stood := { row := orbitWordsRow, standIns := [], harness := (true, "7046fbfc97458c0390a0b2d9724e1808108218129b4fe8b90d594c9c58dde6d8"), looks := false }, kinds := [], alts := [], laidByText := true, laidKinds := [.data, .pinned], laidTests := true, laidLooks := .later }
def OrbitWordsCardSaid : Prop := Claim7.holds Tryz.pinned (.plain (OpenSpec.ofChange orbitWordsSpec)) orbitWordsCard

/-- THE TIED CARD OF 'flatlandlaw07.OrbitUnits'. -/
def orbitUnitsCard : Claim7 := { stood := { row := orbitUnitsRow, standIns := [], harness := (true, "7046fbfc97458c0390a0b2d9724e1808108218129b4fe8b90d594c9c58dde6d8"), looks := false }, kinds := [], alts := [], laidByText := true, laidKinds := [.data, .pinned], laidTests := true, laidLooks := .later }
def OrbitUnitsCardSaid : Prop := Claim7.holds Tryz.pinned (.plain (OpenSpec.ofChange orbitUnitsSpec)) orbitUnitsCard

/-- THE TIED CARD OF 'flatlandlaw07.OrbitActs'. -/
def orbitActsCard : Claim7 := { stood := { row := orbitActsRow, standIns := [], harness := (true, "7046fbfc97458c0390a0b2d9724e1808108218129b4fe8b90d594c9c58dde6d8"), looks := false }, kinds := [], alts := [], laidByText := true, laidKinds := [.data, .pinned], laidTests := true, laidLooks := .later }
def OrbitActsCardSaid : Prop := Claim7.holds Tryz.pinned (.plain (OpenSpec.ofChange orbitActsSpec)) orbitActsCard

/-- THE TIED CARD OF 'flatlandlaw07.OrbitRelations'. -/
def orbitRelationsCard : Claim7 := { stood := { row := orbitRelationsRow, standIns := [], harness := (true, "7046fbfc97458c0390a0b2d9724e1808108218129b4fe8b90d594c9c58dde6d8"), looks := false }, kinds := [], alts := [], laidByText := true, laidKinds := [.data, .pinned], laidTests := true, laidLooks := .later }
def OrbitRelationsCardSaid : Prop := Claim7.holds Tryz.pinned (.plain (OpenSpec.ofChange orbitRelationsSpec)) orbitRelationsCard

/-- THE TIED CARD OF 'flatlandtop.TopCoverOrbits'. -/
def topCoverOrbitsCard : Claim7 := { stood := { row := topCoverOrbitsRow, standIns := [], harness := (true, "7046fbfc97458c0390a0b2d9724e1808108218129b4fe8b90d594c9c58dde6d8"), looks := false }, kinds := [], alts := [], laidByText := true, laidKinds := [.data, .pinned], laidTests := true, laidLooks := .later }
def TopCoverOrbitsCardSaid : Prop := Claim7.holds Tryz.pinned (.plain (OpenSpec.ofChange topCoverOrbitsSpec)) topCoverOrbitsCard

/-- THE TIED CARD OF 'flatlandtop.TopActionIsAction'. -/
def topActionIsActionCard : Claim7 := { stood := { row := topActionIsActionRow, standIns := [], harness := (true, "7046fbfc97458c0390a0b2d9724e1808108218129b4fe8b90d594c9c58dde6d8"), looks := false }, kinds := [], alts := [], laidByText := true, laidKinds := [.data, .pinned], laidTests := true, laidLooks := .later }
def TopActionIsActionCardSaid : Prop := Claim7.holds Tryz.pinned (.plain (OpenSpec.ofChange topActionIsActionSpec)) topActionIsActionCard

/-- THE SECOND FORM's CARD OF 'flatlandlaw07.OrbitWords'. -/
def orbitWordsUptoCard : Claim7 := { stood := { row := orbitWordsUptoRow, standIns := [], harness := (true, "7046fbfc97458c0390a0b2d9724e1808108218129b4fe8b90d594c9c58dde6d8"), looks := false }, kinds := [], alts := [], laidByText := true, laidKinds := [.data, .pinned], laidTests := true, laidLooks := .later }
def OrbitWordsUptoCardSaid : Prop := Claim7.holds Tryz.pinned (.plain (OpenSpec.upto orbitWordsSpec)) orbitWordsUptoCard

/-- THE SECOND FORM's CARD OF 'flatlandlaw07.OrbitUnits'. -/
def orbitUnitsUptoCard : Claim7 := { stood := { row := orbitUnitsUptoRow, standIns := [], harness := (true, "7046fbfc97458c0390a0b2d9724e1808108218129b4fe8b90d594c9c58dde6d8"), looks := false }, kinds := [], alts := [], laidByText := true, laidKinds := [.data, .pinned], laidTests := true, laidLooks := .later }
def OrbitUnitsUptoCardSaid : Prop := Claim7.holds Tryz.pinned (.plain (OpenSpec.upto orbitUnitsSpec)) orbitUnitsUptoCard

/-- THE SECOND FORM's CARD OF 'flatlandlaw07.OrbitActs'. -/
def orbitActsUptoCard : Claim7 := { stood := { row := orbitActsUptoRow, standIns := [], harness := (true, "7046fbfc97458c0390a0b2d9724e1808108218129b4fe8b90d594c9c58dde6d8"), looks := false }, kinds := [], alts := [], laidByText := true, laidKinds := [.data, .pinned], laidTests := true, laidLooks := .later }
def OrbitActsUptoCardSaid : Prop := Claim7.holds Tryz.pinned (.plain (OpenSpec.upto orbitActsSpec)) orbitActsUptoCard

/-- THE SECOND FORM's CARD OF 'flatlandlaw07.OrbitRelations'. -/
def orbitRelationsUptoCard : Claim7 := { stood := { row := orbitRelationsUptoRow, standIns := [], harness := (true, "7046fbfc97458c0390a0b2d9724e1808108218129b4fe8b90d594c9c58dde6d8"), looks := false }, kinds := [], alts := [], laidByText := true, laidKinds := [.data, .pinned], laidTests := true, laidLooks := .later }
def OrbitRelationsUptoCardSaid : Prop := Claim7.holds Tryz.pinned (.plain (OpenSpec.upto orbitRelationsSpec)) orbitRelationsUptoCard

/-- THE SECOND FORM's CARD OF 'flatlandtop.TopCoverOrbits'. -/
def topCoverOrbitsUptoCard : Claim7 := { stood := { row := topCoverOrbitsUptoRow, standIns := [], harness := (true, "7046fbfc97458c0390a0b2d9724e1808108218129b4fe8b90d594c9c58dde6d8"), looks := false }, kinds := [], alts := [], laidByText := true, laidKinds := [.data, .pinned], laidTests := true, laidLooks := .later }
def TopCoverOrbitsUptoCardSaid : Prop := Claim7.holds Tryz.pinned (.plain (OpenSpec.upto topCoverOrbitsSpec)) topCoverOrbitsUptoCard

/-- THE SECOND FORM's CARD OF 'flatlandtop.TopActionIsAction'. -/
def topActionIsActionUptoCard : Claim7 := { stood := { row := topActionIsActionUptoRow, standIns := [], harness := (true, "7046fbfc97458c0390a0b2d9724e1808108218129b4fe8b90d594c9c58dde6d8"), looks := false }, kinds := [], alts := [], laidByText := true, laidKinds := [.data, .pinned], laidTests := true, laidLooks := .later }
def TopActionIsActionUptoCardSaid : Prop := Claim7.holds Tryz.pinned (.plain (OpenSpec.upto topActionIsActionSpec)) topActionIsActionUptoCard
end Rows
end Go.Proofs.YtmdnofcphdjieaaGreatDoor
