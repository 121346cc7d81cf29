/-
  DERIVED. GIVEN WITH THE SEED: THE CARDS: each row of YtmkdbndniffkfaaGreatDoorRows.lean that lists a variable, with what it lists TIED to the program's text (the seventh form; the later family's looks); each row that meets fmt, with fmt's text TOLD by the authors' own Lean function (tested against real Go, not proved from fmt's source: count such statements apart). THE CARD IS WHAT COUNTS. Prove the row's statement (the work); the ties are given (YtmkdbndniffkfaaGreatDoorTie.lean); close each card by the builder's one call (the guide's Derived/Test/ToyasCard.lean, 'card_holds'). Laid BY PROGRAM, IN A SANDBOX (cutbox-door.mjs). By AI agents, Wed Nov 11 2026. No macro, syntax, notation, axiom, sorry.
-/
import Derived.Test.YtmkdbndniffkfaaGreatDoorRows
import GoSem.ClaimSeven
namespace Go.Proofs.YtmkdbndniffkfaaGreatDoor
namespace Rows

/-- THE TIED CARD OF 'pilasterlaw41.RecompileChanges'. -/
def recompileChangesCard : Claim7 := { stood := { row := recompileChangesRow, standIns := [], harness := (true, "852a0a402c5a9e98e5006b68451320e927f4f3e04716cd03a1b6a5d78fa051d5"), looks := false }, kinds := [], alts := [], laidByText := true, laidKinds := [.listed, .data], laidTests := true, laidLooks := .later }
def RecompileChangesCardSaid : Prop := Claim7.holds Tryz.pinned (.plain (OpenSpec.ofChange recompileChangesSpec)) recompileChangesCard

/-- THE TIED CARD OF 'pilasterlaw41.RecompileGraphs'. -/
def recompileGraphsCard : Claim7 := { stood := { row := recompileGraphsRow, standIns := [], harness := (true, "852a0a402c5a9e98e5006b68451320e927f4f3e04716cd03a1b6a5d78fa051d5"), looks := false }, kinds := [], alts := [], laidByText := true, laidKinds := [.listed, .data], laidTests := true, laidLooks := .later }
def RecompileGraphsCardSaid : Prop := Claim7.holds Tryz.pinned (.plain (OpenSpec.ofChange recompileGraphsSpec)) recompileGraphsCard

/-- THE TIED CARD OF 'pilasterlaw41.RecompileReasons'. -/
def recompileReasonsCard : Claim7 := { stood := { row := recompileReasonsRow, standIns := [], harness := (true, "852a0a402c5a9e98e5006b68451320e927f4f3e04716cd03a1b6a5d78fa051d5"), looks := false }, kinds := [], alts := [], laidByText := true, laidKinds := [.listed, .data], laidTests := true, laidLooks := .later }
def RecompileReasonsCardSaid : Prop := Claim7.holds Tryz.pinned (.plain (OpenSpec.ofChange recompileReasonsSpec)) recompileReasonsCard

/-- THE TIED CARD OF 'pilasterlaw41.RecompilePlans'. -/
def recompilePlansCard : Claim7 := { stood := { row := recompilePlansRow, standIns := [], harness := (true, "852a0a402c5a9e98e5006b68451320e927f4f3e04716cd03a1b6a5d78fa051d5"), looks := false }, kinds := [], alts := [], laidByText := true, laidKinds := [.listed, .data], laidTests := true, laidLooks := .later }
def RecompilePlansCardSaid : Prop := Claim7.holds Tryz.pinned (.plain (OpenSpec.ofChange recompilePlansSpec)) recompilePlansCard

/-- THE SECOND FORM's CARD OF 'pilasterlaw41.RecompileChanges'. -/
def recompileChangesUptoCard : Claim7 := { stood := { row := recompileChangesUptoRow, standIns := [], harness := (true, "852a0a402c5a9e98e5006b68451320e927f4f3e04716cd03a1b6a5d78fa051d5"), looks := false }, kinds := [], alts := [], laidByText := true, laidKinds := [.listed, .data], laidTests := true, laidLooks := .later }
def RecompileChangesUptoCardSaid : Prop := Claim7.holds Tryz.pinned (.plain (OpenSpec.upto recompileChangesSpec)) recompileChangesUptoCard

/-- THE SECOND FORM's CARD OF 'pilasterlaw41.RecompileGraphs'. -/
def recompileGraphsUptoCard : Claim7 := { stood := { row := recompileGraphsUptoRow, standIns := [], harness := (true, "852a0a402c5a9e98e5006b68451320e927f4f3e04716cd03a1b6a5d78fa051d5"), looks := false }, kinds := [], alts := [], laidByText := true, laidKinds := [.listed, .data], laidTests := true, laidLooks := .later }
def RecompileGraphsUptoCardSaid : Prop := Claim7.holds Tryz.pinned (.plain (OpenSpec.upto recompileGraphsSpec)) recompileGraphsUptoCard

/-- THE SECOND FORM's CARD OF 'pilasterlaw41.RecompileReasons'. -/
def recompileReasonsUptoCard : Claim7 := { stood := { row := recompileReasonsUptoRow, standIns := [], harness := (true, "852a0a402c5a9e98e5006b68451320e927f4f3e04716cd03a1b6a5d78fa051d5"), looks := false }, kinds := [], alts := [], laidByText := true, laidKinds := [.listed, .data], laidTests := true, laidLooks := .later }
def RecompileReasonsUptoCardSaid : Prop := Claim7.holds Tryz.pinned (.plain (OpenSpec.upto recompileReasonsSpec)) recompileReasonsUptoCard

/-- THE SECOND FORM's CARD OF 'pilasterlaw41.RecompilePlans'. -/
def recompilePlansUptoCard : Claim7 := { stood := { row := recompilePlansUptoRow, standIns := [], harness := (true, "852a0a402c5a9e98e5006b68451320e927f4f3e04716cd03a1b6a5d78fa051d5"), looks := false }, kinds := [], alts := [], laidByText := true, laidKinds := [.listed, .data], laidTests := true, laidLooks := .later }
def RecompilePlansUptoCardSaid : Prop := Claim7.holds Tryz.pinned (.plain (OpenSpec.upto recompilePlansSpec)) recompilePlansUptoCard
end Rows
end Go.Proofs.YtmkdbndniffkfaaGreatDoor
