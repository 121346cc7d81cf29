/-
  DERIVED. GIVEN WITH THE SEED: THE CARDS: each row of YtkocjbgdmocmlaaGreatDoorRows.lean that lists a variable, with what it lists TIED to the program's text (the seventh form; the later family's looks); each row that meets fmt, with fmt's text TOLD by the authors' own Lean function (tested against real Go, not proved from fmt's source: count such statements apart). THE CARD IS WHAT COUNTS. Prove the row's statement (the work); the ties are given (YtkocjbgdmocmlaaGreatDoorTie.lean); close each card by the builder's one call (the guide's Derived/Test/ToyasCard.lean, 'card_holds'). Laid BY PROGRAM, IN A SANDBOX (cutbox-door.mjs). By AI agents, Wed Nov 11 2026. No macro, syntax, notation, axiom, sorry.
-/
import Derived.Test.YtkocjbgdmocmlaaGreatDoorRows
import GoSem.ClaimSeven
namespace Go.Proofs.YtkocjbgdmocmlaaGreatDoor
namespace Rows

/-- THE TIED CARD OF 'pilasterlaw07.ScopeLets'. -/
def scopeLetsCard : Claim7 := { stood := { row := scopeLetsRow, standIns := [], harness := (true, "02b03b23a1f7047b85c5fe60dc6ebff36e74ebdb110ce3b2616f009d3b45cb96"), looks := false }, kinds := [], alts := [], laidByText := true, laidKinds := [.listed, .data], laidTests := true, laidLooks := .later }
def ScopeLetsCardSaid : Prop := Claim7.holds Tryz.pinned (.plain (OpenSpec.ofChange scopeLetsSpec)) scopeLetsCard

/-- THE TIED CARD OF 'pilasterlaw07.ScopeChecks'. -/
def scopeChecksCard : Claim7 := { stood := { row := scopeChecksRow, standIns := [], harness := (true, "02b03b23a1f7047b85c5fe60dc6ebff36e74ebdb110ce3b2616f009d3b45cb96"), looks := false }, kinds := [], alts := [], laidByText := true, laidKinds := [.listed, .data], laidTests := true, laidLooks := .later }
def ScopeChecksCardSaid : Prop := Claim7.holds Tryz.pinned (.plain (OpenSpec.ofChange scopeChecksSpec)) scopeChecksCard

/-- THE TIED CARD OF 'pilasterlaw07.ScopeOrders'. -/
def scopeOrdersCard : Claim7 := { stood := { row := scopeOrdersRow, standIns := [], harness := (true, "02b03b23a1f7047b85c5fe60dc6ebff36e74ebdb110ce3b2616f009d3b45cb96"), looks := false }, kinds := [], alts := [], laidByText := true, laidKinds := [.listed, .data], laidTests := true, laidLooks := .later }
def ScopeOrdersCardSaid : Prop := Claim7.holds Tryz.pinned (.plain (OpenSpec.ofChange scopeOrdersSpec)) scopeOrdersCard

/-- THE TIED CARD OF 'pilasterlaw07.ScopeCloses'. -/
def scopeClosesCard : Claim7 := { stood := { row := scopeClosesRow, standIns := [], harness := (true, "02b03b23a1f7047b85c5fe60dc6ebff36e74ebdb110ce3b2616f009d3b45cb96"), looks := false }, kinds := [], alts := [], laidByText := true, laidKinds := [.listed, .data], laidTests := true, laidLooks := .later }
def ScopeClosesCardSaid : Prop := Claim7.holds Tryz.pinned (.plain (OpenSpec.ofChange scopeClosesSpec)) scopeClosesCard

/-- THE TIED CARD OF 'pilasterlaw07.ScopePaths'. -/
def scopePathsCard : Claim7 := { stood := { row := scopePathsRow, standIns := [], harness := (true, "02b03b23a1f7047b85c5fe60dc6ebff36e74ebdb110ce3b2616f009d3b45cb96"), looks := false }, kinds := [], alts := [], laidByText := true, laidKinds := [.listed, .data], laidTests := true, laidLooks := .later }
def ScopePathsCardSaid : Prop := Claim7.holds Tryz.pinned (.plain (OpenSpec.ofChange scopePathsSpec)) scopePathsCard

/-- THE TIED CARD OF 'pilasterlaw07.ScopeFinds'. -/
def scopeFindsCard : Claim7 := { stood := { row := scopeFindsRow, standIns := [], harness := (true, "02b03b23a1f7047b85c5fe60dc6ebff36e74ebdb110ce3b2616f009d3b45cb96"), looks := false }, kinds := [], alts := [], laidByText := true, laidKinds := [.listed, .data], laidTests := true, laidLooks := .later }
def ScopeFindsCardSaid : Prop := Claim7.holds Tryz.pinned (.plain (OpenSpec.ofChange scopeFindsSpec)) scopeFindsCard

/-- THE TIED CARD OF 'pilasterlaw07.ScopeUnits'. -/
def scopeUnitsCard : Claim7 := { stood := { row := scopeUnitsRow, standIns := [], harness := (true, "02b03b23a1f7047b85c5fe60dc6ebff36e74ebdb110ce3b2616f009d3b45cb96"), looks := false }, kinds := [], alts := [], laidByText := true, laidKinds := [.listed, .data], laidTests := true, laidLooks := .later }
def ScopeUnitsCardSaid : Prop := Claim7.holds Tryz.pinned (.plain (OpenSpec.ofChange scopeUnitsSpec)) scopeUnitsCard

/-- THE TIED CARD OF 'pilasterlaw07.ScopeAfter'. -/
def scopeAfterCard : Claim7 := { stood := { row := scopeAfterRow, standIns := [], harness := (true, "02b03b23a1f7047b85c5fe60dc6ebff36e74ebdb110ce3b2616f009d3b45cb96"), looks := false }, kinds := [], alts := [], laidByText := true, laidKinds := [.listed, .data], laidTests := true, laidLooks := .later }
def ScopeAfterCardSaid : Prop := Claim7.holds Tryz.pinned (.plain (OpenSpec.ofChange scopeAfterSpec)) scopeAfterCard

/-- THE SECOND FORM's CARD OF 'pilasterlaw07.ScopeLets'. -/
def scopeLetsUptoCard : Claim7 := { stood := { row := scopeLetsUptoRow, standIns := [], harness := (true, "02b03b23a1f7047b85c5fe60dc6ebff36e74ebdb110ce3b2616f009d3b45cb96"), looks := false }, kinds := [], alts := [], laidByText := true, laidKinds := [.listed, .data], laidTests := true, laidLooks := .later }
def ScopeLetsUptoCardSaid : Prop := Claim7.holds Tryz.pinned (.plain (OpenSpec.upto scopeLetsSpec)) scopeLetsUptoCard

/-- THE SECOND FORM's CARD OF 'pilasterlaw07.ScopeChecks'. -/
def scopeChecksUptoCard : Claim7 := { stood := { row := scopeChecksUptoRow, standIns := [], harness := (true, "02b03b23a1f7047b85c5fe60dc6ebff36e74ebdb110ce3b2616f009d3b45cb96"), looks := false }, kinds := [], alts := [], laidByText := true, laidKinds := [.listed, .data], laidTests := true, laidLooks := .later }
def ScopeChecksUptoCardSaid : Prop := Claim7.holds Tryz.pinned (.plain (OpenSpec.upto scopeChecksSpec)) scopeChecksUptoCard

/-- THE SECOND FORM's CARD OF 'pilasterlaw07.ScopeOrders'. -/
def scopeOrdersUptoCard : Claim7 := { stood := { row := scopeOrdersUptoRow, standIns := [], harness := (true, "02b03b23a1f7047b85c5fe60dc6ebff36e74ebdb110ce3b2616f009d3b45cb96"), looks := false }, kinds := [], alts := [], laidByText := true, laidKinds := [.listed, .data], laidTests := true, laidLooks := .later }
def ScopeOrdersUptoCardSaid : Prop := Claim7.holds Tryz.pinned (.plain (OpenSpec.upto scopeOrdersSpec)) scopeOrdersUptoCard

/-- THE SECOND FORM's CARD OF 'pilasterlaw07.ScopeCloses'. -/
def scopeClosesUptoCard : Claim7 := { stood := { row := scopeClosesUptoRow, standIns := [], harness := (true, "02b03b23a1f7047b85c5fe60dc6ebff36e74ebdb110ce3b2616f009d3b45cb96"), looks := false }, kinds := [], alts := [], laidByText := true, laidKinds := [.listed, .data], laidTests := true, laidLooks := .later }
def ScopeClosesUptoCardSaid : Prop := Claim7.holds Tryz.pinned (.plain (OpenSpec.upto scopeClosesSpec)) scopeClosesUptoCard

/-- THE SECOND FORM's CARD OF 'pilasterlaw07.ScopePaths'. -/
def scopePathsUptoCard : Claim7 := { stood := { row := scopePathsUptoRow, standIns := [], harness := (true, "02b03b23a1f7047b85c5fe60dc6ebff36e74ebdb110ce3b2616f009d3b45cb96"), looks := false }, kinds := [], alts := [], laidByText := true, laidKinds := [.listed, .data], laidTests := true, laidLooks := .later }
def ScopePathsUptoCardSaid : Prop := Claim7.holds Tryz.pinned (.plain (OpenSpec.upto scopePathsSpec)) scopePathsUptoCard

/-- THE SECOND FORM's CARD OF 'pilasterlaw07.ScopeFinds'. -/
def scopeFindsUptoCard : Claim7 := { stood := { row := scopeFindsUptoRow, standIns := [], harness := (true, "02b03b23a1f7047b85c5fe60dc6ebff36e74ebdb110ce3b2616f009d3b45cb96"), looks := false }, kinds := [], alts := [], laidByText := true, laidKinds := [.listed, .data], laidTests := true, laidLooks := .later }
def ScopeFindsUptoCardSaid : Prop := Claim7.holds Tryz.pinned (.plain (OpenSpec.upto scopeFindsSpec)) scopeFindsUptoCard

/-- THE SECOND FORM's CARD OF 'pilasterlaw07.ScopeUnits'. -/
def scopeUnitsUptoCard : Claim7 := { stood := { row := scopeUnitsUptoRow, standIns := [], harness := (true, "02b03b23a1f7047b85c5fe60dc6ebff36e74ebdb110ce3b2616f009d3b45cb96"), looks := false }, kinds := [], alts := [], laidByText := true, laidKinds := [.listed, .data], laidTests := true, laidLooks := .later }
def ScopeUnitsUptoCardSaid : Prop := Claim7.holds Tryz.pinned (.plain (OpenSpec.upto scopeUnitsSpec)) scopeUnitsUptoCard

/-- THE SECOND FORM's CARD OF 'pilasterlaw07.ScopeAfter'. -/
def scopeAfterUptoCard : Claim7 := { stood := { row := scopeAfterUptoRow, standIns := [], harness := (true, "02b03b23a1f7047b85c5fe60dc6ebff36e74ebdb110ce3b2616f009d3b45cb96"), looks := false }, kinds := [], alts := [], laidByText := true, laidKinds := [.listed, .data], laidTests := true, laidLooks := .later }
def ScopeAfterUptoCardSaid : Prop := Claim7.holds Tryz.pinned (.plain (OpenSpec.upto scopeAfterSpec)) scopeAfterUptoCard
end Rows
end Go.Proofs.YtkocjbgdmocmlaaGreatDoor
