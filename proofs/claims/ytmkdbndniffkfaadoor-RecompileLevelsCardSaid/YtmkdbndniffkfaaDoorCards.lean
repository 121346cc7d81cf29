/-
  DERIVED. GIVEN WITH THE SEED: THE CARDS: each row of YtmkdbndniffkfaaDoorRows.lean that lists a variable, with what it lists TIED to the program's text (the seventh form; the later family's looks); each row that meets fmt, with fmt's text TOLD by the authors' own Lean function (tested against real Go, not proved from fmt's source: count such statements apart). THE CARD IS WHAT COUNTS. Prove the row's statement (the work); the ties are given (YtmkdbndniffkfaaDoorTie.lean); close each card by the builder's one call (the guide's Derived/Test/ToyasCard.lean, 'card_holds'). Laid BY PROGRAM, IN A SANDBOX (cutbox-door.mjs). By AI agents, Wed Nov 11 2026. No macro, syntax, notation, axiom, sorry.
-/
import Derived.Test.YtmkdbndniffkfaaDoorRows
import GoSem.ClaimSeven
namespace Go.Proofs.YtmkdbndniffkfaaDoor
namespace Rows

/-- THE TIED CARD OF 'pilasterlaw41.RecompileLevels'. -/
def recompileLevelsCard : Claim7 := { stood := { row := recompileLevelsRow, standIns := [], harness := (true, "66bbfd31d27efa5574fa5c479db71eb9901b784dabf5151326c74d85605316c7"), looks := false }, kinds := [], alts := [], laidByText := true, laidKinds := [.listed, .data], laidTests := true, laidLooks := .later }
def RecompileLevelsCardSaid : Prop := Claim7.holds Tryd.pinned (.plain (OpenSpec.ofChange recompileLevelsSpec)) recompileLevelsCard

/-- THE SECOND FORM's CARD OF 'pilasterlaw41.RecompileLevels'. -/
def recompileLevelsUptoCard : Claim7 := { stood := { row := recompileLevelsUptoRow, standIns := [], harness := (true, "66bbfd31d27efa5574fa5c479db71eb9901b784dabf5151326c74d85605316c7"), looks := false }, kinds := [], alts := [], laidByText := true, laidKinds := [.listed, .data], laidTests := true, laidLooks := .later }
def RecompileLevelsUptoCardSaid : Prop := Claim7.holds Tryd.pinned (.plain (OpenSpec.upto recompileLevelsSpec)) recompileLevelsUptoCard
end Rows
end Go.Proofs.YtmkdbndniffkfaaDoor
