/-
  DERIVED. GIVEN WITH THE SEED: THE CARDS: each row of YthlcdgpemjdgnaaGreatDoorRows.lean that lists a variable, with what it lists TIED to the program's text (the seventh form; the later family's looks); each row that meets fmt, with fmt's text TOLD by the authors' own Lean function (tested against real Go, not proved from fmt's source: count such statements apart). THE CARD IS WHAT COUNTS. Prove the row's statement (the work); the ties are given (YthlcdgpemjdgnaaGreatDoorTie.lean); close each card by the builder's one call (the guide's Derived/Test/ToyasCard.lean, 'card_holds'). Laid BY PROGRAM, IN A SANDBOX (cutbox-door.mjs). By AI agents, Wed Nov 11 2026. No macro, syntax, notation, axiom, sorry.
-/
import Derived.Test.YthlcdgpemjdgnaaGreatDoorRows
import GoSem.ClaimSeven
namespace Go.Proofs.YthlcdgpemjdgnaaGreatDoor
namespace Rows

/-- THE TIED CARD OF 'pilasterlaw45.ClosureRuns'. -/
def closureRunsCard : Claim7 := { stood := { row := closureRunsRow, standIns := [], harness := (true, "57a8adbdd309cb05687f641139c00ecc64d0e37df757edb39531c9a66f0920d9"), looks := true }, kinds := [], alts := [], laidByText := true, laidKinds := [.data, .data, .data], laidTests := true, laidLooks := .later }
def ClosureRunsCardSaid : Prop := Claim7.holds Tryz.pinned (.plain (OpenSpec.ofChange closureRunsSpec)) closureRunsCard

/-- THE TIED CARD OF 'pilasterlaw45.ClosureFuel'. -/
def closureFuelCard : Claim7 := { stood := { row := closureFuelRow, standIns := [], harness := (true, "57a8adbdd309cb05687f641139c00ecc64d0e37df757edb39531c9a66f0920d9"), looks := true }, kinds := [], alts := [], laidByText := true, laidKinds := [.data, .data, .data], laidTests := true, laidLooks := .later }
def ClosureFuelCardSaid : Prop := Claim7.holds Tryz.pinned (.plain (OpenSpec.ofChange closureFuelSpec)) closureFuelCard

/-- THE TIED CARD OF 'pilasterlaw45.ClosureAgrees'. -/
def closureAgreesCard : Claim7 := { stood := { row := closureAgreesRow, standIns := [], harness := (true, "57a8adbdd309cb05687f641139c00ecc64d0e37df757edb39531c9a66f0920d9"), looks := true }, kinds := [], alts := [], laidByText := true, laidKinds := [.data, .data, .data], laidTests := true, laidLooks := .later }
def ClosureAgreesCardSaid : Prop := Claim7.holds Tryz.pinned (.plain (OpenSpec.ofChange closureAgreesSpec)) closureAgreesCard

/-- THE SECOND FORM's CARD OF 'pilasterlaw45.ClosureRuns'. -/
def closureRunsUptoCard : Claim7 := { stood := { row := closureRunsUptoRow, standIns := [], harness := (true, "57a8adbdd309cb05687f641139c00ecc64d0e37df757edb39531c9a66f0920d9"), looks := true }, kinds := [], alts := [], laidByText := true, laidKinds := [.data, .data, .data], laidTests := true, laidLooks := .later }
def ClosureRunsUptoCardSaid : Prop := Claim7.holds Tryz.pinned (.plain (OpenSpec.upto closureRunsSpec)) closureRunsUptoCard

/-- THE SECOND FORM's CARD OF 'pilasterlaw45.ClosureFuel'. -/
def closureFuelUptoCard : Claim7 := { stood := { row := closureFuelUptoRow, standIns := [], harness := (true, "57a8adbdd309cb05687f641139c00ecc64d0e37df757edb39531c9a66f0920d9"), looks := true }, kinds := [], alts := [], laidByText := true, laidKinds := [.data, .data, .data], laidTests := true, laidLooks := .later }
def ClosureFuelUptoCardSaid : Prop := Claim7.holds Tryz.pinned (.plain (OpenSpec.upto closureFuelSpec)) closureFuelUptoCard

/-- THE SECOND FORM's CARD OF 'pilasterlaw45.ClosureAgrees'. -/
def closureAgreesUptoCard : Claim7 := { stood := { row := closureAgreesUptoRow, standIns := [], harness := (true, "57a8adbdd309cb05687f641139c00ecc64d0e37df757edb39531c9a66f0920d9"), looks := true }, kinds := [], alts := [], laidByText := true, laidKinds := [.data, .data, .data], laidTests := true, laidLooks := .later }
def ClosureAgreesUptoCardSaid : Prop := Claim7.holds Tryz.pinned (.plain (OpenSpec.upto closureAgreesSpec)) closureAgreesUptoCard
end Rows
end Go.Proofs.YthlcdgpemjdgnaaGreatDoor
