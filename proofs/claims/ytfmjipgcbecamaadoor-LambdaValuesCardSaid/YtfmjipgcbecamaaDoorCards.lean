/-
  DERIVED. GIVEN WITH THE SEED: THE CARDS: each row of YtfmjipgcbecamaaDoorRows.lean that lists a variable, with what it lists TIED to the program's text (the seventh form; the later family's looks); each row that meets fmt, with fmt's text TOLD by the authors' own Lean function (tested against real Go, not proved from fmt's source: count such statements apart). THE CARD IS WHAT COUNTS. Prove the row's statement (the work); the ties are given (YtfmjipgcbecamaaDoorTie.lean); close each card by the builder's one call (the guide's Derived/Test/ToyasCard.lean, 'card_holds'). Laid BY PROGRAM, IN A SANDBOX (cutbox-door.mjs). By AI agents, Wed Nov 11 2026. No macro, syntax, notation, axiom, sorry.
-/
import Derived.Test.YtfmjipgcbecamaaDoorRows
import GoSem.ClaimSeven
namespace Go.Proofs.YtfmjipgcbecamaaDoor
namespace Rows

/-- THE TIED CARD OF 'pilasterlaw44.LambdaRuns'. -/
def lambdaRunsCard : Claim7 := { stood := { row := lambdaRunsRow, standIns := [], harness := (true, "5a43a49221a61b5f9512123db90382560516aa6d4693f96f790cf6ff83643415"), looks := true }, kinds := [], alts := [], laidByText := true, laidKinds := [.data, .data, .data], laidTests := true, laidLooks := .later }
def LambdaRunsCardSaid : Prop := Claim7.holds Tryd.pinned (.plain (OpenSpec.ofChange lambdaRunsSpec)) lambdaRunsCard

/-- THE TIED CARD OF 'pilasterlaw44.LambdaFuel'. -/
def lambdaFuelCard : Claim7 := { stood := { row := lambdaFuelRow, standIns := [], harness := (true, "5a43a49221a61b5f9512123db90382560516aa6d4693f96f790cf6ff83643415"), looks := true }, kinds := [], alts := [], laidByText := true, laidKinds := [.data, .data, .data], laidTests := true, laidLooks := .later }
def LambdaFuelCardSaid : Prop := Claim7.holds Tryd.pinned (.plain (OpenSpec.ofChange lambdaFuelSpec)) lambdaFuelCard

/-- THE TIED CARD OF 'pilasterlaw44.LambdaLets'. -/
def lambdaLetsCard : Claim7 := { stood := { row := lambdaLetsRow, standIns := [], harness := (true, "5a43a49221a61b5f9512123db90382560516aa6d4693f96f790cf6ff83643415"), looks := true }, kinds := [], alts := [], laidByText := true, laidKinds := [.data, .data, .data], laidTests := true, laidLooks := .later }
def LambdaLetsCardSaid : Prop := Claim7.holds Tryd.pinned (.plain (OpenSpec.ofChange lambdaLetsSpec)) lambdaLetsCard

/-- THE TIED CARD OF 'pilasterlaw44.LambdaValues'. -/
def lambdaValuesCard : Claim7 := { stood := { row := lambdaValuesRow, standIns := [], harness := (true, "5a43a49221a61b5f9512123db90382560516aa6d4693f96f790cf6ff83643415"), looks := true }, kinds := [], alts := [], laidByText := true, laidKinds := [.data, .data, .data], laidTests := true, laidLooks := .later }
def LambdaValuesCardSaid : Prop := Claim7.holds Tryd.pinned (.plain (OpenSpec.ofChange lambdaValuesSpec)) lambdaValuesCard

/-- THE TIED CARD OF 'pilasterlaw44.LambdaFree'. -/
def lambdaFreeCard : Claim7 := { stood := { row := lambdaFreeRow, standIns := [], harness := (true, "5a43a49221a61b5f9512123db90382560516aa6d4693f96f790cf6ff83643415"), looks := true }, kinds := [], alts := [], laidByText := true, laidKinds := [.data, .data, .data], laidTests := true, laidLooks := .later }
def LambdaFreeCardSaid : Prop := Claim7.holds Tryd.pinned (.plain (OpenSpec.ofChange lambdaFreeSpec)) lambdaFreeCard

/-- THE TIED CARD OF 'pilasterlaw44.LambdaForms'. -/
def lambdaFormsCard : Claim7 := { stood := { row := lambdaFormsRow, standIns := [], harness := (true, "5a43a49221a61b5f9512123db90382560516aa6d4693f96f790cf6ff83643415"), looks := true }, kinds := [], alts := [], laidByText := true, laidKinds := [.data, .data, .data], laidTests := true, laidLooks := .later }
def LambdaFormsCardSaid : Prop := Claim7.holds Tryd.pinned (.plain (OpenSpec.ofChange lambdaFormsSpec)) lambdaFormsCard

/-- THE SECOND FORM's CARD OF 'pilasterlaw44.LambdaRuns'. -/
def lambdaRunsUptoCard : Claim7 := { stood := { row := lambdaRunsUptoRow, standIns := [], harness := (true, "5a43a49221a61b5f9512123db90382560516aa6d4693f96f790cf6ff83643415"), looks := true }, kinds := [], alts := [], laidByText := true, laidKinds := [.data, .data, .data], laidTests := true, laidLooks := .later }
def LambdaRunsUptoCardSaid : Prop := Claim7.holds Tryd.pinned (.plain (OpenSpec.upto lambdaRunsSpec)) lambdaRunsUptoCard

/-- THE SECOND FORM's CARD OF 'pilasterlaw44.LambdaFuel'. -/
def lambdaFuelUptoCard : Claim7 := { stood := { row := lambdaFuelUptoRow, standIns := [], harness := (true, "5a43a49221a61b5f9512123db90382560516aa6d4693f96f790cf6ff83643415"), looks := true }, kinds := [], alts := [], laidByText := true, laidKinds := [.data, .data, .data], laidTests := true, laidLooks := .later }
def LambdaFuelUptoCardSaid : Prop := Claim7.holds Tryd.pinned (.plain (OpenSpec.upto lambdaFuelSpec)) lambdaFuelUptoCard

/-- THE SECOND FORM's CARD OF 'pilasterlaw44.LambdaLets'. -/
def lambdaLetsUptoCard : Claim7 := { stood := { row := lambdaLetsUptoRow, standIns := [], harness := (true, "5a43a49221a61b5f9512123db90382560516aa6d4693f96f790cf6ff83643415"), looks := true }, kinds := [], alts := [], laidByText := true, laidKinds := [.data, .data, .data], laidTests := true, laidLooks := .later }
def LambdaLetsUptoCardSaid : Prop := Claim7.holds Tryd.pinned (.plain (OpenSpec.upto lambdaLetsSpec)) lambdaLetsUptoCard

/-- THE SECOND FORM's CARD OF 'pilasterlaw44.LambdaValues'. -/
def lambdaValuesUptoCard : Claim7 := { stood := { row := lambdaValuesUptoRow, standIns := [], harness := (true, "5a43a49221a61b5f9512123db90382560516aa6d4693f96f790cf6ff83643415"), looks := true }, kinds := [], alts := [], laidByText := true, laidKinds := [.data, .data, .data], laidTests := true, laidLooks := .later }
def LambdaValuesUptoCardSaid : Prop := Claim7.holds Tryd.pinned (.plain (OpenSpec.upto lambdaValuesSpec)) lambdaValuesUptoCard

/-- THE SECOND FORM's CARD OF 'pilasterlaw44.LambdaFree'. -/
def lambdaFreeUptoCard : Claim7 := { stood := { row := lambdaFreeUptoRow, standIns := [], harness := (true, "5a43a49221a61b5f9512123db90382560516aa6d4693f96f790cf6ff83643415"), looks := true }, kinds := [], alts := [], laidByText := true, laidKinds := [.data, .data, .data], laidTests := true, laidLooks := .later }
def LambdaFreeUptoCardSaid : Prop := Claim7.holds Tryd.pinned (.plain (OpenSpec.upto lambdaFreeSpec)) lambdaFreeUptoCard

/-- THE SECOND FORM's CARD OF 'pilasterlaw44.LambdaForms'. -/
def lambdaFormsUptoCard : Claim7 := { stood := { row := lambdaFormsUptoRow, standIns := [], harness := (true, "5a43a49221a61b5f9512123db90382560516aa6d4693f96f790cf6ff83643415"), looks := true }, kinds := [], alts := [], laidByText := true, laidKinds := [.data, .data, .data], laidTests := true, laidLooks := .later }
def LambdaFormsUptoCardSaid : Prop := Claim7.holds Tryd.pinned (.plain (OpenSpec.upto lambdaFormsSpec)) lambdaFormsUptoCard
end Rows
end Go.Proofs.YtfmjipgcbecamaaDoor
