/-
  DERIVED. GIVEN WITH THE SEED: THE CARDS: each row of YtmakoecgogjemaaDoorRows.lean that lists a variable, with what it lists TIED to the program's text (the seventh form; the later family's looks); each row that meets fmt, with fmt's text TOLD by the authors' own Lean function (tested against real Go, not proved from fmt's source: count such statements apart). THE CARD IS WHAT COUNTS. Prove the row's statement (the work); the ties are given (YtmakoecgogjemaaDoorTie.lean); close each card by the builder's one call (the guide's Derived/Test/ToyasCard.lean, 'card_holds'). Laid BY PROGRAM, IN A SANDBOX (cutbox-door.mjs). By AI agents, Wed Nov 11 2026. No macro, syntax, notation, axiom, sorry.
-/
import Derived.Test.YtmakoecgogjemaaDoorRows
import GoSem.ClaimSeven
namespace Go.Proofs.YtmakoecgogjemaaDoor
namespace Rows

/-- THE TIED CARD OF 'pilasterlaw03.SyntaxForms'. -/
def syntaxFormsCard : Claim7 := { stood := { row := syntaxFormsRow, standIns := [], harness := (true, "45efa81c5e250a620372800c609513288f06c8ead0d7eb4b0ea23e671a2c6727"), looks := false }, kinds := [], alts := [], laidByText := true, laidKinds := [.listed, .data], laidTests := true, laidLooks := .later }
def SyntaxFormsCardSaid : Prop := Claim7.holds Tryd.pinned (.plain (OpenSpec.ofChange syntaxFormsSpec)) syntaxFormsCard

/-- THE TIED CARD OF 'pilasterlaw03.SyntaxParts'. -/
def syntaxPartsCard : Claim7 := { stood := { row := syntaxPartsRow, standIns := [], harness := (true, "45efa81c5e250a620372800c609513288f06c8ead0d7eb4b0ea23e671a2c6727"), looks := false }, kinds := [], alts := [], laidByText := true, laidKinds := [.listed, .data], laidTests := true, laidLooks := .later }
def SyntaxPartsCardSaid : Prop := Claim7.holds Tryd.pinned (.plain (OpenSpec.ofChange syntaxPartsSpec)) syntaxPartsCard

/-- THE TIED CARD OF 'pilasterlaw03.SyntaxPaths'. -/
def syntaxPathsCard : Claim7 := { stood := { row := syntaxPathsRow, standIns := [], harness := (true, "45efa81c5e250a620372800c609513288f06c8ead0d7eb4b0ea23e671a2c6727"), looks := false }, kinds := [], alts := [], laidByText := true, laidKinds := [.listed, .data], laidTests := true, laidLooks := .later }
def SyntaxPathsCardSaid : Prop := Claim7.holds Tryd.pinned (.plain (OpenSpec.ofChange syntaxPathsSpec)) syntaxPathsCard

/-- THE TIED CARD OF 'pilasterlaw03.SyntaxSizes'. -/
def syntaxSizesCard : Claim7 := { stood := { row := syntaxSizesRow, standIns := [], harness := (true, "45efa81c5e250a620372800c609513288f06c8ead0d7eb4b0ea23e671a2c6727"), looks := false }, kinds := [], alts := [], laidByText := true, laidKinds := [.listed, .data], laidTests := true, laidLooks := .later }
def SyntaxSizesCardSaid : Prop := Claim7.holds Tryd.pinned (.plain (OpenSpec.ofChange syntaxSizesSpec)) syntaxSizesCard

/-- THE TIED CARD OF 'pilasterlaw03.SyntaxReplaces'. -/
def syntaxReplacesCard : Claim7 := { stood := { row := syntaxReplacesRow, standIns := [], harness := (true, "45efa81c5e250a620372800c609513288f06c8ead0d7eb4b0ea23e671a2c6727"), looks := false }, kinds := [], alts := [], laidByText := true, laidKinds := [.listed, .data], laidTests := true, laidLooks := .later }
def SyntaxReplacesCardSaid : Prop := Claim7.holds Tryd.pinned (.plain (OpenSpec.ofChange syntaxReplacesSpec)) syntaxReplacesCard

/-- THE TIED CARD OF 'pilasterlaw03.SyntaxAgain'. -/
def syntaxAgainCard : Claim7 := { stood := { row := syntaxAgainRow, standIns := [], harness := (true, "45efa81c5e250a620372800c609513288f06c8ead0d7eb4b0ea23e671a2c6727"), looks := false }, kinds := [], alts := [], laidByText := true, laidKinds := [.listed, .data], laidTests := true, laidLooks := .later }
def SyntaxAgainCardSaid : Prop := Claim7.holds Tryd.pinned (.plain (OpenSpec.ofChange syntaxAgainSpec)) syntaxAgainCard

/-- THE SECOND FORM's CARD OF 'pilasterlaw03.SyntaxForms'. -/
def syntaxFormsUptoCard : Claim7 := { stood := { row := syntaxFormsUptoRow, standIns := [], harness := (true, "45efa81c5e250a620372800c609513288f06c8ead0d7eb4b0ea23e671a2c6727"), looks := false }, kinds := [], alts := [], laidByText := true, laidKinds := [.listed, .data], laidTests := true, laidLooks := .later }
def SyntaxFormsUptoCardSaid : Prop := Claim7.holds Tryd.pinned (.plain (OpenSpec.upto syntaxFormsSpec)) syntaxFormsUptoCard

/-- THE SECOND FORM's CARD OF 'pilasterlaw03.SyntaxParts'. -/
def syntaxPartsUptoCard : Claim7 := { stood := { row := syntaxPartsUptoRow, standIns := [], harness := (true, "45efa81c5e250a620372800c609513288f06c8ead0d7eb4b0ea23e671a2c6727"), looks := false }, kinds := [], alts := [], laidByText := true, laidKinds := [.listed, .data], laidTests := true, laidLooks := .later }
def SyntaxPartsUptoCardSaid : Prop := Claim7.holds Tryd.pinned (.plain (OpenSpec.upto syntaxPartsSpec)) syntaxPartsUptoCard

/-- THE SECOND FORM's CARD OF 'pilasterlaw03.SyntaxPaths'. -/
def syntaxPathsUptoCard : Claim7 := { stood := { row := syntaxPathsUptoRow, standIns := [], harness := (true, "45efa81c5e250a620372800c609513288f06c8ead0d7eb4b0ea23e671a2c6727"), looks := false }, kinds := [], alts := [], laidByText := true, laidKinds := [.listed, .data], laidTests := true, laidLooks := .later }
def SyntaxPathsUptoCardSaid : Prop := Claim7.holds Tryd.pinned (.plain (OpenSpec.upto syntaxPathsSpec)) syntaxPathsUptoCard

/-- THE SECOND FORM's CARD OF 'pilasterlaw03.SyntaxSizes'. -/
def syntaxSizesUptoCard : Claim7 := { stood := { row := syntaxSizesUptoRow, standIns := [], harness := (true, "45efa81c5e250a620372800c609513288f06c8ead0d7eb4b0ea23e671a2c6727"), looks := false }, kinds := [], alts := [], laidByText := true, laidKinds := [.listed, .data], laidTests := true, laidLooks := .later }
def SyntaxSizesUptoCardSaid : Prop := Claim7.holds Tryd.pinned (.plain (OpenSpec.upto syntaxSizesSpec)) syntaxSizesUptoCard

/-- THE SECOND FORM's CARD OF 'pilasterlaw03.SyntaxReplaces'. -/
def syntaxReplacesUptoCard : Claim7 := { stood := { row := syntaxReplacesUptoRow, standIns := [], harness := (true, "45efa81c5e250a620372800c609513288f06c8ead0d7eb4b0ea23e671a2c6727"), looks := false }, kinds := [], alts := [], laidByText := true, laidKinds := [.listed, .data], laidTests := true, laidLooks := .later }
def SyntaxReplacesUptoCardSaid : Prop := Claim7.holds Tryd.pinned (.plain (OpenSpec.upto syntaxReplacesSpec)) syntaxReplacesUptoCard

/-- THE SECOND FORM's CARD OF 'pilasterlaw03.SyntaxAgain'. -/
def syntaxAgainUptoCard : Claim7 := { stood := { row := syntaxAgainUptoRow, standIns := [], harness := (true, "45efa81c5e250a620372800c609513288f06c8ead0d7eb4b0ea23e671a2c6727"), looks := false }, kinds := [], alts := [], laidByText := true, laidKinds := [.listed, .data], laidTests := true, laidLooks := .later }
def SyntaxAgainUptoCardSaid : Prop := Claim7.holds Tryd.pinned (.plain (OpenSpec.upto syntaxAgainSpec)) syntaxAgainUptoCard
end Rows
end Go.Proofs.YtmakoecgogjemaaDoor
