/-
  DERIVED. GIVEN WITH THE SEED: THE CARDS: each row of YtmkcffflebdheaaDoorRows.lean that lists a variable, with what it lists TIED to the program's text (the seventh form; the later family's looks); each row that meets fmt, with fmt's text TOLD by the authors' own Lean function (tested against real Go, not proved from fmt's source: count such statements apart). THE CARD IS WHAT COUNTS. Prove the row's statement (the work); the ties are given (YtmkcffflebdheaaDoorTie.lean); close each card by the builder's one call (the guide's Derived/Test/ToyasCard.lean, 'card_holds'). Laid BY PROGRAM, IN A SANDBOX (cutbox-door.mjs). By AI agents, Wed Nov 11 2026. No macro, syntax, notation, axiom, sorry.
-/
import Derived.Test.YtmkcffflebdheaaDoorRows
import GoSem.ClaimSeven
namespace Go.Proofs.YtmkcffflebdheaaDoor
namespace Rows

/-- THE TIED CARD OF 'pilasterlaw39.DigestSums'. -/
def digestSumsCard : Claim7 := { stood := { row := digestSumsRow, standIns := [], harness := (true, "333c0697a1e78b4e80845205fe550780f21c8c4dc0ffa31d6ebc314a46991944"), looks := false }, kinds := [], alts := [], laidByText := true, laidKinds := [.data], laidTests := true, laidLooks := .later }
def DigestSumsCardSaid : Prop := Claim7.holds Tryd.pinned (.plain (OpenSpec.ofChange digestSumsSpec)) digestSumsCard

/-- THE TIED CARD OF 'pilasterlaw39.DigestBlocks'. -/
def digestBlocksCard : Claim7 := { stood := { row := digestBlocksRow, standIns := [], harness := (true, "333c0697a1e78b4e80845205fe550780f21c8c4dc0ffa31d6ebc314a46991944"), looks := false }, kinds := [], alts := [], laidByText := true, laidKinds := [.data], laidTests := true, laidLooks := .later }
def DigestBlocksCardSaid : Prop := Claim7.holds Tryd.pinned (.plain (OpenSpec.ofChange digestBlocksSpec)) digestBlocksCard

/-- THE TIED CARD OF 'pilasterlaw39.DigestForms'. -/
def digestFormsCard : Claim7 := { stood := { row := digestFormsRow, standIns := [], harness := (true, "333c0697a1e78b4e80845205fe550780f21c8c4dc0ffa31d6ebc314a46991944"), looks := false }, kinds := [], alts := [], laidByText := true, laidKinds := [.data], laidTests := true, laidLooks := .later }
def DigestFormsCardSaid : Prop := Claim7.holds Tryd.pinned (.plain (OpenSpec.ofChange digestFormsSpec)) digestFormsCard

/-- THE TIED CARD OF 'pilasterlaw39.DigestValid'. -/
def digestValidCard : Claim7 := { stood := { row := digestValidRow, standIns := [], harness := (true, "333c0697a1e78b4e80845205fe550780f21c8c4dc0ffa31d6ebc314a46991944"), looks := false }, kinds := [], alts := [], laidByText := true, laidKinds := [.data, .data, .data, .data], laidTests := true, laidLooks := .later }
def DigestValidCardSaid : Prop := Claim7.holds Tryd.pinned (.plain (OpenSpec.ofChange digestValidSpec)) digestValidCard

/-- THE TIED CARD OF 'pilasterlaw39.DigestLists'. -/
def digestListsCard : Claim7 := { stood := { row := digestListsRow, standIns := [], harness := (true, "333c0697a1e78b4e80845205fe550780f21c8c4dc0ffa31d6ebc314a46991944"), looks := false }, kinds := [], alts := [], laidByText := true, laidKinds := [.data, .data, .data, .data], laidTests := true, laidLooks := .later }
def DigestListsCardSaid : Prop := Claim7.holds Tryd.pinned (.plain (OpenSpec.ofChange digestListsSpec)) digestListsCard

/-- THE SECOND FORM's CARD OF 'pilasterlaw39.DigestSums'. -/
def digestSumsUptoCard : Claim7 := { stood := { row := digestSumsUptoRow, standIns := [], harness := (true, "333c0697a1e78b4e80845205fe550780f21c8c4dc0ffa31d6ebc314a46991944"), looks := false }, kinds := [], alts := [], laidByText := true, laidKinds := [.data], laidTests := true, laidLooks := .later }
def DigestSumsUptoCardSaid : Prop := Claim7.holds Tryd.pinned (.plain (OpenSpec.upto digestSumsSpec)) digestSumsUptoCard

/-- THE SECOND FORM's CARD OF 'pilasterlaw39.DigestBlocks'. -/
def digestBlocksUptoCard : Claim7 := { stood := { row := digestBlocksUptoRow, standIns := [], harness := (true, "333c0697a1e78b4e80845205fe550780f21c8c4dc0ffa31d6ebc314a46991944"), looks := false }, kinds := [], alts := [], laidByText := true, laidKinds := [.data], laidTests := true, laidLooks := .later }
def DigestBlocksUptoCardSaid : Prop := Claim7.holds Tryd.pinned (.plain (OpenSpec.upto digestBlocksSpec)) digestBlocksUptoCard

/-- THE SECOND FORM's CARD OF 'pilasterlaw39.DigestForms'. -/
def digestFormsUptoCard : Claim7 := { stood := { row := digestFormsUptoRow, standIns := [], harness := (true, "333c0697a1e78b4e80845205fe550780f21c8c4dc0ffa31d6ebc314a46991944"), looks := false }, kinds := [], alts := [], laidByText := true, laidKinds := [.data], laidTests := true, laidLooks := .later }
def DigestFormsUptoCardSaid : Prop := Claim7.holds Tryd.pinned (.plain (OpenSpec.upto digestFormsSpec)) digestFormsUptoCard

/-- THE SECOND FORM's CARD OF 'pilasterlaw39.DigestValid'. -/
def digestValidUptoCard : Claim7 := { stood := { row := digestValidUptoRow, standIns := [], harness := (true, "333c0697a1e78b4e80845205fe550780f21c8c4dc0ffa31d6ebc314a46991944"), looks := false }, kinds := [], alts := [], laidByText := true, laidKinds := [.data, .data, .data, .data], laidTests := true, laidLooks := .later }
def DigestValidUptoCardSaid : Prop := Claim7.holds Tryd.pinned (.plain (OpenSpec.upto digestValidSpec)) digestValidUptoCard

/-- THE SECOND FORM's CARD OF 'pilasterlaw39.DigestLists'. -/
def digestListsUptoCard : Claim7 := { stood := { row := digestListsUptoRow, standIns := [], harness := (true, "333c0697a1e78b4e80845205fe550780f21c8c4dc0ffa31d6ebc314a46991944"), looks := false }, kinds := [], alts := [], laidByText := true, laidKinds := [.data, .data, .data, .data], laidTests := true, laidLooks := .later }
def DigestListsUptoCardSaid : Prop := Claim7.holds Tryd.pinned (.plain (OpenSpec.upto digestListsSpec)) digestListsUptoCard
end Rows
end Go.Proofs.YtmkcffflebdheaaDoor
