/-
  DERIVED. GIVEN WITH THE SEED: THE PROGRAM's TIES (one call each: nine closed facts by the kernel) AND EACH ROW's TIE, after the 31st guide's Derived/Test/Toyas{Tie, Card}.lean. No idea stands in it: it is a product of the set-up. Laid BY PROGRAM, IN A SANDBOX (cutbox-door.mjs). By AI agents, Wed Nov 11 2026. No macro, syntax, notation, axiom, sorry.
-/
import Derived.Test.YtkocjbgdmocmlaaGreatDoorRows
import Derived.LaidByTextLater
import Derived.SevenTiedAt
import Derived.LaidSub
import Derived.LaidOnce
namespace Go.Proofs.YtkocjbgdmocmlaaGreatDoor
open Go
set_option maxRecDepth 100000
theorem seatTie1 : Tryz.prog.laidByTextLater [("unicode.White_Space", Rows.laid_unicode_White_Space), ("strings.asciiSpace", Rows.laid_strings_asciiSpace)] [.listed, .data] true :=
  Program.laidByTextLater_by_one 33 8 257 (by kernel_rfl) (by kernel_rfl) (by kernel_rfl) (by kernel_rfl) (by kernel_rfl) (by kernel_rfl) (fun _ _ => by kernel_rfl)
theorem noOwnUnsafe : Tryz.pinned.checked.prog.headLifts.contains "ownunsafe" = false := by kernel_rfl
theorem tie : Tryz.prog.laidByTextLater [("unicode.White_Space", Rows.laid_unicode_White_Space), ("strings.asciiSpace", Rows.laid_strings_asciiSpace)] [.listed, .data] true :=
  Program.laidByTextLater.sub seatTie1 ["unicode.White_Space", "strings.asciiSpace"] (by kernel_rfl) (by kernel_rfl)
theorem scopeLets_row_tie : Rows.scopeLetsRow.laidByTextAt .later Tryz.pinned [.listed, .data] true :=
  OpenClaim.laidByTextAt_later rfl rfl tie noOwnUnsafe
theorem scopeChecks_row_tie : Rows.scopeChecksRow.laidByTextAt .later Tryz.pinned [.listed, .data] true :=
  OpenClaim.laidByTextAt_later rfl rfl tie noOwnUnsafe
theorem scopeOrders_row_tie : Rows.scopeOrdersRow.laidByTextAt .later Tryz.pinned [.listed, .data] true :=
  OpenClaim.laidByTextAt_later rfl rfl tie noOwnUnsafe
theorem scopeCloses_row_tie : Rows.scopeClosesRow.laidByTextAt .later Tryz.pinned [.listed, .data] true :=
  OpenClaim.laidByTextAt_later rfl rfl tie noOwnUnsafe
theorem scopePaths_row_tie : Rows.scopePathsRow.laidByTextAt .later Tryz.pinned [.listed, .data] true :=
  OpenClaim.laidByTextAt_later rfl rfl tie noOwnUnsafe
theorem scopeFinds_row_tie : Rows.scopeFindsRow.laidByTextAt .later Tryz.pinned [.listed, .data] true :=
  OpenClaim.laidByTextAt_later rfl rfl tie noOwnUnsafe
theorem scopeUnits_row_tie : Rows.scopeUnitsRow.laidByTextAt .later Tryz.pinned [.listed, .data] true :=
  OpenClaim.laidByTextAt_later rfl rfl tie noOwnUnsafe
theorem scopeAfter_row_tie : Rows.scopeAfterRow.laidByTextAt .later Tryz.pinned [.listed, .data] true :=
  OpenClaim.laidByTextAt_later rfl rfl tie noOwnUnsafe
theorem scopeLetsUpto_row_tie : Rows.scopeLetsUptoRow.laidByTextAt .later Tryz.pinned [.listed, .data] true :=
  OpenClaim.laidByTextAt_later rfl rfl tie noOwnUnsafe
theorem scopeChecksUpto_row_tie : Rows.scopeChecksUptoRow.laidByTextAt .later Tryz.pinned [.listed, .data] true :=
  OpenClaim.laidByTextAt_later rfl rfl tie noOwnUnsafe
theorem scopeOrdersUpto_row_tie : Rows.scopeOrdersUptoRow.laidByTextAt .later Tryz.pinned [.listed, .data] true :=
  OpenClaim.laidByTextAt_later rfl rfl tie noOwnUnsafe
theorem scopeClosesUpto_row_tie : Rows.scopeClosesUptoRow.laidByTextAt .later Tryz.pinned [.listed, .data] true :=
  OpenClaim.laidByTextAt_later rfl rfl tie noOwnUnsafe
theorem scopePathsUpto_row_tie : Rows.scopePathsUptoRow.laidByTextAt .later Tryz.pinned [.listed, .data] true :=
  OpenClaim.laidByTextAt_later rfl rfl tie noOwnUnsafe
theorem scopeFindsUpto_row_tie : Rows.scopeFindsUptoRow.laidByTextAt .later Tryz.pinned [.listed, .data] true :=
  OpenClaim.laidByTextAt_later rfl rfl tie noOwnUnsafe
theorem scopeUnitsUpto_row_tie : Rows.scopeUnitsUptoRow.laidByTextAt .later Tryz.pinned [.listed, .data] true :=
  OpenClaim.laidByTextAt_later rfl rfl tie noOwnUnsafe
theorem scopeAfterUpto_row_tie : Rows.scopeAfterUptoRow.laidByTextAt .later Tryz.pinned [.listed, .data] true :=
  OpenClaim.laidByTextAt_later rfl rfl tie noOwnUnsafe
end Go.Proofs.YtkocjbgdmocmlaaGreatDoor
