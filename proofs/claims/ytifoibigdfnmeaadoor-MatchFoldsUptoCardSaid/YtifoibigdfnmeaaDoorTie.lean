/-
  DERIVED. GIVEN WITH THE SEED: THE PROGRAM's TIES (one call each: nine closed facts by the kernel) AND EACH ROW's TIE, after the 31st guide's Derived/Test/Toyas{Tie, Card}.lean. No idea stands in it: it is a product of the set-up. Laid BY PROGRAM, IN A SANDBOX (cutbox-door.mjs). By AI agents, Wed Nov 11 2026. No macro, syntax, notation, axiom, sorry.
-/
import Derived.Test.YtifoibigdfnmeaaDoorRows
import Derived.LaidByTextLater
import Derived.SevenTiedAt
import Derived.LaidSub
import Derived.LaidOnce
namespace Go.Proofs.YtifoibigdfnmeaaDoor
open Go
set_option maxRecDepth 100000
theorem seatTie1 : Tryd.prog.laidByTextLater [("roster/rosterref01.rows", Rows.laid_roster_rosterref01_rows), ("roster/rosterref06.lengths", Rows.laid_roster_rosterref06_lengths), ("roster/match.kinds", Rows.laid_roster_match_kinds)] [.data, .data, .wider] true :=
  Program.laidByTextLater_by_one 278 8 82 (by kernel_rfl) (by kernel_rfl) (by kernel_rfl) (by kernel_rfl) (by kernel_rfl) (by kernel_rfl) (fun _ _ => by kernel_rfl)
theorem noOwnUnsafe : Tryd.pinned.checked.prog.headLifts.contains "ownunsafe" = false := by kernel_rfl
theorem tie : Tryd.prog.laidByTextLater [("roster/rosterref01.rows", Rows.laid_roster_rosterref01_rows), ("roster/rosterref06.lengths", Rows.laid_roster_rosterref06_lengths), ("roster/match.kinds", Rows.laid_roster_match_kinds)] [.data, .data, .wider] true :=
  Program.laidByTextLater.sub seatTie1 ["roster/rosterref01.rows", "roster/rosterref06.lengths", "roster/match.kinds"] (by kernel_rfl) (by kernel_rfl)
theorem matchNormals_row_tie : Rows.matchNormalsRow.laidByTextAt .later Tryd.pinned [.data, .data, .wider] true :=
  OpenClaim.laidByTextAt_later rfl rfl tie noOwnUnsafe
theorem tie2 : Tryd.prog.laidByTextLater [("roster/match.kinds", Rows.laid_roster_match_kinds)] [.wider] true :=
  Program.laidByTextLater.sub seatTie1 ["roster/match.kinds"] (by kernel_rfl) (by kernel_rfl)
theorem matchFirm_row_tie : Rows.matchFirmRow.laidByTextAt .later Tryd.pinned [.wider] true :=
  OpenClaim.laidByTextAt_later rfl rfl tie2 noOwnUnsafe
theorem matchMonths_row_tie : Rows.matchMonthsRow.laidByTextAt .later Tryd.pinned [.wider] true :=
  OpenClaim.laidByTextAt_later rfl rfl tie2 noOwnUnsafe
theorem matchFolds_row_tie : Rows.matchFoldsRow.laidByTextAt .later Tryd.pinned [.wider] true :=
  OpenClaim.laidByTextAt_later rfl rfl tie2 noOwnUnsafe
theorem matchSame_row_tie : Rows.matchSameRow.laidByTextAt .later Tryd.pinned [.wider] true :=
  OpenClaim.laidByTextAt_later rfl rfl tie2 noOwnUnsafe
theorem matchLines_row_tie : Rows.matchLinesRow.laidByTextAt .later Tryd.pinned [.wider] true :=
  OpenClaim.laidByTextAt_later rfl rfl tie2 noOwnUnsafe
theorem matchPieces_row_tie : Rows.matchPiecesRow.laidByTextAt .later Tryd.pinned [.wider] true :=
  OpenClaim.laidByTextAt_later rfl rfl tie2 noOwnUnsafe
theorem matchNormalsUpto_row_tie : Rows.matchNormalsUptoRow.laidByTextAt .later Tryd.pinned [.data, .data, .wider] true :=
  OpenClaim.laidByTextAt_later rfl rfl tie noOwnUnsafe
theorem matchFirmUpto_row_tie : Rows.matchFirmUptoRow.laidByTextAt .later Tryd.pinned [.wider] true :=
  OpenClaim.laidByTextAt_later rfl rfl tie2 noOwnUnsafe
theorem matchMonthsUpto_row_tie : Rows.matchMonthsUptoRow.laidByTextAt .later Tryd.pinned [.wider] true :=
  OpenClaim.laidByTextAt_later rfl rfl tie2 noOwnUnsafe
theorem matchFoldsUpto_row_tie : Rows.matchFoldsUptoRow.laidByTextAt .later Tryd.pinned [.wider] true :=
  OpenClaim.laidByTextAt_later rfl rfl tie2 noOwnUnsafe
theorem matchSameUpto_row_tie : Rows.matchSameUptoRow.laidByTextAt .later Tryd.pinned [.wider] true :=
  OpenClaim.laidByTextAt_later rfl rfl tie2 noOwnUnsafe
theorem matchLinesUpto_row_tie : Rows.matchLinesUptoRow.laidByTextAt .later Tryd.pinned [.wider] true :=
  OpenClaim.laidByTextAt_later rfl rfl tie2 noOwnUnsafe
theorem matchPiecesUpto_row_tie : Rows.matchPiecesUptoRow.laidByTextAt .later Tryd.pinned [.wider] true :=
  OpenClaim.laidByTextAt_later rfl rfl tie2 noOwnUnsafe
end Go.Proofs.YtifoibigdfnmeaaDoor
