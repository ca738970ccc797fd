/-
  DERIVED. GIVEN WITH THE SEED: THE CARDS: each row of YtifoibigdfnmeaaDoorRows.lean that lists a variable, with what it lists TIED to the program's text (the seventh form; the later family's looks); each row that meets fmt, with fmt's text TOLD by the authors' own Lean function (tested against real Go, not proved from fmt's source: count such statements apart). THE CARD IS WHAT COUNTS. Prove the row's statement (the work); the ties are given (YtifoibigdfnmeaaDoorTie.lean); close each card by the builder's one call (the guide's Derived/Test/ToyasCard.lean, 'card_holds'). Laid BY PROGRAM, IN A SANDBOX (cutbox-door.mjs). By AI agents, Wed Nov 11 2026. No macro, syntax, notation, axiom, sorry.
-/
import Derived.Test.YtifoibigdfnmeaaDoorRows
import GoSem.ClaimSeven
namespace Go.Proofs.YtifoibigdfnmeaaDoor
namespace Rows

/-- THE TIED CARD OF 'rosterlaw06.MatchNormals'. -/
def matchNormalsCard : Claim7 := { stood := { row := matchNormalsRow, standIns := [], harness := (true, "cbac2bd5f3de9748ede41d181d072b33ba489a346d63cec91a8b8d31d9eec34f"), looks := true }, kinds := [], alts := [], laidByText := true, laidKinds := [.data, .data, .wider], laidTests := true, laidLooks := .later }
def MatchNormalsCardSaid : Prop := Claim7.holds Tryd.pinned (.plain (OpenSpec.ofChange matchNormalsSpec)) matchNormalsCard

/-- THE TIED CARD OF 'rosterlaw06.MatchFirm'. -/
def matchFirmCard : Claim7 := { stood := { row := matchFirmRow, standIns := [], harness := (true, "cbac2bd5f3de9748ede41d181d072b33ba489a346d63cec91a8b8d31d9eec34f"), looks := true }, kinds := [], alts := [], laidByText := true, laidKinds := [.wider], laidTests := true, laidLooks := .later }
def MatchFirmCardSaid : Prop := Claim7.holds Tryd.pinned (.plain (OpenSpec.ofChange matchFirmSpec)) matchFirmCard

/-- THE TIED CARD OF 'rosterlaw06.MatchMonths'. -/
def matchMonthsCard : Claim7 := { stood := { row := matchMonthsRow, standIns := [], harness := (true, "cbac2bd5f3de9748ede41d181d072b33ba489a346d63cec91a8b8d31d9eec34f"), looks := true }, kinds := [], alts := [], laidByText := true, laidKinds := [.wider], laidTests := true, laidLooks := .later }
def MatchMonthsCardSaid : Prop := Claim7.holds Tryd.pinned (.plain (OpenSpec.ofChange matchMonthsSpec)) matchMonthsCard

/-- THE TIED CARD OF 'rosterlaw06.MatchFolds'. -/
def matchFoldsCard : Claim7 := { stood := { row := matchFoldsRow, standIns := [], harness := (true, "cbac2bd5f3de9748ede41d181d072b33ba489a346d63cec91a8b8d31d9eec34f"), looks := true }, kinds := [], alts := [], laidByText := true, laidKinds := [.wider], laidTests := true, laidLooks := .later }
def MatchFoldsCardSaid : Prop := Claim7.holds Tryd.pinned (.plain (OpenSpec.ofChange matchFoldsSpec)) matchFoldsCard

/-- THE TIED CARD OF 'rosterlaw06.MatchSame'. -/
def matchSameCard : Claim7 := { stood := { row := matchSameRow, standIns := [], harness := (true, "cbac2bd5f3de9748ede41d181d072b33ba489a346d63cec91a8b8d31d9eec34f"), looks := true }, kinds := [], alts := [], laidByText := true, laidKinds := [.wider], laidTests := true, laidLooks := .later }
def MatchSameCardSaid : Prop := Claim7.holds Tryd.pinned (.plain (OpenSpec.ofChange matchSameSpec)) matchSameCard

/-- THE TIED CARD OF 'rosterlaw06.MatchLines'. -/
def matchLinesCard : Claim7 := { stood := { row := matchLinesRow, standIns := [], harness := (true, "cbac2bd5f3de9748ede41d181d072b33ba489a346d63cec91a8b8d31d9eec34f"), looks := true }, kinds := [], alts := [], laidByText := true, laidKinds := [.wider], laidTests := true, laidLooks := .later }
def MatchLinesCardSaid : Prop := Claim7.holds Tryd.pinned (.plain (OpenSpec.ofChange matchLinesSpec)) matchLinesCard

/-- THE TIED CARD OF 'rosterlaw06.MatchPieces'. -/
def matchPiecesCard : Claim7 := { stood := { row := matchPiecesRow, standIns := [], harness := (true, "cbac2bd5f3de9748ede41d181d072b33ba489a346d63cec91a8b8d31d9eec34f"), looks := true }, kinds := [], alts := [], laidByText := true, laidKinds := [.wider], laidTests := true, laidLooks := .later }
def MatchPiecesCardSaid : Prop := Claim7.holds Tryd.pinned (.plain (OpenSpec.ofChange matchPiecesSpec)) matchPiecesCard

/-- THE SECOND FORM's CARD OF 'rosterlaw06.MatchNormals'. -/
def matchNormalsUptoCard : Claim7 := { stood := { row := matchNormalsUptoRow, standIns := [], harness := (true, "cbac2bd5f3de9748ede41d181d072b33ba489a346d63cec91a8b8d31d9eec34f"), looks := true }, kinds := [], alts := [], laidByText := true, laidKinds := [.data, .data, .wider], laidTests := true, laidLooks := .later }
def MatchNormalsUptoCardSaid : Prop := Claim7.holds Tryd.pinned (.plain (OpenSpec.upto matchNormalsSpec)) matchNormalsUptoCard

/-- THE SECOND FORM's CARD OF 'rosterlaw06.MatchFirm'. -/
def matchFirmUptoCard : Claim7 := { stood := { row := matchFirmUptoRow, standIns := [], harness := (true, "cbac2bd5f3de9748ede41d181d072b33ba489a346d63cec91a8b8d31d9eec34f"), looks := true }, kinds := [], alts := [], laidByText := true, laidKinds := [.wider], laidTests := true, laidLooks := .later }
def MatchFirmUptoCardSaid : Prop := Claim7.holds Tryd.pinned (.plain (OpenSpec.upto matchFirmSpec)) matchFirmUptoCard

/-- THE SECOND FORM's CARD OF 'rosterlaw06.MatchMonths'. -/
def matchMonthsUptoCard : Claim7 := { stood := { row := matchMonthsUptoRow, standIns := [], harness := (true, "cbac2bd5f3de9748ede41d181d072b33ba489a346d63cec91a8b8d31d9eec34f"), looks := true }, kinds := [], alts := [], laidByText := true, laidKinds := [.wider], laidTests := true, laidLooks := .later }
def MatchMonthsUptoCardSaid : Prop := Claim7.holds Tryd.pinned (.plain (OpenSpec.upto matchMonthsSpec)) matchMonthsUptoCard

/-- THE SECOND FORM's CARD OF 'rosterlaw06.MatchFolds'. -/
def matchFoldsUptoCard : Claim7 := { stood := { row := matchFoldsUptoRow, standIns := [], harness := (true, "cbac2bd5f3de9748ede41d181d072b33ba489a346d63cec91a8b8d31d9eec34f"), looks := true }, kinds := [], alts := [], laidByText := true, laidKinds := [.wider], laidTests := true, laidLooks := .later }
def MatchFoldsUptoCardSaid : Prop := Claim7.holds Tryd.pinned (.plain (OpenSpec.upto matchFoldsSpec)) matchFoldsUptoCard

/-- THE SECOND FORM's CARD OF 'rosterlaw06.MatchSame'. -/
def matchSameUptoCard : Claim7 := { stood := { row := matchSameUptoRow, standIns := [], harness := (true, "cbac2bd5f3de9748ede41d181d072b33ba489a346d63cec91a8b8d31d9eec34f"), looks := true }, kinds := [], alts := [], laidByText := true, laidKinds := [.wider], laidTests := true, laidLooks := .later }
def MatchSameUptoCardSaid : Prop := Claim7.holds Tryd.pinned (.plain (OpenSpec.upto matchSameSpec)) matchSameUptoCard

/-- THE SECOND FORM's CARD OF 'rosterlaw06.MatchLines'. -/
def matchLinesUptoCard : Claim7 := { stood := { row := matchLinesUptoRow, standIns := [], harness := (true, "cbac2bd5f3de9748ede41d181d072b33ba489a346d63cec91a8b8d31d9eec34f"), looks := true }, kinds := [], alts := [], laidByText := true, laidKinds := [.wider], laidTests := true, laidLooks := .later }
def MatchLinesUptoCardSaid : Prop := Claim7.holds Tryd.pinned (.plain (OpenSpec.upto matchLinesSpec)) matchLinesUptoCard

/-- THE SECOND FORM's CARD OF 'rosterlaw06.MatchPieces'. -/
def matchPiecesUptoCard : Claim7 := { stood := { row := matchPiecesUptoRow, standIns := [], harness := (true, "cbac2bd5f3de9748ede41d181d072b33ba489a346d63cec91a8b8d31d9eec34f"), looks := true }, kinds := [], alts := [], laidByText := true, laidKinds := [.wider], laidTests := true, laidLooks := .later }
def MatchPiecesUptoCardSaid : Prop := Claim7.holds Tryd.pinned (.plain (OpenSpec.upto matchPiecesSpec)) matchPiecesUptoCard
end Rows
end Go.Proofs.YtifoibigdfnmeaaDoor
