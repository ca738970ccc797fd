/-
  DERIVED. GIVEN WITH THE SEED: THE CARDS: each row of YtcabkjmbklkedaaDoorRows.lean that lists a variable, with what it lists TIED to the program's text (the seventh form; the later family's looks); each row that meets fmt, with fmt's text TOLD by the authors' own Lean function (tested against real Go, not proved from fmt's source: count such statements apart). THE CARD IS WHAT COUNTS. Prove the row's statement (the work); the ties are given (YtcabkjmbklkedaaDoorTie.lean); close each card by the builder's one call (the guide's Derived/Test/ToyasCard.lean, 'card_holds'). Laid BY PROGRAM, IN A SANDBOX (cutbox-door.mjs). By AI agents, Wed Nov 11 2026. No macro, syntax, notation, axiom, sorry.
-/
import Derived.Test.YtcabkjmbklkedaaDoorRows
import GoSem.ClaimSeven
namespace Go.Proofs.YtcabkjmbklkedaaDoor
namespace Rows

/-- THE TIED CARD OF 'rosterlaw06.MatchMonths'. -/
def matchMonthsCard : Claim7 := { stood := { row := matchMonthsRow, standIns := [], harness := (true, "0c337e9fb918ac4cd428c6dd6051ff18614c120be42b211b871395637f771bdd"), looks := true }, kinds := [], alts := [], laidByText := true, laidKinds := [.wider], laidTests := true, laidLooks := .later }
def MatchMonthsCardSaid : Prop := Claim7.holds Tryd.pinned (.plain (OpenSpec.ofChange matchMonthsSpec)) matchMonthsCard

/-- THE TIED CARD OF 'rosterlaw06.MatchSame'. -/
def matchSameCard : Claim7 := { stood := { row := matchSameRow, standIns := [], harness := (true, "0c337e9fb918ac4cd428c6dd6051ff18614c120be42b211b871395637f771bdd"), looks := true }, kinds := [], alts := [], laidByText := true, laidKinds := [.wider], laidTests := true, laidLooks := .later }
def MatchSameCardSaid : Prop := Claim7.holds Tryd.pinned (.plain (OpenSpec.ofChange matchSameSpec)) matchSameCard

/-- THE TIED CARD OF 'rosterlaw06.MatchLines'. -/
def matchLinesCard : Claim7 := { stood := { row := matchLinesRow, standIns := [], harness := (true, "0c337e9fb918ac4cd428c6dd6051ff18614c120be42b211b871395637f771bdd"), looks := true }, kinds := [], alts := [], laidByText := true, laidKinds := [.wider], laidTests := true, laidLooks := .later }
def MatchLinesCardSaid : Prop := Claim7.holds Tryd.pinned (.plain (OpenSpec.ofChange matchLinesSpec)) matchLinesCard

/-- THE TIED CARD OF 'rosterlaw06.MatchPieces'. -/
def matchPiecesCard : Claim7 := { stood := { row := matchPiecesRow, standIns := [], harness := (true, "0c337e9fb918ac4cd428c6dd6051ff18614c120be42b211b871395637f771bdd"), looks := true }, kinds := [], alts := [], laidByText := true, laidKinds := [.wider], laidTests := true, laidLooks := .later }
def MatchPiecesCardSaid : Prop := Claim7.holds Tryd.pinned (.plain (OpenSpec.ofChange matchPiecesSpec)) matchPiecesCard

/-- THE SECOND FORM's CARD OF 'rosterlaw06.MatchMonths'. -/
def matchMonthsUptoCard : Claim7 := { stood := { row := matchMonthsUptoRow, standIns := [], harness := (true, "0c337e9fb918ac4cd428c6dd6051ff18614c120be42b211b871395637f771bdd"), looks := true }, kinds := [], alts := [], laidByText := true, laidKinds := [.wider], laidTests := true, laidLooks := .later }
def MatchMonthsUptoCardSaid : Prop := Claim7.holds Tryd.pinned (.plain (OpenSpec.upto matchMonthsSpec)) matchMonthsUptoCard

/-- THE SECOND FORM's CARD OF 'rosterlaw06.MatchSame'. -/
def matchSameUptoCard : Claim7 := { stood := { row := matchSameUptoRow, standIns := [], harness := (true, "0c337e9fb918ac4cd428c6dd6051ff18614c120be42b211b871395637f771bdd"), looks := true }, kinds := [], alts := [], laidByText := true, laidKinds := [.wider], laidTests := true, laidLooks := .later }
def MatchSameUptoCardSaid : Prop := Claim7.holds Tryd.pinned (.plain (OpenSpec.upto matchSameSpec)) matchSameUptoCard

/-- THE SECOND FORM's CARD OF 'rosterlaw06.MatchLines'. -/
def matchLinesUptoCard : Claim7 := { stood := { row := matchLinesUptoRow, standIns := [], harness := (true, "0c337e9fb918ac4cd428c6dd6051ff18614c120be42b211b871395637f771bdd"), looks := true }, kinds := [], alts := [], laidByText := true, laidKinds := [.wider], laidTests := true, laidLooks := .later }
def MatchLinesUptoCardSaid : Prop := Claim7.holds Tryd.pinned (.plain (OpenSpec.upto matchLinesSpec)) matchLinesUptoCard

/-- THE SECOND FORM's CARD OF 'rosterlaw06.MatchPieces'. -/
def matchPiecesUptoCard : Claim7 := { stood := { row := matchPiecesUptoRow, standIns := [], harness := (true, "0c337e9fb918ac4cd428c6dd6051ff18614c120be42b211b871395637f771bdd"), looks := true }, kinds := [], alts := [], laidByText := true, laidKinds := [.wider], laidTests := true, laidLooks := .later }
def MatchPiecesUptoCardSaid : Prop := Claim7.holds Tryd.pinned (.plain (OpenSpec.upto matchPiecesSpec)) matchPiecesUptoCard
end Rows
end Go.Proofs.YtcabkjmbklkedaaDoor
