/- MatchPieces holds at every five texts of bulk at most 1048576: a text has the pattern of which it is laid; one piece alone is found at the front, at the end, or anywhere. Conditions: the package variable match.kinds holds what the program's text lays. -/
import Derived.Test.YtcabkjmbklkedaaDoorPiecesP
namespace Go.Proofs.YtcabkjmbklkedaaDoor

theorem MatchPieces_holds : Rows.MatchPiecesUptoCardSaid := matchPiecesRow.cardUpto

end Go.Proofs.YtcabkjmbklkedaaDoor
