/- MatchLines holds at every three texts of bulk at most 1048576: the six syntaxes with an order have a total one, which goes with Equal. Conditions: the package variable match.kinds holds what the program's text lays. -/
import Derived.Test.YtcabkjmbklkedaaDoorLinesP
namespace Go.Proofs.YtcabkjmbklkedaaDoor

theorem MatchLines_holds : Rows.MatchLinesUptoCardSaid := matchLinesRow.cardUpto

end Go.Proofs.YtcabkjmbklkedaaDoor
