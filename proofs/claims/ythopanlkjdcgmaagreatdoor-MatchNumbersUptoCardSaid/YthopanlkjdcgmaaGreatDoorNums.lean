/- MatchNumbers holds at every two ints: whole numbers of 64 bits are compared, and their bits looked at, as Go's ints are. Conditions: the listed package variables hold what the program's text lays. -/
import Derived.Test.YthopanlkjdcgmaaGreatDoorNumbersP
namespace Go.Proofs.YthopanlkjdcgmaaGreatDoor

theorem MatchNumbers_holds : Rows.MatchNumbersUptoCardSaid := matchNumbersRow.cardUpto

end Go.Proofs.YthopanlkjdcgmaaGreatDoor
