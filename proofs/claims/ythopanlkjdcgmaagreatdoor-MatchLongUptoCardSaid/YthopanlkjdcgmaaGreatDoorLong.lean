/- MatchLong holds at every text and number of bulk at most 1048576: whole numbers of any length: more digits is more; a 0 at the front is no number; no bits beyond 64. Conditions: the listed package variables hold what the program's text lays. -/
import Derived.Test.YthopanlkjdcgmaaGreatDoorLongP
namespace Go.Proofs.YthopanlkjdcgmaaGreatDoor

theorem MatchLong_holds : Rows.MatchLongUptoCardSaid := matchLongRow.cardUpto

end Go.Proofs.YthopanlkjdcgmaaGreatDoor
