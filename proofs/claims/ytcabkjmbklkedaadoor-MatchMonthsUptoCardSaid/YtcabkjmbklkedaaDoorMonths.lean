/- MatchMonths holds at every year and month: each month's last day, leap years, midnight over months and years, both ends of the years. Conditions: the package variable match.kinds holds what the program's text lays. -/
import Derived.Test.YtcabkjmbklkedaaDoorMonthsP
namespace Go.Proofs.YtcabkjmbklkedaaDoor

theorem MatchMonths_holds : Rows.MatchMonthsUptoCardSaid := matchMonthsRow.cardUpto

end Go.Proofs.YtcabkjmbklkedaaDoor
