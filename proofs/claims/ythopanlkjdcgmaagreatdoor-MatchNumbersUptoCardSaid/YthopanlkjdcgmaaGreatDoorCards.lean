/-
  DERIVED. GIVEN WITH THE SEED: THE CARDS: each row of YthopanlkjdcgmaaGreatDoorRows.lean that lists a variable, with what it lists TIED to the program's text (the seventh form; the later family's looks); each row that meets fmt, with fmt's text TOLD by the authors' own Lean function (tested against real Go, not proved from fmt's source: count such statements apart). THE CARD IS WHAT COUNTS. Prove the row's statement (the work); the ties are given (YthopanlkjdcgmaaGreatDoorTie.lean); close each card by the builder's one call (the guide's Derived/Test/ToyasCard.lean, 'card_holds'). Laid BY PROGRAM, IN A SANDBOX (cutbox-door.mjs). By AI agents, Wed Nov 11 2026. No macro, syntax, notation, axiom, sorry.
-/
import Derived.Test.YthopanlkjdcgmaaGreatDoorRows
import GoSem.ClaimSeven
namespace Go.Proofs.YthopanlkjdcgmaaGreatDoor
namespace Rows

/-- THE TIED CARD OF 'rosterlaw06.MatchNumbers'. -/
def matchNumbersCard : Claim7 := { stood := { row := matchNumbersRow, standIns := [], harness := (true, "c7fac8a573126dcc9d3302ec225c6110b227658b14c236924d27a1ef58277d77"), looks := true }, kinds := [], alts := [], laidByText := true, laidKinds := [.data, .data, .data, .data, .sentinel, .sentinel, .sentinel, .sentinel, .sentinel, .sentinel, .sentinel, .sentinel, .sentinel, .sentinel, .sentinel, .sentinel, .wider, .pinned], laidTests := true, laidLooks := .later }
def MatchNumbersCardSaid : Prop := Claim7.holds Tryz.pinned (.plain (OpenSpec.ofChange matchNumbersSpec)) matchNumbersCard

/-- THE TIED CARD OF 'rosterlaw06.MatchLong'. -/
def matchLongCard : Claim7 := { stood := { row := matchLongRow, standIns := [], harness := (true, "c7fac8a573126dcc9d3302ec225c6110b227658b14c236924d27a1ef58277d77"), looks := true }, kinds := [], alts := [], laidByText := true, laidKinds := [.data, .data, .data, .data, .sentinel, .sentinel, .sentinel, .sentinel, .sentinel, .sentinel, .sentinel, .sentinel, .sentinel, .sentinel, .sentinel, .sentinel, .wider, .pinned], laidTests := true, laidLooks := .later }
def MatchLongCardSaid : Prop := Claim7.holds Tryz.pinned (.plain (OpenSpec.ofChange matchLongSpec)) matchLongCard

/-- THE TIED CARD OF 'rosterlaw06.MatchTimes'. -/
def matchTimesCard : Claim7 := { stood := { row := matchTimesRow, standIns := [], harness := (true, "c7fac8a573126dcc9d3302ec225c6110b227658b14c236924d27a1ef58277d77"), looks := true }, kinds := [], alts := [], laidByText := true, laidKinds := [.data, .data, .data, .data, .sentinel, .sentinel, .sentinel, .sentinel, .sentinel, .sentinel, .sentinel, .sentinel, .sentinel, .sentinel, .sentinel, .sentinel, .wider, .pinned], laidTests := true, laidLooks := .later }
def MatchTimesCardSaid : Prop := Claim7.holds Tryz.pinned (.plain (OpenSpec.ofChange matchTimesSpec)) matchTimesCard

/-- THE SECOND FORM's CARD OF 'rosterlaw06.MatchNumbers'. -/
def matchNumbersUptoCard : Claim7 := { stood := { row := matchNumbersUptoRow, standIns := [], harness := (true, "c7fac8a573126dcc9d3302ec225c6110b227658b14c236924d27a1ef58277d77"), looks := true }, kinds := [], alts := [], laidByText := true, laidKinds := [.data, .data, .data, .data, .sentinel, .sentinel, .sentinel, .sentinel, .sentinel, .sentinel, .sentinel, .sentinel, .sentinel, .sentinel, .sentinel, .sentinel, .wider, .pinned], laidTests := true, laidLooks := .later }
def MatchNumbersUptoCardSaid : Prop := Claim7.holds Tryz.pinned (.plain (OpenSpec.upto matchNumbersSpec)) matchNumbersUptoCard

/-- THE SECOND FORM's CARD OF 'rosterlaw06.MatchLong'. -/
def matchLongUptoCard : Claim7 := { stood := { row := matchLongUptoRow, standIns := [], harness := (true, "c7fac8a573126dcc9d3302ec225c6110b227658b14c236924d27a1ef58277d77"), looks := true }, kinds := [], alts := [], laidByText := true, laidKinds := [.data, .data, .data, .data, .sentinel, .sentinel, .sentinel, .sentinel, .sentinel, .sentinel, .sentinel, .sentinel, .sentinel, .sentinel, .sentinel, .sentinel, .wider, .pinned], laidTests := true, laidLooks := .later }
def MatchLongUptoCardSaid : Prop := Claim7.holds Tryz.pinned (.plain (OpenSpec.upto matchLongSpec)) matchLongUptoCard

/-- THE SECOND FORM's CARD OF 'rosterlaw06.MatchTimes'. -/
def matchTimesUptoCard : Claim7 := { stood := { row := matchTimesUptoRow, standIns := [], harness := (true, "c7fac8a573126dcc9d3302ec225c6110b227658b14c236924d27a1ef58277d77"), looks := true }, kinds := [], alts := [], laidByText := true, laidKinds := [.data, .data, .data, .data, .sentinel, .sentinel, .sentinel, .sentinel, .sentinel, .sentinel, .sentinel, .sentinel, .sentinel, .sentinel, .sentinel, .sentinel, .wider, .pinned], laidTests := true, laidLooks := .later }
def MatchTimesUptoCardSaid : Prop := Claim7.holds Tryz.pinned (.plain (OpenSpec.upto matchTimesSpec)) matchTimesUptoCard
end Rows
end Go.Proofs.YthopanlkjdcgmaaGreatDoor
