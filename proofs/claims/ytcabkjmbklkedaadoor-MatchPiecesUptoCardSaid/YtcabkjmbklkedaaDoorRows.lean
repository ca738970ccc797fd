/-
  NARROWER THAN 'FOR EVERY INPUT', by the rows' own cells (each row's printed sentence says how): MatchMonths: laid · MatchSame: laid · MatchLines: laid · MatchPieces: laid.
  DERIVED. THE GIVEN ROWS OF THIS SEAT. 4 by the template 'for every input the law returns true; each argument reads behind the call as it read before'; 0 by the template 'total and deterministic' (their statements: YtcabkjmbklkedaaDoorTotals.lean).
  GIVEN WITH THE SEED: the statements are not yours to turn. If you find one false, say at which input.
  Laid BY PROGRAM, IN A SANDBOX (cutbox-rows.mjs): the forced cells as the released guide's own fill.sh prints them over the translation bafed7430a2251e9… (all of the seat's roots in one cut). By AI agents, Wed Nov 11 2026. No macro, syntax, notation, axiom, sorry.
-/
import Derived.Test.YtcabkjmbklkedaaDoorChecked
import GoSem.Claim
import GoSem.ClaimJoined
import GoSem.ClaimMapViews
import Derived.JoinedTies
import Derived.KernelRfl
namespace Go.Proofs.YtcabkjmbklkedaaDoor
/- THE CELL 'sum', in the pinned program and in every row, IS THE sha256 OF THE DUMP (.gsa) THAT YtcabkjmbklkedaaDoorProg.lean LOADS. Nothing in Lean hashes anything: it is a label: what it is worth is what the hold of that sum in a sandbox is worth. -/
noncomputable def Tryd.pinned : Pinned := { name := "ytcabkjmbklkedaadoor", sum := "bafed7430a2251e9a838e081da5463b6de8f9b4c42ef5a423e55283ef4464c2f", checked := Tryd.checked }
namespace Rows
def none {H : Type} : Left H := { results := [], args := [] }

/- WHAT THE LISTED PACKAGE-LEVEL VARIABLES READ AS WHEN THE CALL BEGINS. Each datum BY PROGRAM (the guide's laid-datum.mjs) off the statement by which the dump's own 'gosem.cut.vars' lays the variable. In a bare row this is a premise. The card (YtcabkjmbklkedaaDoorCards.lean) ties it to the program's text. -/
def laid_roster_match_kinds {H : Type} : DataW H := .agg [.iface "roster/match.plain" (.agg []), .iface "roster/match.folded" (.agg [.agg [.agg [.agg []]]]), .iface "roster/match.exact" (.agg [.agg [.agg []]]), .iface "roster/match.lowFolded" (.agg [.agg [.agg [], .agg []]]), .iface "roster/match.low" (.agg [.agg [], .agg []]), .iface "roster/match.numeric" (.agg [.agg [.agg []]]), .iface "roster/match.phone" (.agg [.agg []]), .iface "roster/match.integer" (.agg [.agg []]), .iface "roster/match.boolean" (.agg [.agg []]), .iface "roster/match.octet" (.agg [.agg [.agg []]]), .iface "roster/match.name" (.agg [.agg []]), .iface "roster/match.oid" (.agg [.agg []]), .iface "roster/match.instant" (.agg [.agg [.agg []]]), .iface "roster/match.list" (.agg [.agg []]), .iface "roster/match.bitString" (.agg [.agg []])]

/-- 'rosterlaw06.MatchMonths': WHATEVER THE INPUT: true; the input reads as it did. -/
def matchMonthsSpec : ChangeSpec := { name := "matchMonths", fn := fun _ => fun
  | [d1, d2] => { results := [.lit (.bool true)], args := [d1, d2] }
  | _ => none }
def matchMonthsRow : OpenClaim := { program := "ytcabkjmbklkedaadoor", sum := "bafed7430a2251e9a838e081da5463b6de8f9b4c42ef5a423e55283ef4464c2f", func := "roster/rosterlaw06.MatchMonths", spec := "matchMonths", unfollowed := true, recurses := true, named := ["roster/match.kinds"], apart := false, laid := [("roster/match.kinds", laid_roster_match_kinds)] }
def MatchMonthsSaid : Prop := matchMonthsRow.holds Tryd.pinned (OpenSpec.ofChange matchMonthsSpec)

/-- ITS FALSE NEIGHBOUR: 'it returns false'. Refute it at one input. -/
def matchMonthsWrong : ChangeSpec := { name := "matchMonths", fn := fun _ => fun
  | [d1, d2] => { results := [.lit (.bool false)], args := [d1, d2] }
  | _ => none }
def MatchMonthsWrongFalsely : Prop := matchMonthsRow.holds Tryd.pinned (OpenSpec.ofChange matchMonthsWrong)

/-- 'rosterlaw06.MatchSame': WHATEVER THE INPUT: true; the input reads as it did. -/
def matchSameSpec : ChangeSpec := { name := "matchSame", fn := fun _ => fun
  | [d1, d2, d3] => { results := [.lit (.bool true)], args := [d1, d2, d3] }
  | _ => none }
def matchSameRow : OpenClaim := { program := "ytcabkjmbklkedaadoor", sum := "bafed7430a2251e9a838e081da5463b6de8f9b4c42ef5a423e55283ef4464c2f", func := "roster/rosterlaw06.MatchSame", spec := "matchSame", unfollowed := true, recurses := true, named := ["roster/match.kinds"], apart := false, laid := [("roster/match.kinds", laid_roster_match_kinds)] }
def MatchSameSaid : Prop := matchSameRow.holds Tryd.pinned (OpenSpec.ofChange matchSameSpec)

/-- ITS FALSE NEIGHBOUR: 'it returns false'. Refute it at one input. -/
def matchSameWrong : ChangeSpec := { name := "matchSame", fn := fun _ => fun
  | [d1, d2, d3] => { results := [.lit (.bool false)], args := [d1, d2, d3] }
  | _ => none }
def MatchSameWrongFalsely : Prop := matchSameRow.holds Tryd.pinned (OpenSpec.ofChange matchSameWrong)

/-- 'rosterlaw06.MatchLines': WHATEVER THE INPUT: true; the input reads as it did. -/
def matchLinesSpec : ChangeSpec := { name := "matchLines", fn := fun _ => fun
  | [d1, d2, d3] => { results := [.lit (.bool true)], args := [d1, d2, d3] }
  | _ => none }
def matchLinesRow : OpenClaim := { program := "ytcabkjmbklkedaadoor", sum := "bafed7430a2251e9a838e081da5463b6de8f9b4c42ef5a423e55283ef4464c2f", func := "roster/rosterlaw06.MatchLines", spec := "matchLines", unfollowed := true, recurses := true, named := ["roster/match.kinds"], apart := false, laid := [("roster/match.kinds", laid_roster_match_kinds)] }
def MatchLinesSaid : Prop := matchLinesRow.holds Tryd.pinned (OpenSpec.ofChange matchLinesSpec)

/-- ITS FALSE NEIGHBOUR: 'it returns false'. Refute it at one input. -/
def matchLinesWrong : ChangeSpec := { name := "matchLines", fn := fun _ => fun
  | [d1, d2, d3] => { results := [.lit (.bool false)], args := [d1, d2, d3] }
  | _ => none }
def MatchLinesWrongFalsely : Prop := matchLinesRow.holds Tryd.pinned (OpenSpec.ofChange matchLinesWrong)

/-- 'rosterlaw06.MatchPieces': WHATEVER THE INPUT: true; the input reads as it did. -/
def matchPiecesSpec : ChangeSpec := { name := "matchPieces", fn := fun _ => fun
  | [d1, d2, d3, d4, d5] => { results := [.lit (.bool true)], args := [d1, d2, d3, d4, d5] }
  | _ => none }
def matchPiecesRow : OpenClaim := { program := "ytcabkjmbklkedaadoor", sum := "bafed7430a2251e9a838e081da5463b6de8f9b4c42ef5a423e55283ef4464c2f", func := "roster/rosterlaw06.MatchPieces", spec := "matchPieces", inPlace := ["internal/bytealg.IndexByteString", "internal/bytealg.IndexString"], unfollowed := true, recurses := true, named := ["roster/match.kinds", "internal/bytealg.MaxLen"], apart := false, laid := [("roster/match.kinds", laid_roster_match_kinds)] }
def MatchPiecesSaid : Prop := matchPiecesRow.holds Tryd.pinned (OpenSpec.ofChange matchPiecesSpec)

/-- ITS FALSE NEIGHBOUR: 'it returns false'. Refute it at one input. -/
def matchPiecesWrong : ChangeSpec := { name := "matchPieces", fn := fun _ => fun
  | [d1, d2, d3, d4, d5] => { results := [.lit (.bool false)], args := [d1, d2, d3, d4, d5] }
  | _ => none }
def MatchPiecesWrongFalsely : Prop := matchPiecesRow.holds Tryd.pinned (OpenSpec.ofChange matchPiecesWrong)

/- THE SECOND FORM. 'bulk': how many values and letters a reading holds, each counted each time it is reached (what is shared counts as often as it is met; a slice's spare places count too). A statement '..UptoSaid' is the law's where the arguments, and the package variables that the reading takes, are together of bulk at most 1048576: NARROWER than '..Said'. Prove '..Said' where nothing that the law and all that it calls make is longer than what came in: it says more and counts as full. Else prove '..UptoSaid'. A law counts once. -/
mutual
def uptoBulk {H : Type} : DataW H → Nat
  | .lit (.string bytes) => bytes.length + 1
  | .lit _ => 1
  | .nil => 1
  | .ptr d => uptoBulk d + 1
  | .slice elems spare => uptoBulkAll elems + uptoBulkAll spare + 1
  | .agg parts => uptoBulkAll parts + 1
  | .iface _ d => uptoBulk d + 1
  | .map entries => uptoBulkEntries entries + 1
  | .held _ => 1
def uptoBulkAll {H : Type} : List (DataW H) → Nat
  | [] => 0
  | d :: r => uptoBulk d + uptoBulkAll r
def uptoBulkEntries {H : Type} : List (Lit × DataW H) → Nat
  | [] => 0
  | x :: r => uptoBulkEntry x + uptoBulkEntries r
def uptoBulkEntry {H : Type} : Lit × DataW H → Nat
  | (.string bytes, d) => bytes.length + uptoBulk d + 1
  | (_, d) => uptoBulk d + 1
 end
def uptoSmall : (H : Type) → List (DataW H) → Bool := fun _ ds => decide (uptoBulkAll ds ≤ 1048576)
def OpenSpec.upto (s : _root_.Go.ChangeSpec) : _root_.Go.OpenSpec := { _root_.Go.OpenSpec.ofChange s with cond := some uptoSmall }

/-- 'rosterlaw06.MatchMonths', WHERE WHAT IT READS IS OF BULK AT MOST 1048576: true; the input reads as it did. -/
def matchMonthsUptoRow : OpenClaim := { program := "ytcabkjmbklkedaadoor", sum := "bafed7430a2251e9a838e081da5463b6de8f9b4c42ef5a423e55283ef4464c2f", func := "roster/rosterlaw06.MatchMonths", spec := "matchMonths", unfollowed := true, recurses := true, named := ["roster/match.kinds"], apart := false, laid := [("roster/match.kinds", laid_roster_match_kinds)], narrowed := true }
def MatchMonthsUptoSaid : Prop := matchMonthsUptoRow.holds Tryd.pinned (OpenSpec.upto matchMonthsSpec)

/-- 'rosterlaw06.MatchSame', WHERE WHAT IT READS IS OF BULK AT MOST 1048576: true; the input reads as it did. -/
def matchSameUptoRow : OpenClaim := { program := "ytcabkjmbklkedaadoor", sum := "bafed7430a2251e9a838e081da5463b6de8f9b4c42ef5a423e55283ef4464c2f", func := "roster/rosterlaw06.MatchSame", spec := "matchSame", unfollowed := true, recurses := true, named := ["roster/match.kinds"], apart := false, laid := [("roster/match.kinds", laid_roster_match_kinds)], narrowed := true }
def MatchSameUptoSaid : Prop := matchSameUptoRow.holds Tryd.pinned (OpenSpec.upto matchSameSpec)

/-- 'rosterlaw06.MatchLines', WHERE WHAT IT READS IS OF BULK AT MOST 1048576: true; the input reads as it did. -/
def matchLinesUptoRow : OpenClaim := { program := "ytcabkjmbklkedaadoor", sum := "bafed7430a2251e9a838e081da5463b6de8f9b4c42ef5a423e55283ef4464c2f", func := "roster/rosterlaw06.MatchLines", spec := "matchLines", unfollowed := true, recurses := true, named := ["roster/match.kinds"], apart := false, laid := [("roster/match.kinds", laid_roster_match_kinds)], narrowed := true }
def MatchLinesUptoSaid : Prop := matchLinesUptoRow.holds Tryd.pinned (OpenSpec.upto matchLinesSpec)

/-- 'rosterlaw06.MatchPieces', WHERE WHAT IT READS IS OF BULK AT MOST 1048576: true; the input reads as it did. -/
def matchPiecesUptoRow : OpenClaim := { program := "ytcabkjmbklkedaadoor", sum := "bafed7430a2251e9a838e081da5463b6de8f9b4c42ef5a423e55283ef4464c2f", func := "roster/rosterlaw06.MatchPieces", spec := "matchPieces", inPlace := ["internal/bytealg.IndexByteString", "internal/bytealg.IndexString"], unfollowed := true, recurses := true, named := ["roster/match.kinds", "internal/bytealg.MaxLen"], apart := false, laid := [("roster/match.kinds", laid_roster_match_kinds)], narrowed := true }
def MatchPiecesUptoSaid : Prop := matchPiecesUptoRow.holds Tryd.pinned (OpenSpec.upto matchPiecesSpec)

end Rows
end Go.Proofs.YtcabkjmbklkedaaDoor
