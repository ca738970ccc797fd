/-
  NARROWER THAN 'FOR EVERY INPUT', by the rows' own cells (each row's printed sentence says how): MatchNormals: laid · MatchFirm: laid · MatchMonths: laid · MatchFolds: laid · MatchSame: laid · MatchLines: laid · MatchPieces: laid.
  DERIVED. THE GIVEN ROWS OF THIS SEAT. 7 by the template 'for every input the law returns true; each argument reads behind the call as it read before'; 0 by the template 'total and deterministic' (their statements: YtifoibigdfnmeaaDoorTotals.lean).
  GIVEN WITH THE SEED: the statements are not yours to turn. If you find one false, say at which input.
  Laid BY PROGRAM, IN A SANDBOX (cutbox-rows.mjs): the forced cells as the released guide's own fill.sh prints them over the translation 96595da8e260464b… (all of the seat's roots in one cut). By AI agents, Wed Nov 11 2026. No macro, syntax, notation, axiom, sorry.
-/
import Derived.Test.YtifoibigdfnmeaaDoorChecked
import GoSem.Claim
import GoSem.ClaimJoined
import GoSem.ClaimMapViews
import Derived.JoinedTies
import Derived.KernelRfl
namespace Go.Proofs.YtifoibigdfnmeaaDoor
/- THE CELL 'sum', in the pinned program and in every row, IS THE sha256 OF THE DUMP (.gsa) THAT YtifoibigdfnmeaaDoorProg.lean LOADS. Nothing in Lean hashes anything: it is a label: what it is worth is what the hold of that sum in a sandbox is worth. -/
noncomputable def Tryd.pinned : Pinned := { name := "ytifoibigdfnmeaadoor", sum := "96595da8e260464b3f702d23e8470000069288d5544b715ea52a38d806a9a834", checked := Tryd.checked }
namespace Rows
def none {H : Type} : Left H := { results := [], args := [] }

/- WHAT THE LISTED PACKAGE-LEVEL VARIABLES READ AS WHEN THE CALL BEGINS. Each datum BY PROGRAM (the guide's laid-datum.mjs) off the statement by which the dump's own 'gosem.cut.vars' lays the variable. In a bare row this is a premise. The card (YtifoibigdfnmeaaDoorCards.lean) ties it to the program's text. -/
def laid_roster_rosterref01_rows {H : Type} : DataW H := .agg [.agg [.lit (.int .i64 1), .lit (.int .i64 0), .lit (.int .i64 127), .lit (.int .i64 0), .lit (.int .i64 0), .lit (.int .i64 0), .lit (.int .i64 0), .lit (.int .i64 0), .lit (.int .i64 0)], .agg [.lit (.int .i64 2), .lit (.int .i64 194), .lit (.int .i64 223), .lit (.int .i64 128), .lit (.int .i64 191), .lit (.int .i64 0), .lit (.int .i64 0), .lit (.int .i64 0), .lit (.int .i64 0)], .agg [.lit (.int .i64 3), .lit (.int .i64 224), .lit (.int .i64 224), .lit (.int .i64 160), .lit (.int .i64 191), .lit (.int .i64 128), .lit (.int .i64 191), .lit (.int .i64 0), .lit (.int .i64 0)], .agg [.lit (.int .i64 3), .lit (.int .i64 225), .lit (.int .i64 236), .lit (.int .i64 128), .lit (.int .i64 191), .lit (.int .i64 128), .lit (.int .i64 191), .lit (.int .i64 0), .lit (.int .i64 0)], .agg [.lit (.int .i64 3), .lit (.int .i64 237), .lit (.int .i64 237), .lit (.int .i64 128), .lit (.int .i64 159), .lit (.int .i64 128), .lit (.int .i64 191), .lit (.int .i64 0), .lit (.int .i64 0)], .agg [.lit (.int .i64 3), .lit (.int .i64 238), .lit (.int .i64 239), .lit (.int .i64 128), .lit (.int .i64 191), .lit (.int .i64 128), .lit (.int .i64 191), .lit (.int .i64 0), .lit (.int .i64 0)], .agg [.lit (.int .i64 4), .lit (.int .i64 240), .lit (.int .i64 240), .lit (.int .i64 144), .lit (.int .i64 191), .lit (.int .i64 128), .lit (.int .i64 191), .lit (.int .i64 128), .lit (.int .i64 191)], .agg [.lit (.int .i64 4), .lit (.int .i64 241), .lit (.int .i64 243), .lit (.int .i64 128), .lit (.int .i64 191), .lit (.int .i64 128), .lit (.int .i64 191), .lit (.int .i64 128), .lit (.int .i64 191)], .agg [.lit (.int .i64 4), .lit (.int .i64 244), .lit (.int .i64 244), .lit (.int .i64 128), .lit (.int .i64 143), .lit (.int .i64 128), .lit (.int .i64 191), .lit (.int .i64 128), .lit (.int .i64 191)]]
def laid_roster_rosterref06_lengths {H : Type} : DataW H := .agg [.lit (.int .i64 0), .lit (.int .i64 31), .lit (.int .i64 28), .lit (.int .i64 31), .lit (.int .i64 30), .lit (.int .i64 31), .lit (.int .i64 30), .lit (.int .i64 31), .lit (.int .i64 31), .lit (.int .i64 30), .lit (.int .i64 31), .lit (.int .i64 30), .lit (.int .i64 31)]
def laid_roster_match_kinds {H : Type} : DataW H := .agg [.iface "roster/match.plain" (.agg []), .iface "roster/match.folded" (.agg [.agg [.agg [.agg []]]]), .iface "roster/match.exact" (.agg [.agg [.agg []]]), .iface "roster/match.lowFolded" (.agg [.agg [.agg [], .agg []]]), .iface "roster/match.low" (.agg [.agg [], .agg []]), .iface "roster/match.numeric" (.agg [.agg [.agg []]]), .iface "roster/match.phone" (.agg [.agg []]), .iface "roster/match.integer" (.agg [.agg []]), .iface "roster/match.boolean" (.agg [.agg []]), .iface "roster/match.octet" (.agg [.agg [.agg []]]), .iface "roster/match.name" (.agg [.agg []]), .iface "roster/match.oid" (.agg [.agg []]), .iface "roster/match.instant" (.agg [.agg [.agg []]]), .iface "roster/match.list" (.agg [.agg []]), .iface "roster/match.bitString" (.agg [.agg []])]

/-- 'rosterlaw06.MatchNormals': WHATEVER THE INPUT: true; the input reads as it did. -/
def matchNormalsSpec : ChangeSpec := { name := "matchNormals", fn := fun _ => fun
  | [d1, d2] => { results := [.lit (.bool true)], args := [d1, d2] }
  | _ => none }
def matchNormalsRow : OpenClaim := { program := "ytifoibigdfnmeaadoor", sum := "96595da8e260464b3f702d23e8470000069288d5544b715ea52a38d806a9a834", func := "roster/rosterlaw06.MatchNormals", spec := "matchNormals", unfollowed := true, recurses := true, named := ["roster/match.kinds", "roster/rosterref01.rows", "roster/rosterref06.lengths"], apart := false, laid := [("roster/rosterref01.rows", laid_roster_rosterref01_rows), ("roster/rosterref06.lengths", laid_roster_rosterref06_lengths), ("roster/match.kinds", laid_roster_match_kinds)] }
def MatchNormalsSaid : Prop := matchNormalsRow.holds Tryd.pinned (OpenSpec.ofChange matchNormalsSpec)

/-- ITS FALSE NEIGHBOUR: 'it returns false'. Refute it at one input. -/
def matchNormalsWrong : ChangeSpec := { name := "matchNormals", fn := fun _ => fun
  | [d1, d2] => { results := [.lit (.bool false)], args := [d1, d2] }
  | _ => none }
def MatchNormalsWrongFalsely : Prop := matchNormalsRow.holds Tryd.pinned (OpenSpec.ofChange matchNormalsWrong)

/-- 'rosterlaw06.MatchFirm': WHATEVER THE INPUT: true; the input reads as it did. -/
def matchFirmSpec : ChangeSpec := { name := "matchFirm", fn := fun _ => fun
  | [d] => { results := [.lit (.bool true)], args := [d] }
  | _ => none }
def matchFirmRow : OpenClaim := { program := "ytifoibigdfnmeaadoor", sum := "96595da8e260464b3f702d23e8470000069288d5544b715ea52a38d806a9a834", func := "roster/rosterlaw06.MatchFirm", spec := "matchFirm", unfollowed := true, recurses := true, named := ["roster/match.kinds"], apart := false, laid := [("roster/match.kinds", laid_roster_match_kinds)] }
def MatchFirmSaid : Prop := matchFirmRow.holds Tryd.pinned (OpenSpec.ofChange matchFirmSpec)

/-- ITS FALSE NEIGHBOUR: 'it returns false'. Refute it at one input. -/
def matchFirmWrong : ChangeSpec := { name := "matchFirm", fn := fun _ => fun
  | [d] => { results := [.lit (.bool false)], args := [d] }
  | _ => none }
def MatchFirmWrongFalsely : Prop := matchFirmRow.holds Tryd.pinned (OpenSpec.ofChange matchFirmWrong)

/-- 'rosterlaw06.MatchMonths': WHATEVER THE INPUT: true; the input reads as it did. -/
def matchMonthsSpec : ChangeSpec := { name := "matchMonths", fn := fun _ => fun
  | [d1, d2] => { results := [.lit (.bool true)], args := [d1, d2] }
  | _ => none }
def matchMonthsRow : OpenClaim := { program := "ytifoibigdfnmeaadoor", sum := "96595da8e260464b3f702d23e8470000069288d5544b715ea52a38d806a9a834", func := "roster/rosterlaw06.MatchMonths", spec := "matchMonths", unfollowed := true, recurses := true, named := ["roster/match.kinds"], apart := false, laid := [("roster/match.kinds", laid_roster_match_kinds)] }
def MatchMonthsSaid : Prop := matchMonthsRow.holds Tryd.pinned (OpenSpec.ofChange matchMonthsSpec)

/-- ITS FALSE NEIGHBOUR: 'it returns false'. Refute it at one input. -/
def matchMonthsWrong : ChangeSpec := { name := "matchMonths", fn := fun _ => fun
  | [d1, d2] => { results := [.lit (.bool false)], args := [d1, d2] }
  | _ => none }
def MatchMonthsWrongFalsely : Prop := matchMonthsRow.holds Tryd.pinned (OpenSpec.ofChange matchMonthsWrong)

/-- 'rosterlaw06.MatchFolds': WHATEVER THE INPUT: true; the input reads as it did. -/
def matchFoldsSpec : ChangeSpec := { name := "matchFolds", fn := fun _ => fun
  | [d] => { results := [.lit (.bool true)], args := [d] }
  | _ => none }
def matchFoldsRow : OpenClaim := { program := "ytifoibigdfnmeaadoor", sum := "96595da8e260464b3f702d23e8470000069288d5544b715ea52a38d806a9a834", func := "roster/rosterlaw06.MatchFolds", spec := "matchFolds", unfollowed := true, recurses := true, named := ["roster/match.kinds"], apart := false, laid := [("roster/match.kinds", laid_roster_match_kinds)] }
def MatchFoldsSaid : Prop := matchFoldsRow.holds Tryd.pinned (OpenSpec.ofChange matchFoldsSpec)

/-- ITS FALSE NEIGHBOUR: 'it returns false'. Refute it at one input. -/
def matchFoldsWrong : ChangeSpec := { name := "matchFolds", fn := fun _ => fun
  | [d] => { results := [.lit (.bool false)], args := [d] }
  | _ => none }
def MatchFoldsWrongFalsely : Prop := matchFoldsRow.holds Tryd.pinned (OpenSpec.ofChange matchFoldsWrong)

/-- 'rosterlaw06.MatchSame': WHATEVER THE INPUT: true; the input reads as it did. -/
def matchSameSpec : ChangeSpec := { name := "matchSame", fn := fun _ => fun
  | [d1, d2, d3] => { results := [.lit (.bool true)], args := [d1, d2, d3] }
  | _ => none }
def matchSameRow : OpenClaim := { program := "ytifoibigdfnmeaadoor", sum := "96595da8e260464b3f702d23e8470000069288d5544b715ea52a38d806a9a834", func := "roster/rosterlaw06.MatchSame", spec := "matchSame", unfollowed := true, recurses := true, named := ["roster/match.kinds"], apart := false, laid := [("roster/match.kinds", laid_roster_match_kinds)] }
def MatchSameSaid : Prop := matchSameRow.holds Tryd.pinned (OpenSpec.ofChange matchSameSpec)

/-- ITS FALSE NEIGHBOUR: 'it returns false'. Refute it at one input. -/
def matchSameWrong : ChangeSpec := { name := "matchSame", fn := fun _ => fun
  | [d1, d2, d3] => { results := [.lit (.bool false)], args := [d1, d2, d3] }
  | _ => none }
def MatchSameWrongFalsely : Prop := matchSameRow.holds Tryd.pinned (OpenSpec.ofChange matchSameWrong)

/-- 'rosterlaw06.MatchLines': WHATEVER THE INPUT: true; the input reads as it did. -/
def matchLinesSpec : ChangeSpec := { name := "matchLines", fn := fun _ => fun
  | [d1, d2, d3] => { results := [.lit (.bool true)], args := [d1, d2, d3] }
  | _ => none }
def matchLinesRow : OpenClaim := { program := "ytifoibigdfnmeaadoor", sum := "96595da8e260464b3f702d23e8470000069288d5544b715ea52a38d806a9a834", func := "roster/rosterlaw06.MatchLines", spec := "matchLines", unfollowed := true, recurses := true, named := ["roster/match.kinds"], apart := false, laid := [("roster/match.kinds", laid_roster_match_kinds)] }
def MatchLinesSaid : Prop := matchLinesRow.holds Tryd.pinned (OpenSpec.ofChange matchLinesSpec)

/-- ITS FALSE NEIGHBOUR: 'it returns false'. Refute it at one input. -/
def matchLinesWrong : ChangeSpec := { name := "matchLines", fn := fun _ => fun
  | [d1, d2, d3] => { results := [.lit (.bool false)], args := [d1, d2, d3] }
  | _ => none }
def MatchLinesWrongFalsely : Prop := matchLinesRow.holds Tryd.pinned (OpenSpec.ofChange matchLinesWrong)

/-- 'rosterlaw06.MatchPieces': WHATEVER THE INPUT: true; the input reads as it did. -/
def matchPiecesSpec : ChangeSpec := { name := "matchPieces", fn := fun _ => fun
  | [d1, d2, d3, d4, d5] => { results := [.lit (.bool true)], args := [d1, d2, d3, d4, d5] }
  | _ => none }
def matchPiecesRow : OpenClaim := { program := "ytifoibigdfnmeaadoor", sum := "96595da8e260464b3f702d23e8470000069288d5544b715ea52a38d806a9a834", func := "roster/rosterlaw06.MatchPieces", spec := "matchPieces", inPlace := ["internal/bytealg.IndexByteString", "internal/bytealg.IndexString"], unfollowed := true, recurses := true, named := ["roster/match.kinds", "internal/bytealg.MaxLen"], apart := false, laid := [("roster/match.kinds", laid_roster_match_kinds)] }
def MatchPiecesSaid : Prop := matchPiecesRow.holds Tryd.pinned (OpenSpec.ofChange matchPiecesSpec)

/-- ITS FALSE NEIGHBOUR: 'it returns false'. Refute it at one input. -/
def matchPiecesWrong : ChangeSpec := { name := "matchPieces", fn := fun _ => fun
  | [d1, d2, d3, d4, d5] => { results := [.lit (.bool false)], args := [d1, d2, d3, d4, d5] }
  | _ => none }
def MatchPiecesWrongFalsely : Prop := matchPiecesRow.holds Tryd.pinned (OpenSpec.ofChange matchPiecesWrong)

/- THE SECOND FORM. 'bulk': how many values and letters a reading holds, each counted each time it is reached (what is shared counts as often as it is met; a slice's spare places count too). A statement '..UptoSaid' is the law's where the arguments, and the package variables that the reading takes, are together of bulk at most 1048576: NARROWER than '..Said'. Prove '..Said' where nothing that the law and all that it calls make is longer than what came in: it says more and counts as full. Else prove '..UptoSaid'. A law counts once. -/
mutual
def uptoBulk {H : Type} : DataW H → Nat
  | .lit (.string bytes) => bytes.length + 1
  | .lit _ => 1
  | .nil => 1
  | .ptr d => uptoBulk d + 1
  | .slice elems spare => uptoBulkAll elems + uptoBulkAll spare + 1
  | .agg parts => uptoBulkAll parts + 1
  | .iface _ d => uptoBulk d + 1
  | .map entries => uptoBulkEntries entries + 1
  | .held _ => 1
def uptoBulkAll {H : Type} : List (DataW H) → Nat
  | [] => 0
  | d :: r => uptoBulk d + uptoBulkAll r
def uptoBulkEntries {H : Type} : List (Lit × DataW H) → Nat
  | [] => 0
  | x :: r => uptoBulkEntry x + uptoBulkEntries r
def uptoBulkEntry {H : Type} : Lit × DataW H → Nat
  | (.string bytes, d) => bytes.length + uptoBulk d + 1
  | (_, d) => uptoBulk d + 1
 end
def uptoSmall : (H : Type) → List (DataW H) → Bool := fun _ ds => decide (uptoBulkAll ds ≤ 1048576)
def OpenSpec.upto (s : _root_.Go.ChangeSpec) : _root_.Go.OpenSpec := { _root_.Go.OpenSpec.ofChange s with cond := some uptoSmall }

/-- 'rosterlaw06.MatchNormals', WHERE WHAT IT READS IS OF BULK AT MOST 1048576: true; the input reads as it did. -/
def matchNormalsUptoRow : OpenClaim := { program := "ytifoibigdfnmeaadoor", sum := "96595da8e260464b3f702d23e8470000069288d5544b715ea52a38d806a9a834", func := "roster/rosterlaw06.MatchNormals", spec := "matchNormals", unfollowed := true, recurses := true, named := ["roster/match.kinds", "roster/rosterref01.rows", "roster/rosterref06.lengths"], apart := false, laid := [("roster/rosterref01.rows", laid_roster_rosterref01_rows), ("roster/rosterref06.lengths", laid_roster_rosterref06_lengths), ("roster/match.kinds", laid_roster_match_kinds)], narrowed := true }
def MatchNormalsUptoSaid : Prop := matchNormalsUptoRow.holds Tryd.pinned (OpenSpec.upto matchNormalsSpec)

/-- 'rosterlaw06.MatchFirm', WHERE WHAT IT READS IS OF BULK AT MOST 1048576: true; the input reads as it did. -/
def matchFirmUptoRow : OpenClaim := { program := "ytifoibigdfnmeaadoor", sum := "96595da8e260464b3f702d23e8470000069288d5544b715ea52a38d806a9a834", func := "roster/rosterlaw06.MatchFirm", spec := "matchFirm", unfollowed := true, recurses := true, named := ["roster/match.kinds"], apart := false, laid := [("roster/match.kinds", laid_roster_match_kinds)], narrowed := true }
def MatchFirmUptoSaid : Prop := matchFirmUptoRow.holds Tryd.pinned (OpenSpec.upto matchFirmSpec)

/-- 'rosterlaw06.MatchMonths', WHERE WHAT IT READS IS OF BULK AT MOST 1048576: true; the input reads as it did. -/
def matchMonthsUptoRow : OpenClaim := { program := "ytifoibigdfnmeaadoor", sum := "96595da8e260464b3f702d23e8470000069288d5544b715ea52a38d806a9a834", func := "roster/rosterlaw06.MatchMonths", spec := "matchMonths", unfollowed := true, recurses := true, named := ["roster/match.kinds"], apart := false, laid := [("roster/match.kinds", laid_roster_match_kinds)], narrowed := true }
def MatchMonthsUptoSaid : Prop := matchMonthsUptoRow.holds Tryd.pinned (OpenSpec.upto matchMonthsSpec)

/-- 'rosterlaw06.MatchFolds', WHERE WHAT IT READS IS OF BULK AT MOST 1048576: true; the input reads as it did. -/
def matchFoldsUptoRow : OpenClaim := { program := "ytifoibigdfnmeaadoor", sum := "96595da8e260464b3f702d23e8470000069288d5544b715ea52a38d806a9a834", func := "roster/rosterlaw06.MatchFolds", spec := "matchFolds", unfollowed := true, recurses := true, named := ["roster/match.kinds"], apart := false, laid := [("roster/match.kinds", laid_roster_match_kinds)], narrowed := true }
def MatchFoldsUptoSaid : Prop := matchFoldsUptoRow.holds Tryd.pinned (OpenSpec.upto matchFoldsSpec)

/-- 'rosterlaw06.MatchSame', WHERE WHAT IT READS IS OF BULK AT MOST 1048576: true; the input reads as it did. -/
def matchSameUptoRow : OpenClaim := { program := "ytifoibigdfnmeaadoor", sum := "96595da8e260464b3f702d23e8470000069288d5544b715ea52a38d806a9a834", func := "roster/rosterlaw06.MatchSame", spec := "matchSame", unfollowed := true, recurses := true, named := ["roster/match.kinds"], apart := false, laid := [("roster/match.kinds", laid_roster_match_kinds)], narrowed := true }
def MatchSameUptoSaid : Prop := matchSameUptoRow.holds Tryd.pinned (OpenSpec.upto matchSameSpec)

/-- 'rosterlaw06.MatchLines', WHERE WHAT IT READS IS OF BULK AT MOST 1048576: true; the input reads as it did. -/
def matchLinesUptoRow : OpenClaim := { program := "ytifoibigdfnmeaadoor", sum := "96595da8e260464b3f702d23e8470000069288d5544b715ea52a38d806a9a834", func := "roster/rosterlaw06.MatchLines", spec := "matchLines", unfollowed := true, recurses := true, named := ["roster/match.kinds"], apart := false, laid := [("roster/match.kinds", laid_roster_match_kinds)], narrowed := true }
def MatchLinesUptoSaid : Prop := matchLinesUptoRow.holds Tryd.pinned (OpenSpec.upto matchLinesSpec)

/-- 'rosterlaw06.MatchPieces', WHERE WHAT IT READS IS OF BULK AT MOST 1048576: true; the input reads as it did. -/
def matchPiecesUptoRow : OpenClaim := { program := "ytifoibigdfnmeaadoor", sum := "96595da8e260464b3f702d23e8470000069288d5544b715ea52a38d806a9a834", func := "roster/rosterlaw06.MatchPieces", spec := "matchPieces", inPlace := ["internal/bytealg.IndexByteString", "internal/bytealg.IndexString"], unfollowed := true, recurses := true, named := ["roster/match.kinds", "internal/bytealg.MaxLen"], apart := false, laid := [("roster/match.kinds", laid_roster_match_kinds)], narrowed := true }
def MatchPiecesUptoSaid : Prop := matchPiecesUptoRow.holds Tryd.pinned (OpenSpec.upto matchPiecesSpec)

end Rows
end Go.Proofs.YtifoibigdfnmeaaDoor
