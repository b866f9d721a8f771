/-
  NARROWER THAN 'FOR EVERY INPUT', by the rows' own cells (each row's printed sentence says how): ParserParse: laid · ParserPieces: laid · ParserFormat: laid · ParserBack: laid · ParserBroken: laid · ParserMany: laid.
  DERIVED. THE GIVEN ROWS OF THIS SEAT. 6 by the template 'for every input the law returns true; each argument reads behind the call as it read before'; 0 by the template 'total and deterministic' (their statements: YtnbdckfnohagbaaGreatDoorTotals.lean).
  GIVEN WITH THE SEED: the statements are not yours to turn. If you find one false, say at which input.
  Laid BY PROGRAM, IN A SANDBOX (cutbox-rows.mjs): the forced cells as the released guide's own fill.sh prints them over the translation dd71cada5b5fc301… (all of the seat's roots in one cut). By AI agents, Wed Nov 11 2026. No macro, syntax, notation, axiom, sorry.
-/
import Derived.Test.YtnbdckfnohagbaaGreatDoorChecked
import GoSem.PinnedTables
import GoSem.Claim
import GoSem.ClaimJoined
import GoSem.ClaimMapViews
import Derived.JoinedTies
import Derived.KernelRfl
namespace Go.Proofs.YtnbdckfnohagbaaGreatDoor
/- THE CELL 'sum', in the pinned program and in every row, IS THE sha256 OF THE DUMP (.gsa) THAT YtnbdckfnohagbaaGreatDoorProg.lean LOADS. Nothing in Lean hashes anything: it is a label: what it is worth is what the hold of that sum in a sandbox is worth. -/
noncomputable def Tryz.pinned : Pinned := { name := "ytnbdckfnohagbaagreatdoor", sum := "dd71cada5b5fc3010775314aad4167366cf578734542e4abc343222f4840a521", checked := Tryz.checked }
namespace Rows
def none {H : Type} : Left H := { results := [], args := [] }

/- WHAT THE LISTED PACKAGE-LEVEL VARIABLES READ AS WHEN THE CALL BEGINS. Each datum BY PROGRAM (the guide's laid-datum.mjs) off the statement by which the dump's own 'gosem.cut.vars' lays the variable. In a bare row this is a premise. The card (YtnbdckfnohagbaaGreatDoorCards.lean) ties it to the program's text. -/
def laid_unicode_utf8_acceptRanges {H : Type} : DataW H := .agg [.agg [.lit (.int .u8 128), .lit (.int .u8 191)], .agg [.lit (.int .u8 160), .lit (.int .u8 191)], .agg [.lit (.int .u8 128), .lit (.int .u8 159)], .agg [.lit (.int .u8 144), .lit (.int .u8 191)], .agg [.lit (.int .u8 128), .lit (.int .u8 143)], .agg [.lit (.int .u8 0), .lit (.int .u8 0)], .agg [.lit (.int .u8 0), .lit (.int .u8 0)], .agg [.lit (.int .u8 0), .lit (.int .u8 0)], .agg [.lit (.int .u8 0), .lit (.int .u8 0)], .agg [.lit (.int .u8 0), .lit (.int .u8 0)], .agg [.lit (.int .u8 0), .lit (.int .u8 0)], .agg [.lit (.int .u8 0), .lit (.int .u8 0)], .agg [.lit (.int .u8 0), .lit (.int .u8 0)], .agg [.lit (.int .u8 0), .lit (.int .u8 0)], .agg [.lit (.int .u8 0), .lit (.int .u8 0)], .agg [.lit (.int .u8 0), .lit (.int .u8 0)]]
/-- One of Go's own tables, pinned by name: the form's constant. -/
def laid_unicode_utf8_first : DataW Unit := Go.Pinned.utf8First

/-- 'insolvencylaw12.ParserParse': WHATEVER THE INPUT: true; the input reads as it did. -/
def parserParseSpec : ChangeSpec := { name := "parserParse", fn := fun _ => fun
  | [d] => { results := [.lit (.bool true)], args := [d] }
  | _ => none }
def parserParseRow : OpenClaim := { program := "ytnbdckfnohagbaagreatdoor", sum := "dd71cada5b5fc3010775314aad4167366cf578734542e4abc343222f4840a521", func := "insolvency/insolvencylaw12.ParserParse", spec := "parserParse", inPlace := ["internal/bytealg.IndexByteString", "internal/bytealg.IndexString"], unfollowed := true, recurses := true, named := ["internal/bytealg.MaxLen", "unicode/utf8.first", "unicode/utf8.acceptRanges"], apart := false, laid := [("unicode/utf8.acceptRanges", laid_unicode_utf8_acceptRanges), ("unicode/utf8.first", laid_unicode_utf8_first)] }
def ParserParseSaid : Prop := parserParseRow.holds Tryz.pinned (OpenSpec.ofChange parserParseSpec)

/-- ITS FALSE NEIGHBOUR: 'it returns false'. Refute it at one input. -/
def parserParseWrong : ChangeSpec := { name := "parserParse", fn := fun _ => fun
  | [d] => { results := [.lit (.bool false)], args := [d] }
  | _ => none }
def ParserParseWrongFalsely : Prop := parserParseRow.holds Tryz.pinned (OpenSpec.ofChange parserParseWrong)

/-- 'insolvencylaw12.ParserPieces': WHATEVER THE INPUT: true; the input reads as it did. -/
def parserPiecesSpec : ChangeSpec := { name := "parserPieces", fn := fun _ => fun
  | [d] => { results := [.lit (.bool true)], args := [d] }
  | _ => none }
def parserPiecesRow : OpenClaim := { program := "ytnbdckfnohagbaagreatdoor", sum := "dd71cada5b5fc3010775314aad4167366cf578734542e4abc343222f4840a521", func := "insolvency/insolvencylaw12.ParserPieces", spec := "parserPieces", inPlace := ["internal/bytealg.IndexByteString", "internal/bytealg.IndexString"], unfollowed := true, recurses := true, named := ["internal/bytealg.MaxLen", "unicode/utf8.first", "unicode/utf8.acceptRanges"], apart := false, laid := [("unicode/utf8.acceptRanges", laid_unicode_utf8_acceptRanges), ("unicode/utf8.first", laid_unicode_utf8_first)] }
def ParserPiecesSaid : Prop := parserPiecesRow.holds Tryz.pinned (OpenSpec.ofChange parserPiecesSpec)

/-- ITS FALSE NEIGHBOUR: 'it returns false'. Refute it at one input. -/
def parserPiecesWrong : ChangeSpec := { name := "parserPieces", fn := fun _ => fun
  | [d] => { results := [.lit (.bool false)], args := [d] }
  | _ => none }
def ParserPiecesWrongFalsely : Prop := parserPiecesRow.holds Tryz.pinned (OpenSpec.ofChange parserPiecesWrong)

/-- 'insolvencylaw12.ParserFormat': WHATEVER THE INPUT: true; the input reads as it did. -/
def parserFormatSpec : ChangeSpec := { name := "parserFormat", fn := fun _ => fun
  | [d] => { results := [.lit (.bool true)], args := [d] }
  | _ => none }
def parserFormatRow : OpenClaim := { program := "ytnbdckfnohagbaagreatdoor", sum := "dd71cada5b5fc3010775314aad4167366cf578734542e4abc343222f4840a521", func := "insolvency/insolvencylaw12.ParserFormat", spec := "parserFormat", inPlace := ["internal/bytealg.IndexByteString", "internal/bytealg.IndexString", "internal/abi.NoEscape", "internal/bytealg.MakeNoZero"], unfollowed := true, recurses := true, named := ["internal/bytealg.MaxLen", "unicode/utf8.first", "unicode/utf8.acceptRanges"], apart := false, laid := [("unicode/utf8.acceptRanges", laid_unicode_utf8_acceptRanges), ("unicode/utf8.first", laid_unicode_utf8_first)] }
def ParserFormatSaid : Prop := parserFormatRow.holds Tryz.pinned (OpenSpec.ofChange parserFormatSpec)

/-- ITS FALSE NEIGHBOUR: 'it returns false'. Refute it at one input. -/
def parserFormatWrong : ChangeSpec := { name := "parserFormat", fn := fun _ => fun
  | [d] => { results := [.lit (.bool false)], args := [d] }
  | _ => none }
def ParserFormatWrongFalsely : Prop := parserFormatRow.holds Tryz.pinned (OpenSpec.ofChange parserFormatWrong)

/-- 'insolvencylaw12.ParserBack': WHATEVER THE INPUT: true; the input reads as it did. -/
def parserBackSpec : ChangeSpec := { name := "parserBack", fn := fun _ => fun
  | [d] => { results := [.lit (.bool true)], args := [d] }
  | _ => none }
def parserBackRow : OpenClaim := { program := "ytnbdckfnohagbaagreatdoor", sum := "dd71cada5b5fc3010775314aad4167366cf578734542e4abc343222f4840a521", func := "insolvency/insolvencylaw12.ParserBack", spec := "parserBack", inPlace := ["internal/bytealg.IndexByteString", "internal/bytealg.IndexString", "internal/abi.NoEscape", "internal/bytealg.MakeNoZero"], unfollowed := true, recurses := true, named := ["unicode/utf8.first", "unicode/utf8.acceptRanges", "internal/bytealg.MaxLen"], apart := false, laid := [("unicode/utf8.acceptRanges", laid_unicode_utf8_acceptRanges), ("unicode/utf8.first", laid_unicode_utf8_first)] }
def ParserBackSaid : Prop := parserBackRow.holds Tryz.pinned (OpenSpec.ofChange parserBackSpec)

/-- ITS FALSE NEIGHBOUR: 'it returns false'. Refute it at one input. -/
def parserBackWrong : ChangeSpec := { name := "parserBack", fn := fun _ => fun
  | [d] => { results := [.lit (.bool false)], args := [d] }
  | _ => none }
def ParserBackWrongFalsely : Prop := parserBackRow.holds Tryz.pinned (OpenSpec.ofChange parserBackWrong)

/-- 'insolvencylaw12.ParserBroken': WHATEVER THE INPUT: true; the input reads as it did. -/
def parserBrokenSpec : ChangeSpec := { name := "parserBroken", fn := fun _ => fun
  | [d1, d2, d3, d4] => { results := [.lit (.bool true)], args := [d1, d2, d3, d4] }
  | _ => none }
def parserBrokenRow : OpenClaim := { program := "ytnbdckfnohagbaagreatdoor", sum := "dd71cada5b5fc3010775314aad4167366cf578734542e4abc343222f4840a521", func := "insolvency/insolvencylaw12.ParserBroken", spec := "parserBroken", inPlace := ["internal/bytealg.IndexByteString", "internal/bytealg.IndexString", "internal/abi.NoEscape", "internal/bytealg.MakeNoZero"], unfollowed := true, recurses := true, named := ["unicode/utf8.first", "unicode/utf8.acceptRanges", "internal/bytealg.MaxLen"], apart := false, laid := [("unicode/utf8.acceptRanges", laid_unicode_utf8_acceptRanges), ("unicode/utf8.first", laid_unicode_utf8_first)] }
def ParserBrokenSaid : Prop := parserBrokenRow.holds Tryz.pinned (OpenSpec.ofChange parserBrokenSpec)

/-- ITS FALSE NEIGHBOUR: 'it returns false'. Refute it at one input. -/
def parserBrokenWrong : ChangeSpec := { name := "parserBroken", fn := fun _ => fun
  | [d1, d2, d3, d4] => { results := [.lit (.bool false)], args := [d1, d2, d3, d4] }
  | _ => none }
def ParserBrokenWrongFalsely : Prop := parserBrokenRow.holds Tryz.pinned (OpenSpec.ofChange parserBrokenWrong)

/-- 'insolvencylaw12.ParserMany': WHATEVER THE INPUT: true; the input reads as it did. -/
def parserManySpec : ChangeSpec := { name := "parserMany", fn := fun _ => fun
  | [d1, d2] => { results := [.lit (.bool true)], args := [d1, d2] }
  | _ => none }
def parserManyRow : OpenClaim := { program := "ytnbdckfnohagbaagreatdoor", sum := "dd71cada5b5fc3010775314aad4167366cf578734542e4abc343222f4840a521", func := "insolvency/insolvencylaw12.ParserMany", spec := "parserMany", inPlace := ["internal/bytealg.IndexByteString", "internal/bytealg.IndexString", "internal/abi.NoEscape", "internal/bytealg.MakeNoZero"], unfollowed := true, recurses := true, named := ["internal/bytealg.MaxLen", "unicode/utf8.first", "unicode/utf8.acceptRanges"], apart := false, laid := [("unicode/utf8.acceptRanges", laid_unicode_utf8_acceptRanges), ("unicode/utf8.first", laid_unicode_utf8_first)] }
def ParserManySaid : Prop := parserManyRow.holds Tryz.pinned (OpenSpec.ofChange parserManySpec)

/-- ITS FALSE NEIGHBOUR: 'it returns false'. Refute it at one input. -/
def parserManyWrong : ChangeSpec := { name := "parserMany", fn := fun _ => fun
  | [d1, d2] => { results := [.lit (.bool false)], args := [d1, d2] }
  | _ => none }
def ParserManyWrongFalsely : Prop := parserManyRow.holds Tryz.pinned (OpenSpec.ofChange parserManyWrong)

/- THE SECOND FORM. 'bulk': how many values and letters a reading holds, each counted each time it is reached (what is shared counts as often as it is met; a slice's spare places count too). A statement '..UptoSaid' is the law's where the arguments, and the package variables that the reading takes, are together of bulk at most 1048576: NARROWER than '..Said'. Prove '..Said' where nothing that the law and all that it calls make is longer than what came in: it says more and counts as full. Else prove '..UptoSaid'. A law counts once. -/
mutual
def uptoBulk {H : Type} : DataW H → Nat
  | .lit (.string bytes) => bytes.length + 1
  | .lit _ => 1
  | .nil => 1
  | .ptr d => uptoBulk d + 1
  | .slice elems spare => uptoBulkAll elems + uptoBulkAll spare + 1
  | .agg parts => uptoBulkAll parts + 1
  | .iface _ d => uptoBulk d + 1
  | .map entries => uptoBulkEntries entries + 1
  | .held _ => 1
def uptoBulkAll {H : Type} : List (DataW H) → Nat
  | [] => 0
  | d :: r => uptoBulk d + uptoBulkAll r
def uptoBulkEntries {H : Type} : List (Lit × DataW H) → Nat
  | [] => 0
  | x :: r => uptoBulkEntry x + uptoBulkEntries r
def uptoBulkEntry {H : Type} : Lit × DataW H → Nat
  | (.string bytes, d) => bytes.length + uptoBulk d + 1
  | (_, d) => uptoBulk d + 1
 end
def uptoSmall : (H : Type) → List (DataW H) → Bool := fun _ ds => decide (uptoBulkAll ds ≤ 1048576)
def OpenSpec.upto (s : _root_.Go.ChangeSpec) : _root_.Go.OpenSpec := { _root_.Go.OpenSpec.ofChange s with cond := some uptoSmall }

/-- 'insolvencylaw12.ParserParse', WHERE WHAT IT READS IS OF BULK AT MOST 1048576: true; the input reads as it did. -/
def parserParseUptoRow : OpenClaim := { program := "ytnbdckfnohagbaagreatdoor", sum := "dd71cada5b5fc3010775314aad4167366cf578734542e4abc343222f4840a521", func := "insolvency/insolvencylaw12.ParserParse", spec := "parserParse", inPlace := ["internal/bytealg.IndexByteString", "internal/bytealg.IndexString"], unfollowed := true, recurses := true, named := ["internal/bytealg.MaxLen", "unicode/utf8.first", "unicode/utf8.acceptRanges"], apart := false, laid := [("unicode/utf8.acceptRanges", laid_unicode_utf8_acceptRanges), ("unicode/utf8.first", laid_unicode_utf8_first)], narrowed := true }
def ParserParseUptoSaid : Prop := parserParseUptoRow.holds Tryz.pinned (OpenSpec.upto parserParseSpec)

/-- 'insolvencylaw12.ParserPieces', WHERE WHAT IT READS IS OF BULK AT MOST 1048576: true; the input reads as it did. -/
def parserPiecesUptoRow : OpenClaim := { program := "ytnbdckfnohagbaagreatdoor", sum := "dd71cada5b5fc3010775314aad4167366cf578734542e4abc343222f4840a521", func := "insolvency/insolvencylaw12.ParserPieces", spec := "parserPieces", inPlace := ["internal/bytealg.IndexByteString", "internal/bytealg.IndexString"], unfollowed := true, recurses := true, named := ["internal/bytealg.MaxLen", "unicode/utf8.first", "unicode/utf8.acceptRanges"], apart := false, laid := [("unicode/utf8.acceptRanges", laid_unicode_utf8_acceptRanges), ("unicode/utf8.first", laid_unicode_utf8_first)], narrowed := true }
def ParserPiecesUptoSaid : Prop := parserPiecesUptoRow.holds Tryz.pinned (OpenSpec.upto parserPiecesSpec)

/-- 'insolvencylaw12.ParserFormat', WHERE WHAT IT READS IS OF BULK AT MOST 1048576: true; the input reads as it did. -/
def parserFormatUptoRow : OpenClaim := { program := "ytnbdckfnohagbaagreatdoor", sum := "dd71cada5b5fc3010775314aad4167366cf578734542e4abc343222f4840a521", func := "insolvency/insolvencylaw12.ParserFormat", spec := "parserFormat", inPlace := ["internal/bytealg.IndexByteString", "internal/bytealg.IndexString", "internal/abi.NoEscape", "internal/bytealg.MakeNoZero"], unfollowed := true, recurses := true, named := ["internal/bytealg.MaxLen", "unicode/utf8.first", "unicode/utf8.acceptRanges"], apart := false, laid := [("unicode/utf8.acceptRanges", laid_unicode_utf8_acceptRanges), ("unicode/utf8.first", laid_unicode_utf8_first)], narrowed := true }
def ParserFormatUptoSaid : Prop := parserFormatUptoRow.holds Tryz.pinned (OpenSpec.upto parserFormatSpec)

/-- 'insolvencylaw12.ParserBack', WHERE WHAT IT READS IS OF BULK AT MOST 1048576: true; the input reads as it did. -/
def parserBackUptoRow : OpenClaim := { program := "ytnbdckfnohagbaagreatdoor", sum := "dd71cada5b5fc3010775314aad4167366cf578734542e4abc343222f4840a521", func := "insolvency/insolvencylaw12.ParserBack", spec := "parserBack", inPlace := ["internal/bytealg.IndexByteString", "internal/bytealg.IndexString", "internal/abi.NoEscape", "internal/bytealg.MakeNoZero"], unfollowed := true, recurses := true, named := ["unicode/utf8.first", "unicode/utf8.acceptRanges", "internal/bytealg.MaxLen"], apart := false, laid := [("unicode/utf8.acceptRanges", laid_unicode_utf8_acceptRanges), ("unicode/utf8.first", laid_unicode_utf8_first)], narrowed := true }
def ParserBackUptoSaid : Prop := parserBackUptoRow.holds Tryz.pinned (OpenSpec.upto parserBackSpec)

/-- 'insolvencylaw12.ParserBroken', WHERE WHAT IT READS IS OF BULK AT MOST 1048576: true; the input reads as it did. -/
def parserBrokenUptoRow : OpenClaim := { program := "ytnbdckfnohagbaagreatdoor", sum := "dd71cada5b5fc3010775314aad4167366cf578734542e4abc343222f4840a521", func := "insolvency/insolvencylaw12.ParserBroken", spec := "parserBroken", inPlace := ["internal/bytealg.IndexByteString", "internal/bytealg.IndexString", "internal/abi.NoEscape", "internal/bytealg.MakeNoZero"], unfollowed := true, recurses := true, named := ["unicode/utf8.first", "unicode/utf8.acceptRanges", "internal/bytealg.MaxLen"], apart := false, laid := [("unicode/utf8.acceptRanges", laid_unicode_utf8_acceptRanges), ("unicode/utf8.first", laid_unicode_utf8_first)], narrowed := true }
def ParserBrokenUptoSaid : Prop := parserBrokenUptoRow.holds Tryz.pinned (OpenSpec.upto parserBrokenSpec)

/-- 'insolvencylaw12.ParserMany', WHERE WHAT IT READS IS OF BULK AT MOST 1048576: true; the input reads as it did. -/
def parserManyUptoRow : OpenClaim := { program := "ytnbdckfnohagbaagreatdoor", sum := "dd71cada5b5fc3010775314aad4167366cf578734542e4abc343222f4840a521", func := "insolvency/insolvencylaw12.ParserMany", spec := "parserMany", inPlace := ["internal/bytealg.IndexByteString", "internal/bytealg.IndexString", "internal/abi.NoEscape", "internal/bytealg.MakeNoZero"], unfollowed := true, recurses := true, named := ["internal/bytealg.MaxLen", "unicode/utf8.first", "unicode/utf8.acceptRanges"], apart := false, laid := [("unicode/utf8.acceptRanges", laid_unicode_utf8_acceptRanges), ("unicode/utf8.first", laid_unicode_utf8_first)], narrowed := true }
def ParserManyUptoSaid : Prop := parserManyUptoRow.holds Tryz.pinned (OpenSpec.upto parserManySpec)

end Rows
end Go.Proofs.YtnbdckfnohagbaaGreatDoor
