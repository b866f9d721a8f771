/-
  NARROWER THAN 'FOR EVERY INPUT', by the rows' own cells (each row's printed sentence says how): RationalParse: laid · RationalFormat: laid · RationalDecimal: laid · RationalFraction: laid · RationalDivide: laid · RationalInt64: laid · RationalSum: laid · RationalArithmetic: laid · RationalForms: laid · RationalOrder: laid · RationalField: laid · RationalFloor: laid · RationalTruncated: laid.
  DERIVED. THE GIVEN ROWS OF THIS SEAT. 13 by the template 'for every input the law returns true; each argument reads behind the call as it read before'; 0 by the template 'total and deterministic' (their statements: YthppojbabkljpaaGreatDoorTotals.lean).
  GIVEN WITH THE SEED: the statements are not yours to turn. If you find one false, say at which input.
  Laid BY PROGRAM, IN A SANDBOX (cutbox-rows.mjs): the forced cells as the released guide's own fill.sh prints them over the translation 3438b6c5bb6feae0… (all of the seat's roots in one cut). By AI agents, Wed Nov 11 2026. No macro, syntax, notation, axiom, sorry.
-/
import Derived.Test.YthppojbabkljpaaGreatDoorChecked
import GoSem.PinnedTables
import GoSem.Claim
import GoSem.ClaimJoined
import GoSem.ClaimMapViews
import Derived.JoinedTies
import Derived.KernelRfl
namespace Go.Proofs.YthppojbabkljpaaGreatDoor
/- THE CELL 'sum', in the pinned program and in every row, IS THE sha256 OF THE DUMP (.gsa) THAT YthppojbabkljpaaGreatDoorProg.lean LOADS. Nothing in Lean hashes anything: it is a label: what it is worth is what the hold of that sum in a sandbox is worth. -/
noncomputable def Tryz.pinned : Pinned := { name := "ythppojbabkljpaagreatdoor", sum := "3438b6c5bb6feae045e6704eae3b5284392204aba97453a677e60b2a1baf7667", checked := Tryz.checked }
namespace Rows
def none {H : Type} : Left H := { results := [], args := [] }

/- WHAT THE LISTED PACKAGE-LEVEL VARIABLES READ AS WHEN THE CALL BEGINS. Each datum BY PROGRAM (the guide's laid-datum.mjs) off the statement by which the dump's own 'gosem.cut.vars' lays the variable. In a bare row this is a premise. The card (YthppojbabkljpaaGreatDoorCards.lean) ties it to the program's text. -/
def laid_unicode_utf8_acceptRanges {H : Type} : DataW H := .agg [.agg [.lit (.int .u8 128), .lit (.int .u8 191)], .agg [.lit (.int .u8 160), .lit (.int .u8 191)], .agg [.lit (.int .u8 128), .lit (.int .u8 159)], .agg [.lit (.int .u8 144), .lit (.int .u8 191)], .agg [.lit (.int .u8 128), .lit (.int .u8 143)], .agg [.lit (.int .u8 0), .lit (.int .u8 0)], .agg [.lit (.int .u8 0), .lit (.int .u8 0)], .agg [.lit (.int .u8 0), .lit (.int .u8 0)], .agg [.lit (.int .u8 0), .lit (.int .u8 0)], .agg [.lit (.int .u8 0), .lit (.int .u8 0)], .agg [.lit (.int .u8 0), .lit (.int .u8 0)], .agg [.lit (.int .u8 0), .lit (.int .u8 0)], .agg [.lit (.int .u8 0), .lit (.int .u8 0)], .agg [.lit (.int .u8 0), .lit (.int .u8 0)], .agg [.lit (.int .u8 0), .lit (.int .u8 0)], .agg [.lit (.int .u8 0), .lit (.int .u8 0)]]
/-- One of Go's own tables, pinned by name: the form's constant. -/
def laid_unicode_utf8_first : DataW Unit := Go.Pinned.utf8First

/-- 'insolvencylaw2.RationalParse': WHATEVER THE INPUT: true; the input reads as it did. -/
def rationalParseSpec : ChangeSpec := { name := "rationalParse", fn := fun _ => fun
  | [d] => { results := [.lit (.bool true)], args := [d] }
  | _ => none }
def rationalParseRow : OpenClaim := { program := "ythppojbabkljpaagreatdoor", sum := "3438b6c5bb6feae045e6704eae3b5284392204aba97453a677e60b2a1baf7667", func := "insolvency/insolvencylaw2.RationalParse", spec := "rationalParse", inPlace := ["internal/bytealg.IndexByteString", "internal/bytealg.IndexString", "internal/abi.NoEscape", "internal/bytealg.MakeNoZero"], named := ["unicode/utf8.first", "unicode/utf8.acceptRanges", "internal/bytealg.MaxLen"], apart := false, laid := [("unicode/utf8.acceptRanges", laid_unicode_utf8_acceptRanges), ("unicode/utf8.first", laid_unicode_utf8_first)] }
def RationalParseSaid : Prop := rationalParseRow.holds Tryz.pinned (OpenSpec.ofChange rationalParseSpec)

/-- ITS FALSE NEIGHBOUR: 'it returns false'. Refute it at one input. -/
def rationalParseWrong : ChangeSpec := { name := "rationalParse", fn := fun _ => fun
  | [d] => { results := [.lit (.bool false)], args := [d] }
  | _ => none }
def RationalParseWrongFalsely : Prop := rationalParseRow.holds Tryz.pinned (OpenSpec.ofChange rationalParseWrong)

/-- 'insolvencylaw2.RationalFormat': WHATEVER THE INPUT: true; the input reads as it did. -/
def rationalFormatSpec : ChangeSpec := { name := "rationalFormat", fn := fun _ => fun
  | [d] => { results := [.lit (.bool true)], args := [d] }
  | _ => none }
def rationalFormatRow : OpenClaim := { program := "ythppojbabkljpaagreatdoor", sum := "3438b6c5bb6feae045e6704eae3b5284392204aba97453a677e60b2a1baf7667", func := "insolvency/insolvencylaw2.RationalFormat", spec := "rationalFormat", inPlace := ["internal/bytealg.IndexByteString", "internal/bytealg.IndexString", "internal/abi.NoEscape", "internal/bytealg.MakeNoZero"], named := ["unicode/utf8.first", "unicode/utf8.acceptRanges", "internal/bytealg.MaxLen"], apart := false, laid := [("unicode/utf8.acceptRanges", laid_unicode_utf8_acceptRanges), ("unicode/utf8.first", laid_unicode_utf8_first)] }
def RationalFormatSaid : Prop := rationalFormatRow.holds Tryz.pinned (OpenSpec.ofChange rationalFormatSpec)

/-- ITS FALSE NEIGHBOUR: 'it returns false'. Refute it at one input. -/
def rationalFormatWrong : ChangeSpec := { name := "rationalFormat", fn := fun _ => fun
  | [d] => { results := [.lit (.bool false)], args := [d] }
  | _ => none }
def RationalFormatWrongFalsely : Prop := rationalFormatRow.holds Tryz.pinned (OpenSpec.ofChange rationalFormatWrong)

/-- 'insolvencylaw2.RationalDecimal': WHATEVER THE INPUT: true; the input reads as it did. -/
def rationalDecimalSpec : ChangeSpec := { name := "rationalDecimal", fn := fun _ => fun
  | [d1, d2] => { results := [.lit (.bool true)], args := [d1, d2] }
  | _ => none }
def rationalDecimalRow : OpenClaim := { program := "ythppojbabkljpaagreatdoor", sum := "3438b6c5bb6feae045e6704eae3b5284392204aba97453a677e60b2a1baf7667", func := "insolvency/insolvencylaw2.RationalDecimal", spec := "rationalDecimal", inPlace := ["internal/bytealg.IndexByteString", "internal/bytealg.IndexString", "internal/abi.NoEscape", "internal/bytealg.MakeNoZero"], named := ["unicode/utf8.first", "unicode/utf8.acceptRanges", "internal/bytealg.MaxLen"], apart := false, laid := [("unicode/utf8.acceptRanges", laid_unicode_utf8_acceptRanges), ("unicode/utf8.first", laid_unicode_utf8_first)] }
def RationalDecimalSaid : Prop := rationalDecimalRow.holds Tryz.pinned (OpenSpec.ofChange rationalDecimalSpec)

/-- ITS FALSE NEIGHBOUR: 'it returns false'. Refute it at one input. -/
def rationalDecimalWrong : ChangeSpec := { name := "rationalDecimal", fn := fun _ => fun
  | [d1, d2] => { results := [.lit (.bool false)], args := [d1, d2] }
  | _ => none }
def RationalDecimalWrongFalsely : Prop := rationalDecimalRow.holds Tryz.pinned (OpenSpec.ofChange rationalDecimalWrong)

/-- 'insolvencylaw2.RationalFraction': WHATEVER THE INPUT: true; the input reads as it did. -/
def rationalFractionSpec : ChangeSpec := { name := "rationalFraction", fn := fun _ => fun
  | [d1, d2] => { results := [.lit (.bool true)], args := [d1, d2] }
  | _ => none }
def rationalFractionRow : OpenClaim := { program := "ythppojbabkljpaagreatdoor", sum := "3438b6c5bb6feae045e6704eae3b5284392204aba97453a677e60b2a1baf7667", func := "insolvency/insolvencylaw2.RationalFraction", spec := "rationalFraction", inPlace := ["internal/bytealg.IndexByteString", "internal/bytealg.IndexString", "internal/abi.NoEscape", "internal/bytealg.MakeNoZero"], named := ["unicode/utf8.first", "unicode/utf8.acceptRanges", "internal/bytealg.MaxLen"], apart := false, laid := [("unicode/utf8.acceptRanges", laid_unicode_utf8_acceptRanges), ("unicode/utf8.first", laid_unicode_utf8_first)] }
def RationalFractionSaid : Prop := rationalFractionRow.holds Tryz.pinned (OpenSpec.ofChange rationalFractionSpec)

/-- ITS FALSE NEIGHBOUR: 'it returns false'. Refute it at one input. -/
def rationalFractionWrong : ChangeSpec := { name := "rationalFraction", fn := fun _ => fun
  | [d1, d2] => { results := [.lit (.bool false)], args := [d1, d2] }
  | _ => none }
def RationalFractionWrongFalsely : Prop := rationalFractionRow.holds Tryz.pinned (OpenSpec.ofChange rationalFractionWrong)

/-- 'insolvencylaw2.RationalDivide': WHATEVER THE INPUT: true; the input reads as it did. -/
def rationalDivideSpec : ChangeSpec := { name := "rationalDivide", fn := fun _ => fun
  | [d1, d2] => { results := [.lit (.bool true)], args := [d1, d2] }
  | _ => none }
def rationalDivideRow : OpenClaim := { program := "ythppojbabkljpaagreatdoor", sum := "3438b6c5bb6feae045e6704eae3b5284392204aba97453a677e60b2a1baf7667", func := "insolvency/insolvencylaw2.RationalDivide", spec := "rationalDivide", inPlace := ["internal/bytealg.IndexByteString", "internal/bytealg.IndexString", "internal/abi.NoEscape", "internal/bytealg.MakeNoZero"], named := ["unicode/utf8.first", "unicode/utf8.acceptRanges", "internal/bytealg.MaxLen"], apart := false, laid := [("unicode/utf8.acceptRanges", laid_unicode_utf8_acceptRanges), ("unicode/utf8.first", laid_unicode_utf8_first)] }
def RationalDivideSaid : Prop := rationalDivideRow.holds Tryz.pinned (OpenSpec.ofChange rationalDivideSpec)

/-- ITS FALSE NEIGHBOUR: 'it returns false'. Refute it at one input. -/
def rationalDivideWrong : ChangeSpec := { name := "rationalDivide", fn := fun _ => fun
  | [d1, d2] => { results := [.lit (.bool false)], args := [d1, d2] }
  | _ => none }
def RationalDivideWrongFalsely : Prop := rationalDivideRow.holds Tryz.pinned (OpenSpec.ofChange rationalDivideWrong)

/-- 'insolvencylaw2.RationalInt64': WHATEVER THE INPUT: true; the input reads as it did. -/
def rationalInt64Spec : ChangeSpec := { name := "rationalInt64", fn := fun _ => fun
  | [d1, d2] => { results := [.lit (.bool true)], args := [d1, d2] }
  | _ => none }
def rationalInt64Row : OpenClaim := { program := "ythppojbabkljpaagreatdoor", sum := "3438b6c5bb6feae045e6704eae3b5284392204aba97453a677e60b2a1baf7667", func := "insolvency/insolvencylaw2.RationalInt64", spec := "rationalInt64", inPlace := ["internal/bytealg.IndexByteString", "internal/bytealg.IndexString", "internal/abi.NoEscape", "internal/bytealg.MakeNoZero"], named := ["unicode/utf8.first", "unicode/utf8.acceptRanges", "internal/bytealg.MaxLen"], apart := false, laid := [("unicode/utf8.acceptRanges", laid_unicode_utf8_acceptRanges), ("unicode/utf8.first", laid_unicode_utf8_first)] }
def RationalInt64Said : Prop := rationalInt64Row.holds Tryz.pinned (OpenSpec.ofChange rationalInt64Spec)

/-- ITS FALSE NEIGHBOUR: 'it returns false'. Refute it at one input. -/
def rationalInt64Wrong : ChangeSpec := { name := "rationalInt64", fn := fun _ => fun
  | [d1, d2] => { results := [.lit (.bool false)], args := [d1, d2] }
  | _ => none }
def RationalInt64WrongFalsely : Prop := rationalInt64Row.holds Tryz.pinned (OpenSpec.ofChange rationalInt64Wrong)

/-- 'insolvencylaw2.RationalSum': WHATEVER THE INPUT: true; the input reads as it did. -/
def rationalSumSpec : ChangeSpec := { name := "rationalSum", fn := fun _ => fun
  | [d1, d2] => { results := [.lit (.bool true)], args := [d1, d2] }
  | _ => none }
def rationalSumRow : OpenClaim := { program := "ythppojbabkljpaagreatdoor", sum := "3438b6c5bb6feae045e6704eae3b5284392204aba97453a677e60b2a1baf7667", func := "insolvency/insolvencylaw2.RationalSum", spec := "rationalSum", inPlace := ["internal/bytealg.IndexByteString", "internal/bytealg.IndexString", "internal/abi.NoEscape", "internal/bytealg.MakeNoZero"], named := ["unicode/utf8.first", "unicode/utf8.acceptRanges", "internal/bytealg.MaxLen"], apart := false, laid := [("unicode/utf8.acceptRanges", laid_unicode_utf8_acceptRanges), ("unicode/utf8.first", laid_unicode_utf8_first)] }
def RationalSumSaid : Prop := rationalSumRow.holds Tryz.pinned (OpenSpec.ofChange rationalSumSpec)

/-- ITS FALSE NEIGHBOUR: 'it returns false'. Refute it at one input. -/
def rationalSumWrong : ChangeSpec := { name := "rationalSum", fn := fun _ => fun
  | [d1, d2] => { results := [.lit (.bool false)], args := [d1, d2] }
  | _ => none }
def RationalSumWrongFalsely : Prop := rationalSumRow.holds Tryz.pinned (OpenSpec.ofChange rationalSumWrong)

/-- 'insolvencylaw2.RationalArithmetic': WHATEVER THE INPUT: true; the input reads as it did. -/
def rationalArithmeticSpec : ChangeSpec := { name := "rationalArithmetic", fn := fun _ => fun
  | [d1, d2] => { results := [.lit (.bool true)], args := [d1, d2] }
  | _ => none }
def rationalArithmeticRow : OpenClaim := { program := "ythppojbabkljpaagreatdoor", sum := "3438b6c5bb6feae045e6704eae3b5284392204aba97453a677e60b2a1baf7667", func := "insolvency/insolvencylaw2.RationalArithmetic", spec := "rationalArithmetic", inPlace := ["internal/bytealg.IndexByteString", "internal/bytealg.IndexString", "internal/abi.NoEscape", "internal/bytealg.MakeNoZero"], named := ["unicode/utf8.first", "unicode/utf8.acceptRanges", "internal/bytealg.MaxLen"], apart := false, laid := [("unicode/utf8.acceptRanges", laid_unicode_utf8_acceptRanges), ("unicode/utf8.first", laid_unicode_utf8_first)] }
def RationalArithmeticSaid : Prop := rationalArithmeticRow.holds Tryz.pinned (OpenSpec.ofChange rationalArithmeticSpec)

/-- ITS FALSE NEIGHBOUR: 'it returns false'. Refute it at one input. -/
def rationalArithmeticWrong : ChangeSpec := { name := "rationalArithmetic", fn := fun _ => fun
  | [d1, d2] => { results := [.lit (.bool false)], args := [d1, d2] }
  | _ => none }
def RationalArithmeticWrongFalsely : Prop := rationalArithmeticRow.holds Tryz.pinned (OpenSpec.ofChange rationalArithmeticWrong)

/-- 'insolvencylaw2.RationalForms': WHATEVER THE INPUT: true; the input reads as it did. -/
def rationalFormsSpec : ChangeSpec := { name := "rationalForms", fn := fun _ => fun
  | [d1, d2, d3] => { results := [.lit (.bool true)], args := [d1, d2, d3] }
  | _ => none }
def rationalFormsRow : OpenClaim := { program := "ythppojbabkljpaagreatdoor", sum := "3438b6c5bb6feae045e6704eae3b5284392204aba97453a677e60b2a1baf7667", func := "insolvency/insolvencylaw2.RationalForms", spec := "rationalForms", inPlace := ["internal/bytealg.IndexByteString", "internal/bytealg.IndexString", "internal/bytealg.abigen_runtime_cmpstring", "internal/abi.NoEscape", "internal/bytealg.MakeNoZero"], named := ["internal/bytealg.MaxLen", "unicode/utf8.first", "unicode/utf8.acceptRanges"], apart := false, laid := [("unicode/utf8.acceptRanges", laid_unicode_utf8_acceptRanges), ("unicode/utf8.first", laid_unicode_utf8_first)] }
def RationalFormsSaid : Prop := rationalFormsRow.holds Tryz.pinned (OpenSpec.ofChange rationalFormsSpec)

/-- ITS FALSE NEIGHBOUR: 'it returns false'. Refute it at one input. -/
def rationalFormsWrong : ChangeSpec := { name := "rationalForms", fn := fun _ => fun
  | [d1, d2, d3] => { results := [.lit (.bool false)], args := [d1, d2, d3] }
  | _ => none }
def RationalFormsWrongFalsely : Prop := rationalFormsRow.holds Tryz.pinned (OpenSpec.ofChange rationalFormsWrong)

/-- 'insolvencylaw2.RationalOrder': WHATEVER THE INPUT: true; the input reads as it did. -/
def rationalOrderSpec : ChangeSpec := { name := "rationalOrder", fn := fun _ => fun
  | [d1, d2] => { results := [.lit (.bool true)], args := [d1, d2] }
  | _ => none }
def rationalOrderRow : OpenClaim := { program := "ythppojbabkljpaagreatdoor", sum := "3438b6c5bb6feae045e6704eae3b5284392204aba97453a677e60b2a1baf7667", func := "insolvency/insolvencylaw2.RationalOrder", spec := "rationalOrder", inPlace := ["internal/bytealg.IndexByteString", "internal/bytealg.IndexString", "internal/abi.NoEscape", "internal/bytealg.MakeNoZero", "internal/bytealg.abigen_runtime_cmpstring"], named := ["unicode/utf8.first", "unicode/utf8.acceptRanges", "internal/bytealg.MaxLen"], apart := false, laid := [("unicode/utf8.acceptRanges", laid_unicode_utf8_acceptRanges), ("unicode/utf8.first", laid_unicode_utf8_first)] }
def RationalOrderSaid : Prop := rationalOrderRow.holds Tryz.pinned (OpenSpec.ofChange rationalOrderSpec)

/-- ITS FALSE NEIGHBOUR: 'it returns false'. Refute it at one input. -/
def rationalOrderWrong : ChangeSpec := { name := "rationalOrder", fn := fun _ => fun
  | [d1, d2] => { results := [.lit (.bool false)], args := [d1, d2] }
  | _ => none }
def RationalOrderWrongFalsely : Prop := rationalOrderRow.holds Tryz.pinned (OpenSpec.ofChange rationalOrderWrong)

/-- 'insolvencylaw2.RationalField': WHATEVER THE INPUT: true; the input reads as it did. -/
def rationalFieldSpec : ChangeSpec := { name := "rationalField", fn := fun _ => fun
  | [d1, d2, d3] => { results := [.lit (.bool true)], args := [d1, d2, d3] }
  | _ => none }
def rationalFieldRow : OpenClaim := { program := "ythppojbabkljpaagreatdoor", sum := "3438b6c5bb6feae045e6704eae3b5284392204aba97453a677e60b2a1baf7667", func := "insolvency/insolvencylaw2.RationalField", spec := "rationalField", inPlace := ["internal/bytealg.IndexByteString", "internal/bytealg.IndexString", "internal/abi.NoEscape", "internal/bytealg.MakeNoZero"], named := ["unicode/utf8.first", "unicode/utf8.acceptRanges", "internal/bytealg.MaxLen"], apart := false, laid := [("unicode/utf8.acceptRanges", laid_unicode_utf8_acceptRanges), ("unicode/utf8.first", laid_unicode_utf8_first)] }
def RationalFieldSaid : Prop := rationalFieldRow.holds Tryz.pinned (OpenSpec.ofChange rationalFieldSpec)

/-- ITS FALSE NEIGHBOUR: 'it returns false'. Refute it at one input. -/
def rationalFieldWrong : ChangeSpec := { name := "rationalField", fn := fun _ => fun
  | [d1, d2, d3] => { results := [.lit (.bool false)], args := [d1, d2, d3] }
  | _ => none }
def RationalFieldWrongFalsely : Prop := rationalFieldRow.holds Tryz.pinned (OpenSpec.ofChange rationalFieldWrong)

/-- 'insolvencylaw2.RationalFloor': WHATEVER THE INPUT: true; the input reads as it did. -/
def rationalFloorSpec : ChangeSpec := { name := "rationalFloor", fn := fun _ => fun
  | [d] => { results := [.lit (.bool true)], args := [d] }
  | _ => none }
def rationalFloorRow : OpenClaim := { program := "ythppojbabkljpaagreatdoor", sum := "3438b6c5bb6feae045e6704eae3b5284392204aba97453a677e60b2a1baf7667", func := "insolvency/insolvencylaw2.RationalFloor", spec := "rationalFloor", inPlace := ["internal/bytealg.IndexByteString", "internal/bytealg.IndexString", "internal/abi.NoEscape", "internal/bytealg.MakeNoZero", "internal/bytealg.abigen_runtime_cmpstring"], named := ["unicode/utf8.first", "unicode/utf8.acceptRanges", "internal/bytealg.MaxLen"], apart := false, laid := [("unicode/utf8.acceptRanges", laid_unicode_utf8_acceptRanges), ("unicode/utf8.first", laid_unicode_utf8_first)] }
def RationalFloorSaid : Prop := rationalFloorRow.holds Tryz.pinned (OpenSpec.ofChange rationalFloorSpec)

/-- ITS FALSE NEIGHBOUR: 'it returns false'. Refute it at one input. -/
def rationalFloorWrong : ChangeSpec := { name := "rationalFloor", fn := fun _ => fun
  | [d] => { results := [.lit (.bool false)], args := [d] }
  | _ => none }
def RationalFloorWrongFalsely : Prop := rationalFloorRow.holds Tryz.pinned (OpenSpec.ofChange rationalFloorWrong)

/-- 'insolvencylaw2.RationalTruncated': WHATEVER THE INPUT: true; the input reads as it did. -/
def rationalTruncatedSpec : ChangeSpec := { name := "rationalTruncated", fn := fun _ => fun
  | [d1, d2] => { results := [.lit (.bool true)], args := [d1, d2] }
  | _ => none }
def rationalTruncatedRow : OpenClaim := { program := "ythppojbabkljpaagreatdoor", sum := "3438b6c5bb6feae045e6704eae3b5284392204aba97453a677e60b2a1baf7667", func := "insolvency/insolvencylaw2.RationalTruncated", spec := "rationalTruncated", inPlace := ["internal/bytealg.IndexByteString", "internal/bytealg.IndexString", "internal/abi.NoEscape", "internal/bytealg.MakeNoZero", "internal/bytealg.abigen_runtime_cmpstring"], named := ["unicode/utf8.first", "unicode/utf8.acceptRanges", "internal/bytealg.MaxLen"], apart := false, laid := [("unicode/utf8.acceptRanges", laid_unicode_utf8_acceptRanges), ("unicode/utf8.first", laid_unicode_utf8_first)] }
def RationalTruncatedSaid : Prop := rationalTruncatedRow.holds Tryz.pinned (OpenSpec.ofChange rationalTruncatedSpec)

/-- ITS FALSE NEIGHBOUR: 'it returns false'. Refute it at one input. -/
def rationalTruncatedWrong : ChangeSpec := { name := "rationalTruncated", fn := fun _ => fun
  | [d1, d2] => { results := [.lit (.bool false)], args := [d1, d2] }
  | _ => none }
def RationalTruncatedWrongFalsely : Prop := rationalTruncatedRow.holds Tryz.pinned (OpenSpec.ofChange rationalTruncatedWrong)

/- THE SECOND FORM. 'bulk': how many values and letters a reading holds, each counted each time it is reached (what is shared counts as often as it is met; a slice's spare places count too). A statement '..UptoSaid' is the law's where the arguments, and the package variables that the reading takes, are together of bulk at most 1048576: NARROWER than '..Said'. Prove '..Said' where nothing that the law and all that it calls make is longer than what came in: it says more and counts as full. Else prove '..UptoSaid'. A law counts once. -/
mutual
def uptoBulk {H : Type} : DataW H → Nat
  | .lit (.string bytes) => bytes.length + 1
  | .lit _ => 1
  | .nil => 1
  | .ptr d => uptoBulk d + 1
  | .slice elems spare => uptoBulkAll elems + uptoBulkAll spare + 1
  | .agg parts => uptoBulkAll parts + 1
  | .iface _ d => uptoBulk d + 1
  | .map entries => uptoBulkEntries entries + 1
  | .held _ => 1
def uptoBulkAll {H : Type} : List (DataW H) → Nat
  | [] => 0
  | d :: r => uptoBulk d + uptoBulkAll r
def uptoBulkEntries {H : Type} : List (Lit × DataW H) → Nat
  | [] => 0
  | x :: r => uptoBulkEntry x + uptoBulkEntries r
def uptoBulkEntry {H : Type} : Lit × DataW H → Nat
  | (.string bytes, d) => bytes.length + uptoBulk d + 1
  | (_, d) => uptoBulk d + 1
 end
def uptoSmall : (H : Type) → List (DataW H) → Bool := fun _ ds => decide (uptoBulkAll ds ≤ 1048576)
def OpenSpec.upto (s : _root_.Go.ChangeSpec) : _root_.Go.OpenSpec := { _root_.Go.OpenSpec.ofChange s with cond := some uptoSmall }

/-- 'insolvencylaw2.RationalParse', WHERE WHAT IT READS IS OF BULK AT MOST 1048576: true; the input reads as it did. -/
def rationalParseUptoRow : OpenClaim := { program := "ythppojbabkljpaagreatdoor", sum := "3438b6c5bb6feae045e6704eae3b5284392204aba97453a677e60b2a1baf7667", func := "insolvency/insolvencylaw2.RationalParse", spec := "rationalParse", inPlace := ["internal/bytealg.IndexByteString", "internal/bytealg.IndexString", "internal/abi.NoEscape", "internal/bytealg.MakeNoZero"], named := ["unicode/utf8.first", "unicode/utf8.acceptRanges", "internal/bytealg.MaxLen"], apart := false, laid := [("unicode/utf8.acceptRanges", laid_unicode_utf8_acceptRanges), ("unicode/utf8.first", laid_unicode_utf8_first)], narrowed := true }
def RationalParseUptoSaid : Prop := rationalParseUptoRow.holds Tryz.pinned (OpenSpec.upto rationalParseSpec)

/-- 'insolvencylaw2.RationalFormat', WHERE WHAT IT READS IS OF BULK AT MOST 1048576: true; the input reads as it did. -/
def rationalFormatUptoRow : OpenClaim := { program := "ythppojbabkljpaagreatdoor", sum := "3438b6c5bb6feae045e6704eae3b5284392204aba97453a677e60b2a1baf7667", func := "insolvency/insolvencylaw2.RationalFormat", spec := "rationalFormat", inPlace := ["internal/bytealg.IndexByteString", "internal/bytealg.IndexString", "internal/abi.NoEscape", "internal/bytealg.MakeNoZero"], named := ["unicode/utf8.first", "unicode/utf8.acceptRanges", "internal/bytealg.MaxLen"], apart := false, laid := [("unicode/utf8.acceptRanges", laid_unicode_utf8_acceptRanges), ("unicode/utf8.first", laid_unicode_utf8_first)], narrowed := true }
def RationalFormatUptoSaid : Prop := rationalFormatUptoRow.holds Tryz.pinned (OpenSpec.upto rationalFormatSpec)

/-- 'insolvencylaw2.RationalDecimal', WHERE WHAT IT READS IS OF BULK AT MOST 1048576: true; the input reads as it did. -/
def rationalDecimalUptoRow : OpenClaim := { program := "ythppojbabkljpaagreatdoor", sum := "3438b6c5bb6feae045e6704eae3b5284392204aba97453a677e60b2a1baf7667", func := "insolvency/insolvencylaw2.RationalDecimal", spec := "rationalDecimal", inPlace := ["internal/bytealg.IndexByteString", "internal/bytealg.IndexString", "internal/abi.NoEscape", "internal/bytealg.MakeNoZero"], named := ["unicode/utf8.first", "unicode/utf8.acceptRanges", "internal/bytealg.MaxLen"], apart := false, laid := [("unicode/utf8.acceptRanges", laid_unicode_utf8_acceptRanges), ("unicode/utf8.first", laid_unicode_utf8_first)], narrowed := true }
def RationalDecimalUptoSaid : Prop := rationalDecimalUptoRow.holds Tryz.pinned (OpenSpec.upto rationalDecimalSpec)

/-- 'insolvencylaw2.RationalFraction', WHERE WHAT IT READS IS OF BULK AT MOST 1048576: true; the input reads as it did. -/
def rationalFractionUptoRow : OpenClaim := { program := "ythppojbabkljpaagreatdoor", sum := "3438b6c5bb6feae045e6704eae3b5284392204aba97453a677e60b2a1baf7667", func := "insolvency/insolvencylaw2.RationalFraction", spec := "rationalFraction", inPlace := ["internal/bytealg.IndexByteString", "internal/bytealg.IndexString", "internal/abi.NoEscape", "internal/bytealg.MakeNoZero"], named := ["unicode/utf8.first", "unicode/utf8.acceptRanges", "internal/bytealg.MaxLen"], apart := false, laid := [("unicode/utf8.acceptRanges", laid_unicode_utf8_acceptRanges), ("unicode/utf8.first", laid_unicode_utf8_first)], narrowed := true }
def RationalFractionUptoSaid : Prop := rationalFractionUptoRow.holds Tryz.pinned (OpenSpec.upto rationalFractionSpec)

/-- 'insolvencylaw2.RationalDivide', WHERE WHAT IT READS IS OF BULK AT MOST 1048576: true; the input reads as it did. -/
def rationalDivideUptoRow : OpenClaim := { program := "ythppojbabkljpaagreatdoor", sum := "3438b6c5bb6feae045e6704eae3b5284392204aba97453a677e60b2a1baf7667", func := "insolvency/insolvencylaw2.RationalDivide", spec := "rationalDivide", inPlace := ["internal/bytealg.IndexByteString", "internal/bytealg.IndexString", "internal/abi.NoEscape", "internal/bytealg.MakeNoZero"], named := ["unicode/utf8.first", "unicode/utf8.acceptRanges", "internal/bytealg.MaxLen"], apart := false, laid := [("unicode/utf8.acceptRanges", laid_unicode_utf8_acceptRanges), ("unicode/utf8.first", laid_unicode_utf8_first)], narrowed := true }
def RationalDivideUptoSaid : Prop := rationalDivideUptoRow.holds Tryz.pinned (OpenSpec.upto rationalDivideSpec)

/-- 'insolvencylaw2.RationalInt64', WHERE WHAT IT READS IS OF BULK AT MOST 1048576: true; the input reads as it did. -/
def rationalInt64UptoRow : OpenClaim := { program := "ythppojbabkljpaagreatdoor", sum := "3438b6c5bb6feae045e6704eae3b5284392204aba97453a677e60b2a1baf7667", func := "insolvency/insolvencylaw2.RationalInt64", spec := "rationalInt64", inPlace := ["internal/bytealg.IndexByteString", "internal/bytealg.IndexString", "internal/abi.NoEscape", "internal/bytealg.MakeNoZero"], named := ["unicode/utf8.first", "unicode/utf8.acceptRanges", "internal/bytealg.MaxLen"], apart := false, laid := [("unicode/utf8.acceptRanges", laid_unicode_utf8_acceptRanges), ("unicode/utf8.first", laid_unicode_utf8_first)], narrowed := true }
def RationalInt64UptoSaid : Prop := rationalInt64UptoRow.holds Tryz.pinned (OpenSpec.upto rationalInt64Spec)

/-- 'insolvencylaw2.RationalSum', WHERE WHAT IT READS IS OF BULK AT MOST 1048576: true; the input reads as it did. -/
def rationalSumUptoRow : OpenClaim := { program := "ythppojbabkljpaagreatdoor", sum := "3438b6c5bb6feae045e6704eae3b5284392204aba97453a677e60b2a1baf7667", func := "insolvency/insolvencylaw2.RationalSum", spec := "rationalSum", inPlace := ["internal/bytealg.IndexByteString", "internal/bytealg.IndexString", "internal/abi.NoEscape", "internal/bytealg.MakeNoZero"], named := ["unicode/utf8.first", "unicode/utf8.acceptRanges", "internal/bytealg.MaxLen"], apart := false, laid := [("unicode/utf8.acceptRanges", laid_unicode_utf8_acceptRanges), ("unicode/utf8.first", laid_unicode_utf8_first)], narrowed := true }
def RationalSumUptoSaid : Prop := rationalSumUptoRow.holds Tryz.pinned (OpenSpec.upto rationalSumSpec)

/-- 'insolvencylaw2.RationalArithmetic', WHERE WHAT IT READS IS OF BULK AT MOST 1048576: true; the input reads as it did. -/
def rationalArithmeticUptoRow : OpenClaim := { program := "ythppojbabkljpaagreatdoor", sum := "3438b6c5bb6feae045e6704eae3b5284392204aba97453a677e60b2a1baf7667", func := "insolvency/insolvencylaw2.RationalArithmetic", spec := "rationalArithmetic", inPlace := ["internal/bytealg.IndexByteString", "internal/bytealg.IndexString", "internal/abi.NoEscape", "internal/bytealg.MakeNoZero"], named := ["unicode/utf8.first", "unicode/utf8.acceptRanges", "internal/bytealg.MaxLen"], apart := false, laid := [("unicode/utf8.acceptRanges", laid_unicode_utf8_acceptRanges), ("unicode/utf8.first", laid_unicode_utf8_first)], narrowed := true }
def RationalArithmeticUptoSaid : Prop := rationalArithmeticUptoRow.holds Tryz.pinned (OpenSpec.upto rationalArithmeticSpec)

/-- 'insolvencylaw2.RationalForms', WHERE WHAT IT READS IS OF BULK AT MOST 1048576: true; the input reads as it did. -/
def rationalFormsUptoRow : OpenClaim := { program := "ythppojbabkljpaagreatdoor", sum := "3438b6c5bb6feae045e6704eae3b5284392204aba97453a677e60b2a1baf7667", func := "insolvency/insolvencylaw2.RationalForms", spec := "rationalForms", inPlace := ["internal/bytealg.IndexByteString", "internal/bytealg.IndexString", "internal/bytealg.abigen_runtime_cmpstring", "internal/abi.NoEscape", "internal/bytealg.MakeNoZero"], named := ["internal/bytealg.MaxLen", "unicode/utf8.first", "unicode/utf8.acceptRanges"], apart := false, laid := [("unicode/utf8.acceptRanges", laid_unicode_utf8_acceptRanges), ("unicode/utf8.first", laid_unicode_utf8_first)], narrowed := true }
def RationalFormsUptoSaid : Prop := rationalFormsUptoRow.holds Tryz.pinned (OpenSpec.upto rationalFormsSpec)

/-- 'insolvencylaw2.RationalOrder', WHERE WHAT IT READS IS OF BULK AT MOST 1048576: true; the input reads as it did. -/
def rationalOrderUptoRow : OpenClaim := { program := "ythppojbabkljpaagreatdoor", sum := "3438b6c5bb6feae045e6704eae3b5284392204aba97453a677e60b2a1baf7667", func := "insolvency/insolvencylaw2.RationalOrder", spec := "rationalOrder", inPlace := ["internal/bytealg.IndexByteString", "internal/bytealg.IndexString", "internal/abi.NoEscape", "internal/bytealg.MakeNoZero", "internal/bytealg.abigen_runtime_cmpstring"], named := ["unicode/utf8.first", "unicode/utf8.acceptRanges", "internal/bytealg.MaxLen"], apart := false, laid := [("unicode/utf8.acceptRanges", laid_unicode_utf8_acceptRanges), ("unicode/utf8.first", laid_unicode_utf8_first)], narrowed := true }
def RationalOrderUptoSaid : Prop := rationalOrderUptoRow.holds Tryz.pinned (OpenSpec.upto rationalOrderSpec)

/-- 'insolvencylaw2.RationalField', WHERE WHAT IT READS IS OF BULK AT MOST 1048576: true; the input reads as it did. -/
def rationalFieldUptoRow : OpenClaim := { program := "ythppojbabkljpaagreatdoor", sum := "3438b6c5bb6feae045e6704eae3b5284392204aba97453a677e60b2a1baf7667", func := "insolvency/insolvencylaw2.RationalField", spec := "rationalField", inPlace := ["internal/bytealg.IndexByteString", "internal/bytealg.IndexString", "internal/abi.NoEscape", "internal/bytealg.MakeNoZero"], named := ["unicode/utf8.first", "unicode/utf8.acceptRanges", "internal/bytealg.MaxLen"], apart := false, laid := [("unicode/utf8.acceptRanges", laid_unicode_utf8_acceptRanges), ("unicode/utf8.first", laid_unicode_utf8_first)], narrowed := true }
def RationalFieldUptoSaid : Prop := rationalFieldUptoRow.holds Tryz.pinned (OpenSpec.upto rationalFieldSpec)

/-- 'insolvencylaw2.RationalFloor', WHERE WHAT IT READS IS OF BULK AT MOST 1048576: true; the input reads as it did. -/
def rationalFloorUptoRow : OpenClaim := { program := "ythppojbabkljpaagreatdoor", sum := "3438b6c5bb6feae045e6704eae3b5284392204aba97453a677e60b2a1baf7667", func := "insolvency/insolvencylaw2.RationalFloor", spec := "rationalFloor", inPlace := ["internal/bytealg.IndexByteString", "internal/bytealg.IndexString", "internal/abi.NoEscape", "internal/bytealg.MakeNoZero", "internal/bytealg.abigen_runtime_cmpstring"], named := ["unicode/utf8.first", "unicode/utf8.acceptRanges", "internal/bytealg.MaxLen"], apart := false, laid := [("unicode/utf8.acceptRanges", laid_unicode_utf8_acceptRanges), ("unicode/utf8.first", laid_unicode_utf8_first)], narrowed := true }
def RationalFloorUptoSaid : Prop := rationalFloorUptoRow.holds Tryz.pinned (OpenSpec.upto rationalFloorSpec)

/-- 'insolvencylaw2.RationalTruncated', WHERE WHAT IT READS IS OF BULK AT MOST 1048576: true; the input reads as it did. -/
def rationalTruncatedUptoRow : OpenClaim := { program := "ythppojbabkljpaagreatdoor", sum := "3438b6c5bb6feae045e6704eae3b5284392204aba97453a677e60b2a1baf7667", func := "insolvency/insolvencylaw2.RationalTruncated", spec := "rationalTruncated", inPlace := ["internal/bytealg.IndexByteString", "internal/bytealg.IndexString", "internal/abi.NoEscape", "internal/bytealg.MakeNoZero", "internal/bytealg.abigen_runtime_cmpstring"], named := ["unicode/utf8.first", "unicode/utf8.acceptRanges", "internal/bytealg.MaxLen"], apart := false, laid := [("unicode/utf8.acceptRanges", laid_unicode_utf8_acceptRanges), ("unicode/utf8.first", laid_unicode_utf8_first)], narrowed := true }
def RationalTruncatedUptoSaid : Prop := rationalTruncatedUptoRow.holds Tryz.pinned (OpenSpec.upto rationalTruncatedSpec)

end Rows
end Go.Proofs.YthppojbabkljpaaGreatDoor
