/-
  DERIVED. GIVEN WITH THE SEED: THE CARDS: each row of YthppojbabkljpaaGreatDoorRows.lean that lists a variable, with what it lists TIED to the program's text (the seventh form; the later family's looks); each row that meets fmt, with fmt's text TOLD by the authors' own Lean function (tested against real Go, not proved from fmt's source: count such statements apart). THE CARD IS WHAT COUNTS. Prove the row's statement (the work); the ties are given (YthppojbabkljpaaGreatDoorTie.lean); close each card by the builder's one call (the guide's Derived/Test/ToyasCard.lean, 'card_holds'). Laid BY PROGRAM, IN A SANDBOX (cutbox-door.mjs). By AI agents, Wed Nov 11 2026. No macro, syntax, notation, axiom, sorry.
-/
import Derived.Test.YthppojbabkljpaaGreatDoorRows
import GoSem.ClaimSeven
namespace Go.Proofs.YthppojbabkljpaaGreatDoor
namespace Rows

/-- THE TIED CARD OF 'insolvencylaw2.RationalParse'. -/
def rationalParseCard : Claim7 := { stood := { row := rationalParseRow, standIns := [], harness := (true, "03b8fff5cf83c9bad4932de8bf2206da160dcbf6406213a7bfebbd68cc9f20fd"), looks := false }, kinds := [], alts := [], laidByText := true, laidKinds := [.data, .pinned], laidTests := true, laidLooks := .later }
def RationalParseCardSaid : Prop := Claim7.holds Tryz.pinned (.plain (OpenSpec.ofChange rationalParseSpec)) rationalParseCard

/-- THE TIED CARD OF 'insolvencylaw2.RationalFormat'. -/
def rationalFormatCard : Claim7 := { stood := { row := rationalFormatRow, standIns := [], harness := (true, "03b8fff5cf83c9bad4932de8bf2206da160dcbf6406213a7bfebbd68cc9f20fd"), looks := false }, kinds := [], alts := [], laidByText := true, laidKinds := [.data, .pinned], laidTests := true, laidLooks := .later }
def RationalFormatCardSaid : Prop := Claim7.holds Tryz.pinned (.plain (OpenSpec.ofChange rationalFormatSpec)) rationalFormatCard

/-- THE TIED CARD OF 'insolvencylaw2.RationalDecimal'. -/
def rationalDecimalCard : Claim7 := { stood := { row := rationalDecimalRow, standIns := [], harness := (true, "03b8fff5cf83c9bad4932de8bf2206da160dcbf6406213a7bfebbd68cc9f20fd"), looks := false }, kinds := [], alts := [], laidByText := true, laidKinds := [.data, .pinned], laidTests := true, laidLooks := .later }
def RationalDecimalCardSaid : Prop := Claim7.holds Tryz.pinned (.plain (OpenSpec.ofChange rationalDecimalSpec)) rationalDecimalCard

/-- THE TIED CARD OF 'insolvencylaw2.RationalFraction'. -/
def rationalFractionCard : Claim7 := { stood := { row := rationalFractionRow, standIns := [], harness := (true, "03b8fff5cf83c9bad4932de8bf2206da160dcbf6406213a7bfebbd68cc9f20fd"), looks := false }, kinds := [], alts := [], laidByText := true, laidKinds := [.data, .pinned], laidTests := true, laidLooks := .later }
def RationalFractionCardSaid : Prop := Claim7.holds Tryz.pinned (.plain (OpenSpec.ofChange rationalFractionSpec)) rationalFractionCard

/-- THE TIED CARD OF 'insolvencylaw2.RationalDivide'. -/
def rationalDivideCard : Claim7 := { stood := { row := rationalDivideRow, standIns := [], harness := (true, "03b8fff5cf83c9bad4932de8bf2206da160dcbf6406213a7bfebbd68cc9f20fd"), looks := false }, kinds := [], alts := [], laidByText := true, laidKinds := [.data, .pinned], laidTests := true, laidLooks := .later }
def RationalDivideCardSaid : Prop := Claim7.holds Tryz.pinned (.plain (OpenSpec.ofChange rationalDivideSpec)) rationalDivideCard

/-- THE TIED CARD OF 'insolvencylaw2.RationalInt64'. -/
def rationalInt64Card : Claim7 := { stood := { row := rationalInt64Row, standIns := [], harness := (true, "03b8fff5cf83c9bad4932de8bf2206da160dcbf6406213a7bfebbd68cc9f20fd"), looks := false }, kinds := [], alts := [], laidByText := true, laidKinds := [.data, .pinned], laidTests := true, laidLooks := .later }
def RationalInt64CardSaid : Prop := Claim7.holds Tryz.pinned (.plain (OpenSpec.ofChange rationalInt64Spec)) rationalInt64Card

/-- THE TIED CARD OF 'insolvencylaw2.RationalSum'. -/
def rationalSumCard : Claim7 := { stood := { row := rationalSumRow, standIns := [], harness := (true, "03b8fff5cf83c9bad4932de8bf2206da160dcbf6406213a7bfebbd68cc9f20fd"), looks := false }, kinds := [], alts := [], laidByText := true, laidKinds := [.data, .pinned], laidTests := true, laidLooks := .later }
def RationalSumCardSaid : Prop := Claim7.holds Tryz.pinned (.plain (OpenSpec.ofChange rationalSumSpec)) rationalSumCard

/-- THE TIED CARD OF 'insolvencylaw2.RationalArithmetic'. -/
def rationalArithmeticCard : Claim7 := { stood := { row := rationalArithmeticRow, standIns := [], harness := (true, "03b8fff5cf83c9bad4932de8bf2206da160dcbf6406213a7bfebbd68cc9f20fd"), looks := false }, kinds := [], alts := [], laidByText := true, laidKinds := [.data, .pinned], laidTests := true, laidLooks := .later }
def RationalArithmeticCardSaid : Prop := Claim7.holds Tryz.pinned (.plain (OpenSpec.ofChange rationalArithmeticSpec)) rationalArithmeticCard

/-- THE TIED CARD OF 'insolvencylaw2.RationalForms'. -/
def rationalFormsCard : Claim7 := { stood := { row := rationalFormsRow, standIns := [], harness := (true, "03b8fff5cf83c9bad4932de8bf2206da160dcbf6406213a7bfebbd68cc9f20fd"), looks := false }, kinds := [], alts := [], laidByText := true, laidKinds := [.data, .pinned], laidTests := true, laidLooks := .later }
def RationalFormsCardSaid : Prop := Claim7.holds Tryz.pinned (.plain (OpenSpec.ofChange rationalFormsSpec)) rationalFormsCard

/-- THE TIED CARD OF 'insolvencylaw2.RationalOrder'. -/
def rationalOrderCard : Claim7 := { stood := { row := rationalOrderRow, standIns := [], harness := (true, "03b8fff5cf83c9bad4932de8bf2206da160dcbf6406213a7bfebbd68cc9f20fd"), looks := false }, kinds := [], alts := [], laidByText := true, laidKinds := [.data, .pinned], laidTests := true, laidLooks := .later }
def RationalOrderCardSaid : Prop := Claim7.holds Tryz.pinned (.plain (OpenSpec.ofChange rationalOrderSpec)) rationalOrderCard

/-- THE TIED CARD OF 'insolvencylaw2.RationalField'. -/
def rationalFieldCard : Claim7 := { stood := { row := rationalFieldRow, standIns := [], harness := (true, "03b8fff5cf83c9bad4932de8bf2206da160dcbf6406213a7bfebbd68cc9f20fd"), looks := false }, kinds := [], alts := [], laidByText := true, laidKinds := [.data, .pinned], laidTests := true, laidLooks := .later }
def RationalFieldCardSaid : Prop := Claim7.holds Tryz.pinned (.plain (OpenSpec.ofChange rationalFieldSpec)) rationalFieldCard

/-- THE TIED CARD OF 'insolvencylaw2.RationalFloor'. -/
def rationalFloorCard : Claim7 := { stood := { row := rationalFloorRow, standIns := [], harness := (true, "03b8fff5cf83c9bad4932de8bf2206da160dcbf6406213a7bfebbd68cc9f20fd"), looks := false }, kinds := [], alts := [], laidByText := true, laidKinds := [.data, .pinned], laidTests := true, laidLooks := .later }
def RationalFloorCardSaid : Prop := Claim7.holds Tryz.pinned (.plain (OpenSpec.ofChange rationalFloorSpec)) rationalFloorCard

/-- THE TIED CARD OF 'insolvencylaw2.RationalTruncated'. -/
def rationalTruncatedCard : Claim7 := { stood := { row := rationalTruncatedRow, standIns := [], harness := (true, "03b8fff5cf83c9bad4932de8bf2206da160dcbf6406213a7bfebbd68cc9f20fd"), looks := false }, kinds := [], alts := [], laidByText := true, laidKinds := [.data, .pinned], laidTests := true, laidLooks := .later }
def RationalTruncatedCardSaid : Prop := Claim7.holds Tryz.pinned (.plain (OpenSpec.ofChange rationalTruncatedSpec)) rationalTruncatedCard

/-- THE SECOND FORM's CARD OF 'insolvencylaw2.RationalParse'. -/
def rationalParseUptoCard : Claim7 := { stood := { row := rationalParseUptoRow, standIns := [], harness := (true, "03b8fff5cf83c9bad4932de8bf2206da160dcbf6406213a7bfebbd68cc9f20fd"), looks := false }, kinds := [], alts := [], laidByText := true, laidKinds := [.data, .pinned], laidTests := true, laidLooks := .later }
def RationalParseUptoCardSaid : Prop := Claim7.holds Tryz.pinned (.plain (OpenSpec.upto rationalParseSpec)) rationalParseUptoCard

/-- THE SECOND FORM's CARD OF 'insolvencylaw2.RationalFormat'. -/
def rationalFormatUptoCard : Claim7 := { stood := { row := rationalFormatUptoRow, standIns := [], harness := (true, "03b8fff5cf83c9bad4932de8bf2206da160dcbf6406213a7bfebbd68cc9f20fd"), looks := false }, kinds := [], alts := [], laidByText := true, laidKinds := [.data, .pinned], laidTests := true, laidLooks := .later }
def RationalFormatUptoCardSaid : Prop := Claim7.holds Tryz.pinned (.plain (OpenSpec.upto rationalFormatSpec)) rationalFormatUptoCard

/-- THE SECOND FORM's CARD OF 'insolvencylaw2.RationalDecimal'. -/
def rationalDecimalUptoCard : Claim7 := { stood := { row := rationalDecimalUptoRow, standIns := [], harness := (true, "03b8fff5cf83c9bad4932de8bf2206da160dcbf6406213a7bfebbd68cc9f20fd"), looks := false }, kinds := [], alts := [], laidByText := true, laidKinds := [.data, .pinned], laidTests := true, laidLooks := .later }
def RationalDecimalUptoCardSaid : Prop := Claim7.holds Tryz.pinned (.plain (OpenSpec.upto rationalDecimalSpec)) rationalDecimalUptoCard

/-- THE SECOND FORM's CARD OF 'insolvencylaw2.RationalFraction'. -/
def rationalFractionUptoCard : Claim7 := { stood := { row := rationalFractionUptoRow, standIns := [], harness := (true, "03b8fff5cf83c9bad4932de8bf2206da160dcbf6406213a7bfebbd68cc9f20fd"), looks := false }, kinds := [], alts := [], laidByText := true, laidKinds := [.data, .pinned], laidTests := true, laidLooks := .later }
def RationalFractionUptoCardSaid : Prop := Claim7.holds Tryz.pinned (.plain (OpenSpec.upto rationalFractionSpec)) rationalFractionUptoCard

/-- THE SECOND FORM's CARD OF 'insolvencylaw2.RationalDivide'. -/
def rationalDivideUptoCard : Claim7 := { stood := { row := rationalDivideUptoRow, standIns := [], harness := (true, "03b8fff5cf83c9bad4932de8bf2206da160dcbf6406213a7bfebbd68cc9f20fd"), looks := false }, kinds := [], alts := [], laidByText := true, laidKinds := [.data, .pinned], laidTests := true, laidLooks := .later }
def RationalDivideUptoCardSaid : Prop := Claim7.holds Tryz.pinned (.plain (OpenSpec.upto rationalDivideSpec)) rationalDivideUptoCard

/-- THE SECOND FORM's CARD OF 'insolvencylaw2.RationalInt64'. -/
def rationalInt64UptoCard : Claim7 := { stood := { row := rationalInt64UptoRow, standIns := [], harness := (true, "03b8fff5cf83c9bad4932de8bf2206da160dcbf6406213a7bfebbd68cc9f20fd"), looks := false }, kinds := [], alts := [], laidByText := true, laidKinds := [.data, .pinned], laidTests := true, laidLooks := .later }
def RationalInt64UptoCardSaid : Prop := Claim7.holds Tryz.pinned (.plain (OpenSpec.upto rationalInt64Spec)) rationalInt64UptoCard

/-- THE SECOND FORM's CARD OF 'insolvencylaw2.RationalSum'. -/
def rationalSumUptoCard : Claim7 := { stood := { row := rationalSumUptoRow, standIns := [], harness := (true, "03b8fff5cf83c9bad4932de8bf2206da160dcbf6406213a7bfebbd68cc9f20fd"), looks := false }, kinds := [], alts := [], laidByText := true, laidKinds := [.data, .pinned], laidTests := true, laidLooks := .later }
def RationalSumUptoCardSaid : Prop := Claim7.holds Tryz.pinned (.plain (OpenSpec.upto rationalSumSpec)) rationalSumUptoCard

/-- THE SECOND FORM's CARD OF 'insolvencylaw2.RationalArithmetic'. -/
def rationalArithmeticUptoCard : Claim7 := { stood := { row := rationalArithmeticUptoRow, standIns := [], harness := (true, "03b8fff5cf83c9bad4932de8bf2206da160dcbf6406213a7bfebbd68cc9f20fd"), looks := false }, kinds := [], alts := [], laidByText := true, laidKinds := [.data, .pinned], laidTests := true, laidLooks := .later }
def RationalArithmeticUptoCardSaid : Prop := Claim7.holds Tryz.pinned (.plain (OpenSpec.upto rationalArithmeticSpec)) rationalArithmeticUptoCard

/-- THE SECOND FORM's CARD OF 'insolvencylaw2.RationalForms'. -/
def rationalFormsUptoCard : Claim7 := { stood := { row := rationalFormsUptoRow, standIns := [], harness := (true, "03b8fff5cf83c9bad4932de8bf2206da160dcbf6406213a7bfebbd68cc9f20fd"), looks := false }, kinds := [], alts := [], laidByText := true, laidKinds := [.data, .pinned], laidTests := true, laidLooks := .later }
def RationalFormsUptoCardSaid : Prop := Claim7.holds Tryz.pinned (.plain (OpenSpec.upto rationalFormsSpec)) rationalFormsUptoCard

/-- THE SECOND FORM's CARD OF 'insolvencylaw2.RationalOrder'. -/
def rationalOrderUptoCard : Claim7 := { stood := { row := rationalOrderUptoRow, standIns := [], harness := (true, "03b8fff5cf83c9bad4932de8bf2206da160dcbf6406213a7bfebbd68cc9f20fd"), looks := false }, kinds := [], alts := [], laidByText := true, laidKinds := [.data, .pinned], laidTests := true, laidLooks := .later }
def RationalOrderUptoCardSaid : Prop := Claim7.holds Tryz.pinned (.plain (OpenSpec.upto rationalOrderSpec)) rationalOrderUptoCard

/-- THE SECOND FORM's CARD OF 'insolvencylaw2.RationalField'. -/
def rationalFieldUptoCard : Claim7 := { stood := { row := rationalFieldUptoRow, standIns := [], harness := (true, "03b8fff5cf83c9bad4932de8bf2206da160dcbf6406213a7bfebbd68cc9f20fd"), looks := false }, kinds := [], alts := [], laidByText := true, laidKinds := [.data, .pinned], laidTests := true, laidLooks := .later }
def RationalFieldUptoCardSaid : Prop := Claim7.holds Tryz.pinned (.plain (OpenSpec.upto rationalFieldSpec)) rationalFieldUptoCard

/-- THE SECOND FORM's CARD OF 'insolvencylaw2.RationalFloor'. -/
def rationalFloorUptoCard : Claim7 := { stood := { row := rationalFloorUptoRow, standIns := [], harness := (true, "03b8fff5cf83c9bad4932de8bf2206da160dcbf6406213a7bfebbd68cc9f20fd"), looks := false }, kinds := [], alts := [], laidByText := true, laidKinds := [.data, .pinned], laidTests := true, laidLooks := .later }
def RationalFloorUptoCardSaid : Prop := Claim7.holds Tryz.pinned (.plain (OpenSpec.upto rationalFloorSpec)) rationalFloorUptoCard

/-- THE SECOND FORM's CARD OF 'insolvencylaw2.RationalTruncated'. -/
def rationalTruncatedUptoCard : Claim7 := { stood := { row := rationalTruncatedUptoRow, standIns := [], harness := (true, "03b8fff5cf83c9bad4932de8bf2206da160dcbf6406213a7bfebbd68cc9f20fd"), looks := false }, kinds := [], alts := [], laidByText := true, laidKinds := [.data, .pinned], laidTests := true, laidLooks := .later }
def RationalTruncatedUptoCardSaid : Prop := Claim7.holds Tryz.pinned (.plain (OpenSpec.upto rationalTruncatedSpec)) rationalTruncatedUptoCard
end Rows
end Go.Proofs.YthppojbabkljpaaGreatDoor
