/-
  DERIVED. GIVEN WITH THE SEED: THE CARDS: each row of YtnbdckfnohagbaaGreatDoorRows.lean that lists a variable, with what it lists TIED to the program's text (the seventh form; the later family's looks); each row that meets fmt, with fmt's text TOLD by the authors' own Lean function (tested against real Go, not proved from fmt's source: count such statements apart). THE CARD IS WHAT COUNTS. Prove the row's statement (the work); the ties are given (YtnbdckfnohagbaaGreatDoorTie.lean); close each card by the builder's one call (the guide's Derived/Test/ToyasCard.lean, 'card_holds'). Laid BY PROGRAM, IN A SANDBOX (cutbox-door.mjs). By AI agents, Wed Nov 11 2026. No macro, syntax, notation, axiom, sorry.
-/
import Derived.Test.YtnbdckfnohagbaaGreatDoorRows
import GoSem.ClaimSeven
namespace Go.Proofs.YtnbdckfnohagbaaGreatDoor
namespace Rows

/-- THE TIED CARD OF 'insolvencylaw12.ParserParse'. -/
def parserParseCard : Claim7 := { stood := { row := parserParseRow, standIns := [], harness := (true, "8aa42a7ae2fe5587dfaf9afe9cce5fed5d1fd5105f32b60c740c9f88bed8a58f"), looks := false }, kinds := [], alts := [], laidByText := true, laidKinds := [.data, .pinned], laidTests := true, laidLooks := .later }
def ParserParseCardSaid : Prop := Claim7.holds Tryz.pinned (.plain (OpenSpec.ofChange parserParseSpec)) parserParseCard

/-- THE TIED CARD OF 'insolvencylaw12.ParserPieces'. -/
def parserPiecesCard : Claim7 := { stood := { row := parserPiecesRow, standIns := [], harness := (true, "8aa42a7ae2fe5587dfaf9afe9cce5fed5d1fd5105f32b60c740c9f88bed8a58f"), looks := false }, kinds := [], alts := [], laidByText := true, laidKinds := [.data, .pinned], laidTests := true, laidLooks := .later }
def ParserPiecesCardSaid : Prop := Claim7.holds Tryz.pinned (.plain (OpenSpec.ofChange parserPiecesSpec)) parserPiecesCard

/-- THE TIED CARD OF 'insolvencylaw12.ParserFormat'. -/
def parserFormatCard : Claim7 := { stood := { row := parserFormatRow, standIns := [], harness := (true, "8aa42a7ae2fe5587dfaf9afe9cce5fed5d1fd5105f32b60c740c9f88bed8a58f"), looks := false }, kinds := [], alts := [], laidByText := true, laidKinds := [.data, .pinned], laidTests := true, laidLooks := .later }
def ParserFormatCardSaid : Prop := Claim7.holds Tryz.pinned (.plain (OpenSpec.ofChange parserFormatSpec)) parserFormatCard

/-- THE TIED CARD OF 'insolvencylaw12.ParserBack'. -/
def parserBackCard : Claim7 := { stood := { row := parserBackRow, standIns := [], harness := (true, "8aa42a7ae2fe5587dfaf9afe9cce5fed5d1fd5105f32b60c740c9f88bed8a58f"), looks := false }, kinds := [], alts := [], laidByText := true, laidKinds := [.data, .pinned], laidTests := true, laidLooks := .later }
def ParserBackCardSaid : Prop := Claim7.holds Tryz.pinned (.plain (OpenSpec.ofChange parserBackSpec)) parserBackCard

/-- THE TIED CARD OF 'insolvencylaw12.ParserBroken'. -/
def parserBrokenCard : Claim7 := { stood := { row := parserBrokenRow, standIns := [], harness := (true, "8aa42a7ae2fe5587dfaf9afe9cce5fed5d1fd5105f32b60c740c9f88bed8a58f"), looks := false }, kinds := [], alts := [], laidByText := true, laidKinds := [.data, .pinned], laidTests := true, laidLooks := .later }
def ParserBrokenCardSaid : Prop := Claim7.holds Tryz.pinned (.plain (OpenSpec.ofChange parserBrokenSpec)) parserBrokenCard

/-- THE TIED CARD OF 'insolvencylaw12.ParserMany'. -/
def parserManyCard : Claim7 := { stood := { row := parserManyRow, standIns := [], harness := (true, "8aa42a7ae2fe5587dfaf9afe9cce5fed5d1fd5105f32b60c740c9f88bed8a58f"), looks := false }, kinds := [], alts := [], laidByText := true, laidKinds := [.data, .pinned], laidTests := true, laidLooks := .later }
def ParserManyCardSaid : Prop := Claim7.holds Tryz.pinned (.plain (OpenSpec.ofChange parserManySpec)) parserManyCard

/-- THE SECOND FORM's CARD OF 'insolvencylaw12.ParserParse'. -/
def parserParseUptoCard : Claim7 := { stood := { row := parserParseUptoRow, standIns := [], harness := (true, "8aa42a7ae2fe5587dfaf9afe9cce5fed5d1fd5105f32b60c740c9f88bed8a58f"), looks := false }, kinds := [], alts := [], laidByText := true, laidKinds := [.data, .pinned], laidTests := true, laidLooks := .later }
def ParserParseUptoCardSaid : Prop := Claim7.holds Tryz.pinned (.plain (OpenSpec.upto parserParseSpec)) parserParseUptoCard

/-- THE SECOND FORM's CARD OF 'insolvencylaw12.ParserPieces'. -/
def parserPiecesUptoCard : Claim7 := { stood := { row := parserPiecesUptoRow, standIns := [], harness := (true, "8aa42a7ae2fe5587dfaf9afe9cce5fed5d1fd5105f32b60c740c9f88bed8a58f"), looks := false }, kinds := [], alts := [], laidByText := true, laidKinds := [.data, .pinned], laidTests := true, laidLooks := .later }
def ParserPiecesUptoCardSaid : Prop := Claim7.holds Tryz.pinned (.plain (OpenSpec.upto parserPiecesSpec)) parserPiecesUptoCard

/-- THE SECOND FORM's CARD OF 'insolvencylaw12.ParserFormat'. -/
def parserFormatUptoCard : Claim7 := { stood := { row := parserFormatUptoRow, standIns := [], harness := (true, "8aa42a7ae2fe5587dfaf9afe9cce5fed5d1fd5105f32b60c740c9f88bed8a58f"), looks := false }, kinds := [], alts := [], laidByText := true, laidKinds := [.data, .pinned], laidTests := true, laidLooks := .later }
def ParserFormatUptoCardSaid : Prop := Claim7.holds Tryz.pinned (.plain (OpenSpec.upto parserFormatSpec)) parserFormatUptoCard

/-- THE SECOND FORM's CARD OF 'insolvencylaw12.ParserBack'. -/
def parserBackUptoCard : Claim7 := { stood := { row := parserBackUptoRow, standIns := [], harness := (true, "8aa42a7ae2fe5587dfaf9afe9cce5fed5d1fd5105f32b60c740c9f88bed8a58f"), looks := false }, kinds := [], alts := [], laidByText := true, laidKinds := [.data, .pinned], laidTests := true, laidLooks := .later }
def ParserBackUptoCardSaid : Prop := Claim7.holds Tryz.pinned (.plain (OpenSpec.upto parserBackSpec)) parserBackUptoCard

/-- THE SECOND FORM's CARD OF 'insolvencylaw12.ParserBroken'. -/
def parserBrokenUptoCard : Claim7 := { stood := { row := parserBrokenUptoRow, standIns := [], harness := (true, "8aa42a7ae2fe5587dfaf9afe9cce5fed5d1fd5105f32b60c740c9f88bed8a58f"), looks := false }, kinds := [], alts := [], laidByText := true, laidKinds := [.data, .pinned], laidTests := true, laidLooks := .later }
def ParserBrokenUptoCardSaid : Prop := Claim7.holds Tryz.pinned (.plain (OpenSpec.upto parserBrokenSpec)) parserBrokenUptoCard

/-- THE SECOND FORM's CARD OF 'insolvencylaw12.ParserMany'. -/
def parserManyUptoCard : Claim7 := { stood := { row := parserManyUptoRow, standIns := [], harness := (true, "8aa42a7ae2fe5587dfaf9afe9cce5fed5d1fd5105f32b60c740c9f88bed8a58f"), looks := false }, kinds := [], alts := [], laidByText := true, laidKinds := [.data, .pinned], laidTests := true, laidLooks := .later }
def ParserManyUptoCardSaid : Prop := Claim7.holds Tryz.pinned (.plain (OpenSpec.upto parserManySpec)) parserManyUptoCard
end Rows
end Go.Proofs.YtnbdckfnohagbaaGreatDoor
