/-
  DERIVED. GIVEN WITH THE SEED: THE CARDS: each row of YtghbhchkdomfhaaGreatDoorRows.lean that lists a variable, with what it lists TIED to the program's text (the seventh form; the later family's looks); each row that meets fmt, with fmt's text TOLD by the authors' own Lean function (tested against real Go, not proved from fmt's source: count such statements apart). THE CARD IS WHAT COUNTS. Prove the row's statement (the work); the ties are given (YtghbhchkdomfhaaGreatDoorTie.lean); close each card by the builder's one call (the guide's Derived/Test/ToyasCard.lean, 'card_holds'). Laid BY PROGRAM, IN A SANDBOX (cutbox-door.mjs). By AI agents, Wed Nov 11 2026. No macro, syntax, notation, axiom, sorry.
-/
import Derived.Test.YtghbhchkdomfhaaGreatDoorRows
import GoSem.ClaimSeven
namespace Go.Proofs.YtghbhchkdomfhaaGreatDoor
namespace Rows

/-- THE TIED CARD OF 'insolvencylaw9.ProofName'. -/
def proofNameCard : Claim7 := { stood := { row := proofNameRow, standIns := [], harness := (true, "11dd2bcc244481e68aed2b16c9ac3d32a301051c22da4a875b9e0c1725940b44"), looks := false }, kinds := [], alts := [], laidByText := true, laidKinds := [.data, .data, .data, .data, .pinned], laidTests := true, laidLooks := .later }
def ProofNameCardSaid : Prop := Claim7.holds Tryz.pinned (.plain (OpenSpec.ofChange proofNameSpec)) proofNameCard

/-- THE TIED CARD OF 'insolvencylaw9.ProofCheck'. -/
def proofCheckCard : Claim7 := { stood := { row := proofCheckRow, standIns := [], harness := (true, "11dd2bcc244481e68aed2b16c9ac3d32a301051c22da4a875b9e0c1725940b44"), looks := false }, kinds := [], alts := [], laidByText := true, laidKinds := [.data, .data, .data, .data, .pinned], laidTests := true, laidLooks := .later }
def ProofCheckCardSaid : Prop := Claim7.holds Tryz.pinned (.plain (OpenSpec.ofChange proofCheckSpec)) proofCheckCard

/-- THE TIED CARD OF 'insolvencylaw9.ProofParse'. -/
def proofParseCard : Claim7 := { stood := { row := proofParseRow, standIns := [], harness := (true, "11dd2bcc244481e68aed2b16c9ac3d32a301051c22da4a875b9e0c1725940b44"), looks := false }, kinds := [], alts := [], laidByText := true, laidKinds := [.data, .data, .data, .data, .pinned], laidTests := true, laidLooks := .later }
def ProofParseCardSaid : Prop := Claim7.holds Tryz.pinned (.plain (OpenSpec.ofChange proofParseSpec)) proofParseCard

/-- THE TIED CARD OF 'insolvencylaw9.ProofFormat'. -/
def proofFormatCard : Claim7 := { stood := { row := proofFormatRow, standIns := [], harness := (true, "11dd2bcc244481e68aed2b16c9ac3d32a301051c22da4a875b9e0c1725940b44"), looks := false }, kinds := [], alts := [], laidByText := true, laidKinds := [.data, .data, .data, .data, .pinned], laidTests := true, laidLooks := .later }
def ProofFormatCardSaid : Prop := Claim7.holds Tryz.pinned (.plain (OpenSpec.ofChange proofFormatSpec)) proofFormatCard

/-- THE TIED CARD OF 'insolvencylaw9.ProofBack'. -/
def proofBackCard : Claim7 := { stood := { row := proofBackRow, standIns := [], harness := (true, "11dd2bcc244481e68aed2b16c9ac3d32a301051c22da4a875b9e0c1725940b44"), looks := false }, kinds := [], alts := [], laidByText := true, laidKinds := [.data, .data, .data, .data, .pinned], laidTests := true, laidLooks := .later }
def ProofBackCardSaid : Prop := Claim7.holds Tryz.pinned (.plain (OpenSpec.ofChange proofBackSpec)) proofBackCard

/-- THE TIED CARD OF 'insolvencylaw9.ProofBroken'. -/
def proofBrokenCard : Claim7 := { stood := { row := proofBrokenRow, standIns := [], harness := (true, "11dd2bcc244481e68aed2b16c9ac3d32a301051c22da4a875b9e0c1725940b44"), looks := false }, kinds := [], alts := [], laidByText := true, laidKinds := [.data, .data, .data, .data, .pinned], laidTests := true, laidLooks := .later }
def ProofBrokenCardSaid : Prop := Claim7.holds Tryz.pinned (.plain (OpenSpec.ofChange proofBrokenSpec)) proofBrokenCard

/-- THE TIED CARD OF 'insolvencylaw9.ProofJoined'. -/
def proofJoinedCard : Claim7 := { stood := { row := proofJoinedRow, standIns := [], harness := (true, "11dd2bcc244481e68aed2b16c9ac3d32a301051c22da4a875b9e0c1725940b44"), looks := false }, kinds := [], alts := [], laidByText := true, laidKinds := [.data, .data, .data, .data, .pinned], laidTests := true, laidLooks := .later }
def ProofJoinedCardSaid : Prop := Claim7.holds Tryz.pinned (.plain (OpenSpec.ofChange proofJoinedSpec)) proofJoinedCard

/-- THE TIED CARD OF 'insolvencylaw9.ProofMany'. -/
def proofManyCard : Claim7 := { stood := { row := proofManyRow, standIns := [], harness := (true, "11dd2bcc244481e68aed2b16c9ac3d32a301051c22da4a875b9e0c1725940b44"), looks := false }, kinds := [], alts := [], laidByText := true, laidKinds := [.data, .data, .data, .data, .pinned], laidTests := true, laidLooks := .later }
def ProofManyCardSaid : Prop := Claim7.holds Tryz.pinned (.plain (OpenSpec.ofChange proofManySpec)) proofManyCard

/-- THE SECOND FORM's CARD OF 'insolvencylaw9.ProofName'. -/
def proofNameUptoCard : Claim7 := { stood := { row := proofNameUptoRow, standIns := [], harness := (true, "11dd2bcc244481e68aed2b16c9ac3d32a301051c22da4a875b9e0c1725940b44"), looks := false }, kinds := [], alts := [], laidByText := true, laidKinds := [.data, .data, .data, .data, .pinned], laidTests := true, laidLooks := .later }
def ProofNameUptoCardSaid : Prop := Claim7.holds Tryz.pinned (.plain (OpenSpec.upto proofNameSpec)) proofNameUptoCard

/-- THE SECOND FORM's CARD OF 'insolvencylaw9.ProofCheck'. -/
def proofCheckUptoCard : Claim7 := { stood := { row := proofCheckUptoRow, standIns := [], harness := (true, "11dd2bcc244481e68aed2b16c9ac3d32a301051c22da4a875b9e0c1725940b44"), looks := false }, kinds := [], alts := [], laidByText := true, laidKinds := [.data, .data, .data, .data, .pinned], laidTests := true, laidLooks := .later }
def ProofCheckUptoCardSaid : Prop := Claim7.holds Tryz.pinned (.plain (OpenSpec.upto proofCheckSpec)) proofCheckUptoCard

/-- THE SECOND FORM's CARD OF 'insolvencylaw9.ProofParse'. -/
def proofParseUptoCard : Claim7 := { stood := { row := proofParseUptoRow, standIns := [], harness := (true, "11dd2bcc244481e68aed2b16c9ac3d32a301051c22da4a875b9e0c1725940b44"), looks := false }, kinds := [], alts := [], laidByText := true, laidKinds := [.data, .data, .data, .data, .pinned], laidTests := true, laidLooks := .later }
def ProofParseUptoCardSaid : Prop := Claim7.holds Tryz.pinned (.plain (OpenSpec.upto proofParseSpec)) proofParseUptoCard

/-- THE SECOND FORM's CARD OF 'insolvencylaw9.ProofFormat'. -/
def proofFormatUptoCard : Claim7 := { stood := { row := proofFormatUptoRow, standIns := [], harness := (true, "11dd2bcc244481e68aed2b16c9ac3d32a301051c22da4a875b9e0c1725940b44"), looks := false }, kinds := [], alts := [], laidByText := true, laidKinds := [.data, .data, .data, .data, .pinned], laidTests := true, laidLooks := .later }
def ProofFormatUptoCardSaid : Prop := Claim7.holds Tryz.pinned (.plain (OpenSpec.upto proofFormatSpec)) proofFormatUptoCard

/-- THE SECOND FORM's CARD OF 'insolvencylaw9.ProofBack'. -/
def proofBackUptoCard : Claim7 := { stood := { row := proofBackUptoRow, standIns := [], harness := (true, "11dd2bcc244481e68aed2b16c9ac3d32a301051c22da4a875b9e0c1725940b44"), looks := false }, kinds := [], alts := [], laidByText := true, laidKinds := [.data, .data, .data, .data, .pinned], laidTests := true, laidLooks := .later }
def ProofBackUptoCardSaid : Prop := Claim7.holds Tryz.pinned (.plain (OpenSpec.upto proofBackSpec)) proofBackUptoCard

/-- THE SECOND FORM's CARD OF 'insolvencylaw9.ProofBroken'. -/
def proofBrokenUptoCard : Claim7 := { stood := { row := proofBrokenUptoRow, standIns := [], harness := (true, "11dd2bcc244481e68aed2b16c9ac3d32a301051c22da4a875b9e0c1725940b44"), looks := false }, kinds := [], alts := [], laidByText := true, laidKinds := [.data, .data, .data, .data, .pinned], laidTests := true, laidLooks := .later }
def ProofBrokenUptoCardSaid : Prop := Claim7.holds Tryz.pinned (.plain (OpenSpec.upto proofBrokenSpec)) proofBrokenUptoCard

/-- THE SECOND FORM's CARD OF 'insolvencylaw9.ProofJoined'. -/
def proofJoinedUptoCard : Claim7 := { stood := { row := proofJoinedUptoRow, standIns := [], harness := (true, "11dd2bcc244481e68aed2b16c9ac3d32a301051c22da4a875b9e0c1725940b44"), looks := false }, kinds := [], alts := [], laidByText := true, laidKinds := [.data, .data, .data, .data, .pinned], laidTests := true, laidLooks := .later }
def ProofJoinedUptoCardSaid : Prop := Claim7.holds Tryz.pinned (.plain (OpenSpec.upto proofJoinedSpec)) proofJoinedUptoCard

/-- THE SECOND FORM's CARD OF 'insolvencylaw9.ProofMany'. -/
def proofManyUptoCard : Claim7 := { stood := { row := proofManyUptoRow, standIns := [], harness := (true, "11dd2bcc244481e68aed2b16c9ac3d32a301051c22da4a875b9e0c1725940b44"), looks := false }, kinds := [], alts := [], laidByText := true, laidKinds := [.data, .data, .data, .data, .pinned], laidTests := true, laidLooks := .later }
def ProofManyUptoCardSaid : Prop := Claim7.holds Tryz.pinned (.plain (OpenSpec.upto proofManySpec)) proofManyUptoCard
end Rows
end Go.Proofs.YtghbhchkdomfhaaGreatDoor
