/-
  DERIVED. GIVEN WITH THE SEED: THE CARDS: each row of YtkllpfijeglppaaDoorRows.lean that lists a variable, with what it lists TIED to the program's text (the seventh form; the later family's looks); each row that meets fmt, with fmt's text TOLD by the authors' own Lean function (tested against real Go, not proved from fmt's source: count such statements apart). THE CARD IS WHAT COUNTS. Prove the row's statement (the work); the ties are given (YtkllpfijeglppaaDoorTie.lean); close each card by the builder's one call (the guide's Derived/Test/ToyasCard.lean, 'card_holds'). Laid BY PROGRAM, IN A SANDBOX (cutbox-door.mjs). By AI agents, Wed Nov 11 2026. No macro, syntax, notation, axiom, sorry.
-/
import Derived.Test.YtkllpfijeglppaaDoorRows
import GoSem.ClaimSeven
namespace Go.Proofs.YtkllpfijeglppaaDoor
namespace Rows

/-- THE TIED CARD OF 'insolvencylaw25.HistoryFormat'. -/
def historyFormatCard : Claim7 := { stood := { row := historyFormatRow, standIns := [], harness := (true, "c8acea5fac153a5b24cf0d3d00db8f10af8a3d3d81bb7c5ae8f3a875e8bc9284"), looks := false }, kinds := [], alts := [], laidByText := true, laidKinds := [.data, .data, .data, .data, .pinned], laidTests := true, laidLooks := .later }
def HistoryFormatCardSaid : Prop := Claim7.holds Tryd.pinned (.plain (OpenSpec.ofChange historyFormatSpec)) historyFormatCard

/-- THE TIED CARD OF 'insolvencylaw25.HistoryParse'. -/
def historyParseCard : Claim7 := { stood := { row := historyParseRow, standIns := [], harness := (true, "c8acea5fac153a5b24cf0d3d00db8f10af8a3d3d81bb7c5ae8f3a875e8bc9284"), looks := false }, kinds := [], alts := [], laidByText := true, laidKinds := [.data, .data, .data, .data, .pinned], laidTests := true, laidLooks := .later }
def HistoryParseCardSaid : Prop := Claim7.holds Tryd.pinned (.plain (OpenSpec.ofChange historyParseSpec)) historyParseCard

/-- THE TIED CARD OF 'insolvencylaw25.HistoryLong'. -/
def historyLongCard : Claim7 := { stood := { row := historyLongRow, standIns := [], harness := (true, "c8acea5fac153a5b24cf0d3d00db8f10af8a3d3d81bb7c5ae8f3a875e8bc9284"), looks := false }, kinds := [], alts := [], laidByText := true, laidKinds := [.data, .data, .data, .data, .pinned], laidTests := true, laidLooks := .later }
def HistoryLongCardSaid : Prop := Claim7.holds Tryd.pinned (.plain (OpenSpec.ofChange historyLongSpec)) historyLongCard

/-- THE TIED CARD OF 'insolvencylaw25.HistoryText'. -/
def historyTextCard : Claim7 := { stood := { row := historyTextRow, standIns := [], harness := (true, "c8acea5fac153a5b24cf0d3d00db8f10af8a3d3d81bb7c5ae8f3a875e8bc9284"), looks := false }, kinds := [], alts := [], laidByText := true, laidKinds := [.data, .data, .data, .data, .pinned], laidTests := true, laidLooks := .later }
def HistoryTextCardSaid : Prop := Claim7.holds Tryd.pinned (.plain (OpenSpec.ofChange historyTextSpec)) historyTextCard

/-- THE TIED CARD OF 'insolvencylaw25.HistoryMoney'. -/
def historyMoneyCard : Claim7 := { stood := { row := historyMoneyRow, standIns := [], harness := (true, "c8acea5fac153a5b24cf0d3d00db8f10af8a3d3d81bb7c5ae8f3a875e8bc9284"), looks := false }, kinds := [], alts := [], laidByText := true, laidKinds := [.data, .data, .data, .data, .pinned], laidTests := true, laidLooks := .later }
def HistoryMoneyCardSaid : Prop := Claim7.holds Tryd.pinned (.plain (OpenSpec.ofChange historyMoneySpec)) historyMoneyCard

/-- THE TIED CARD OF 'insolvencylaw25.HistoryBalance'. -/
def historyBalanceCard : Claim7 := { stood := { row := historyBalanceRow, standIns := [], harness := (true, "c8acea5fac153a5b24cf0d3d00db8f10af8a3d3d81bb7c5ae8f3a875e8bc9284"), looks := false }, kinds := [], alts := [], laidByText := true, laidKinds := [.data, .data, .data, .data, .pinned], laidTests := true, laidLooks := .later }
def HistoryBalanceCardSaid : Prop := Claim7.holds Tryd.pinned (.plain (OpenSpec.ofChange historyBalanceSpec)) historyBalanceCard

/-- THE TIED CARD OF 'insolvencylaw25.HistoryLowest'. -/
def historyLowestCard : Claim7 := { stood := { row := historyLowestRow, standIns := [], harness := (true, "c8acea5fac153a5b24cf0d3d00db8f10af8a3d3d81bb7c5ae8f3a875e8bc9284"), looks := false }, kinds := [], alts := [], laidByText := true, laidKinds := [.data, .data, .data, .data, .pinned], laidTests := true, laidLooks := .later }
def HistoryLowestCardSaid : Prop := Claim7.holds Tryd.pinned (.plain (OpenSpec.ofChange historyLowestSpec)) historyLowestCard

/-- THE TIED CARD OF 'insolvencylaw25.HistoryCheck'. -/
def historyCheckCard : Claim7 := { stood := { row := historyCheckRow, standIns := [], harness := (true, "c8acea5fac153a5b24cf0d3d00db8f10af8a3d3d81bb7c5ae8f3a875e8bc9284"), looks := false }, kinds := [], alts := [], laidByText := true, laidKinds := [.data, .data, .data, .data, .pinned], laidTests := true, laidLooks := .later }
def HistoryCheckCardSaid : Prop := Claim7.holds Tryd.pinned (.plain (OpenSpec.ofChange historyCheckSpec)) historyCheckCard

/-- THE TIED CARD OF 'insolvencylaw25.HistoryMatch'. -/
def historyMatchCard : Claim7 := { stood := { row := historyMatchRow, standIns := [], harness := (true, "c8acea5fac153a5b24cf0d3d00db8f10af8a3d3d81bb7c5ae8f3a875e8bc9284"), looks := false }, kinds := [], alts := [], laidByText := true, laidKinds := [.data, .data, .data, .data, .pinned], laidTests := true, laidLooks := .later }
def HistoryMatchCardSaid : Prop := Claim7.holds Tryd.pinned (.plain (OpenSpec.ofChange historyMatchSpec)) historyMatchCard

/-- THE TIED CARD OF 'insolvencylaw25.HistoryMost'. -/
def historyMostCard : Claim7 := { stood := { row := historyMostRow, standIns := [], harness := (true, "c8acea5fac153a5b24cf0d3d00db8f10af8a3d3d81bb7c5ae8f3a875e8bc9284"), looks := false }, kinds := [], alts := [], laidByText := true, laidKinds := [.data, .data, .data, .data, .pinned], laidTests := true, laidLooks := .later }
def HistoryMostCardSaid : Prop := Claim7.holds Tryd.pinned (.plain (OpenSpec.ofChange historyMostSpec)) historyMostCard

/-- THE SECOND FORM's CARD OF 'insolvencylaw25.HistoryFormat'. -/
def historyFormatUptoCard : Claim7 := { stood := { row := historyFormatUptoRow, standIns := [], harness := (true, "c8acea5fac153a5b24cf0d3d00db8f10af8a3d3d81bb7c5ae8f3a875e8bc9284"), looks := false }, kinds := [], alts := [], laidByText := true, laidKinds := [.data, .data, .data, .data, .pinned], laidTests := true, laidLooks := .later }
def HistoryFormatUptoCardSaid : Prop := Claim7.holds Tryd.pinned (.plain (OpenSpec.upto historyFormatSpec)) historyFormatUptoCard

/-- THE SECOND FORM's CARD OF 'insolvencylaw25.HistoryParse'. -/
def historyParseUptoCard : Claim7 := { stood := { row := historyParseUptoRow, standIns := [], harness := (true, "c8acea5fac153a5b24cf0d3d00db8f10af8a3d3d81bb7c5ae8f3a875e8bc9284"), looks := false }, kinds := [], alts := [], laidByText := true, laidKinds := [.data, .data, .data, .data, .pinned], laidTests := true, laidLooks := .later }
def HistoryParseUptoCardSaid : Prop := Claim7.holds Tryd.pinned (.plain (OpenSpec.upto historyParseSpec)) historyParseUptoCard

/-- THE SECOND FORM's CARD OF 'insolvencylaw25.HistoryLong'. -/
def historyLongUptoCard : Claim7 := { stood := { row := historyLongUptoRow, standIns := [], harness := (true, "c8acea5fac153a5b24cf0d3d00db8f10af8a3d3d81bb7c5ae8f3a875e8bc9284"), looks := false }, kinds := [], alts := [], laidByText := true, laidKinds := [.data, .data, .data, .data, .pinned], laidTests := true, laidLooks := .later }
def HistoryLongUptoCardSaid : Prop := Claim7.holds Tryd.pinned (.plain (OpenSpec.upto historyLongSpec)) historyLongUptoCard

/-- THE SECOND FORM's CARD OF 'insolvencylaw25.HistoryText'. -/
def historyTextUptoCard : Claim7 := { stood := { row := historyTextUptoRow, standIns := [], harness := (true, "c8acea5fac153a5b24cf0d3d00db8f10af8a3d3d81bb7c5ae8f3a875e8bc9284"), looks := false }, kinds := [], alts := [], laidByText := true, laidKinds := [.data, .data, .data, .data, .pinned], laidTests := true, laidLooks := .later }
def HistoryTextUptoCardSaid : Prop := Claim7.holds Tryd.pinned (.plain (OpenSpec.upto historyTextSpec)) historyTextUptoCard

/-- THE SECOND FORM's CARD OF 'insolvencylaw25.HistoryMoney'. -/
def historyMoneyUptoCard : Claim7 := { stood := { row := historyMoneyUptoRow, standIns := [], harness := (true, "c8acea5fac153a5b24cf0d3d00db8f10af8a3d3d81bb7c5ae8f3a875e8bc9284"), looks := false }, kinds := [], alts := [], laidByText := true, laidKinds := [.data, .data, .data, .data, .pinned], laidTests := true, laidLooks := .later }
def HistoryMoneyUptoCardSaid : Prop := Claim7.holds Tryd.pinned (.plain (OpenSpec.upto historyMoneySpec)) historyMoneyUptoCard

/-- THE SECOND FORM's CARD OF 'insolvencylaw25.HistoryBalance'. -/
def historyBalanceUptoCard : Claim7 := { stood := { row := historyBalanceUptoRow, standIns := [], harness := (true, "c8acea5fac153a5b24cf0d3d00db8f10af8a3d3d81bb7c5ae8f3a875e8bc9284"), looks := false }, kinds := [], alts := [], laidByText := true, laidKinds := [.data, .data, .data, .data, .pinned], laidTests := true, laidLooks := .later }
def HistoryBalanceUptoCardSaid : Prop := Claim7.holds Tryd.pinned (.plain (OpenSpec.upto historyBalanceSpec)) historyBalanceUptoCard

/-- THE SECOND FORM's CARD OF 'insolvencylaw25.HistoryLowest'. -/
def historyLowestUptoCard : Claim7 := { stood := { row := historyLowestUptoRow, standIns := [], harness := (true, "c8acea5fac153a5b24cf0d3d00db8f10af8a3d3d81bb7c5ae8f3a875e8bc9284"), looks := false }, kinds := [], alts := [], laidByText := true, laidKinds := [.data, .data, .data, .data, .pinned], laidTests := true, laidLooks := .later }
def HistoryLowestUptoCardSaid : Prop := Claim7.holds Tryd.pinned (.plain (OpenSpec.upto historyLowestSpec)) historyLowestUptoCard

/-- THE SECOND FORM's CARD OF 'insolvencylaw25.HistoryCheck'. -/
def historyCheckUptoCard : Claim7 := { stood := { row := historyCheckUptoRow, standIns := [], harness := (true, "c8acea5fac153a5b24cf0d3d00db8f10af8a3d3d81bb7c5ae8f3a875e8bc9284"), looks := false }, kinds := [], alts := [], laidByText := true, laidKinds := [.data, .data, .data, .data, .pinned], laidTests := true, laidLooks := .later }
def HistoryCheckUptoCardSaid : Prop := Claim7.holds Tryd.pinned (.plain (OpenSpec.upto historyCheckSpec)) historyCheckUptoCard

/-- THE SECOND FORM's CARD OF 'insolvencylaw25.HistoryMatch'. -/
def historyMatchUptoCard : Claim7 := { stood := { row := historyMatchUptoRow, standIns := [], harness := (true, "c8acea5fac153a5b24cf0d3d00db8f10af8a3d3d81bb7c5ae8f3a875e8bc9284"), looks := false }, kinds := [], alts := [], laidByText := true, laidKinds := [.data, .data, .data, .data, .pinned], laidTests := true, laidLooks := .later }
def HistoryMatchUptoCardSaid : Prop := Claim7.holds Tryd.pinned (.plain (OpenSpec.upto historyMatchSpec)) historyMatchUptoCard

/-- THE SECOND FORM's CARD OF 'insolvencylaw25.HistoryMost'. -/
def historyMostUptoCard : Claim7 := { stood := { row := historyMostUptoRow, standIns := [], harness := (true, "c8acea5fac153a5b24cf0d3d00db8f10af8a3d3d81bb7c5ae8f3a875e8bc9284"), looks := false }, kinds := [], alts := [], laidByText := true, laidKinds := [.data, .data, .data, .data, .pinned], laidTests := true, laidLooks := .later }
def HistoryMostUptoCardSaid : Prop := Claim7.holds Tryd.pinned (.plain (OpenSpec.upto historyMostSpec)) historyMostUptoCard
end Rows
end Go.Proofs.YtkllpfijeglppaaDoor
