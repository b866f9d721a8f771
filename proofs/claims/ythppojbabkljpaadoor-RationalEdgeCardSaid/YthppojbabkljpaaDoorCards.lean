/-
  DERIVED. GIVEN WITH THE SEED: THE CARDS: each row of YthppojbabkljpaaDoorRows.lean that lists a variable, with what it lists TIED to the program's text (the seventh form; the later family's looks); each row that meets fmt, with fmt's text TOLD by the authors' own Lean function (tested against real Go, not proved from fmt's source: count such statements apart). THE CARD IS WHAT COUNTS. Prove the row's statement (the work); the ties are given (YthppojbabkljpaaDoorTie.lean); close each card by the builder's one call (the guide's Derived/Test/ToyasCard.lean, 'card_holds'). Laid BY PROGRAM, IN A SANDBOX (cutbox-door.mjs). By AI agents, Wed Nov 11 2026. No macro, syntax, notation, axiom, sorry.
-/
import Derived.Test.YthppojbabkljpaaDoorRows
import GoSem.ClaimSeven
namespace Go.Proofs.YthppojbabkljpaaDoor
namespace Rows

/-- THE TIED CARD OF 'insolvencylaw2.RationalValid'. -/
def rationalValidCard : Claim7 := { stood := { row := rationalValidRow, standIns := [], harness := (true, "c26bc37795bbf797b7df6874a38b869608ac34631c703dfdd79da10ea6d7f91b"), looks := false }, kinds := [], alts := [], laidByText := true, laidKinds := [.data, .pinned], laidTests := true, laidLooks := .later }
def RationalValidCardSaid : Prop := Claim7.holds Tryd.pinned (.plain (OpenSpec.ofChange rationalValidSpec)) rationalValidCard

/-- THE TIED CARD OF 'insolvencylaw2.RationalMake'. -/
def rationalMakeCard : Claim7 := { stood := { row := rationalMakeRow, standIns := [], harness := (true, "c26bc37795bbf797b7df6874a38b869608ac34631c703dfdd79da10ea6d7f91b"), looks := false }, kinds := [], alts := [], laidByText := true, laidKinds := [.data, .pinned], laidTests := true, laidLooks := .later }
def RationalMakeCardSaid : Prop := Claim7.holds Tryd.pinned (.plain (OpenSpec.ofChange rationalMakeSpec)) rationalMakeCard

/-- THE TIED CARD OF 'insolvencylaw2.RationalEdge'. -/
def rationalEdgeCard : Claim7 := { stood := { row := rationalEdgeRow, standIns := [], harness := (true, "c26bc37795bbf797b7df6874a38b869608ac34631c703dfdd79da10ea6d7f91b"), looks := false }, kinds := [], alts := [], laidByText := true, laidKinds := [.data, .pinned], laidTests := true, laidLooks := .later }
def RationalEdgeCardSaid : Prop := Claim7.holds Tryd.pinned (.plain (OpenSpec.ofChange rationalEdgeSpec)) rationalEdgeCard

/-- THE TIED CARD OF 'insolvencylaw2.RationalMonotone'. -/
def rationalMonotoneCard : Claim7 := { stood := { row := rationalMonotoneRow, standIns := [], harness := (true, "c26bc37795bbf797b7df6874a38b869608ac34631c703dfdd79da10ea6d7f91b"), looks := false }, kinds := [], alts := [], laidByText := true, laidKinds := [.data, .pinned], laidTests := true, laidLooks := .later }
def RationalMonotoneCardSaid : Prop := Claim7.holds Tryd.pinned (.plain (OpenSpec.ofChange rationalMonotoneSpec)) rationalMonotoneCard

/-- THE SECOND FORM's CARD OF 'insolvencylaw2.RationalValid'. -/
def rationalValidUptoCard : Claim7 := { stood := { row := rationalValidUptoRow, standIns := [], harness := (true, "c26bc37795bbf797b7df6874a38b869608ac34631c703dfdd79da10ea6d7f91b"), looks := false }, kinds := [], alts := [], laidByText := true, laidKinds := [.data, .pinned], laidTests := true, laidLooks := .later }
def RationalValidUptoCardSaid : Prop := Claim7.holds Tryd.pinned (.plain (OpenSpec.upto rationalValidSpec)) rationalValidUptoCard

/-- THE SECOND FORM's CARD OF 'insolvencylaw2.RationalMake'. -/
def rationalMakeUptoCard : Claim7 := { stood := { row := rationalMakeUptoRow, standIns := [], harness := (true, "c26bc37795bbf797b7df6874a38b869608ac34631c703dfdd79da10ea6d7f91b"), looks := false }, kinds := [], alts := [], laidByText := true, laidKinds := [.data, .pinned], laidTests := true, laidLooks := .later }
def RationalMakeUptoCardSaid : Prop := Claim7.holds Tryd.pinned (.plain (OpenSpec.upto rationalMakeSpec)) rationalMakeUptoCard

/-- THE SECOND FORM's CARD OF 'insolvencylaw2.RationalEdge'. -/
def rationalEdgeUptoCard : Claim7 := { stood := { row := rationalEdgeUptoRow, standIns := [], harness := (true, "c26bc37795bbf797b7df6874a38b869608ac34631c703dfdd79da10ea6d7f91b"), looks := false }, kinds := [], alts := [], laidByText := true, laidKinds := [.data, .pinned], laidTests := true, laidLooks := .later }
def RationalEdgeUptoCardSaid : Prop := Claim7.holds Tryd.pinned (.plain (OpenSpec.upto rationalEdgeSpec)) rationalEdgeUptoCard

/-- THE SECOND FORM's CARD OF 'insolvencylaw2.RationalMonotone'. -/
def rationalMonotoneUptoCard : Claim7 := { stood := { row := rationalMonotoneUptoRow, standIns := [], harness := (true, "c26bc37795bbf797b7df6874a38b869608ac34631c703dfdd79da10ea6d7f91b"), looks := false }, kinds := [], alts := [], laidByText := true, laidKinds := [.data, .pinned], laidTests := true, laidLooks := .later }
def RationalMonotoneUptoCardSaid : Prop := Claim7.holds Tryd.pinned (.plain (OpenSpec.upto rationalMonotoneSpec)) rationalMonotoneUptoCard
end Rows
end Go.Proofs.YthppojbabkljpaaDoor
