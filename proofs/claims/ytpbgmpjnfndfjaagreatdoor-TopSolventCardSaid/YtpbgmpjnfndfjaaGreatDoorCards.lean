/-
  DERIVED. GIVEN WITH THE SEED: THE CARDS: each row of YtpbgmpjnfndfjaaGreatDoorRows.lean that lists a variable, with what it lists TIED to the program's text (the seventh form; the later family's looks); each row that meets fmt, with fmt's text TOLD by the authors' own Lean function (tested against real Go, not proved from fmt's source: count such statements apart). THE CARD IS WHAT COUNTS. Prove the row's statement (the work); the ties are given (YtpbgmpjnfndfjaaGreatDoorTie.lean); close each card by the builder's one call (the guide's Derived/Test/ToyasCard.lean, 'card_holds'). Laid BY PROGRAM, IN A SANDBOX (cutbox-door.mjs). By AI agents, Wed Nov 11 2026. No macro, syntax, notation, axiom, sorry.
-/
import Derived.Test.YtpbgmpjnfndfjaaGreatDoorRows
import GoSem.ClaimSeven
namespace Go.Proofs.YtpbgmpjnfndfjaaGreatDoor
namespace Rows

/-- THE TIED CARD OF 'insolvencytop.TopLate'. -/
def topLateCard : Claim7 := { stood := { row := topLateRow, standIns := [], harness := (true, "5df52ef57143eabbb3a1f2a220d156184446be9e8bf7df42af980753015cd4e3"), looks := false }, kinds := [], alts := [], laidByText := true, laidKinds := [.data, .pinned], laidTests := true, laidLooks := .later }
def TopLateCardSaid : Prop := Claim7.holds Tryz.pinned (.plain (OpenSpec.ofChange topLateSpec)) topLateCard

/-- THE TIED CARD OF 'insolvencytop.TopSolvent'. -/
def topSolventCard : Claim7 := { stood := { row := topSolventRow, standIns := [], harness := (true, "5df52ef57143eabbb3a1f2a220d156184446be9e8bf7df42af980753015cd4e3"), looks := false }, kinds := [], alts := [], laidByText := true, laidKinds := [.data, .pinned], laidTests := true, laidLooks := .later }
def TopSolventCardSaid : Prop := Claim7.holds Tryz.pinned (.plain (OpenSpec.ofChange topSolventSpec)) topSolventCard

/-- THE TIED CARD OF 'insolvencytop.TopAgreement'. -/
def topAgreementCard : Claim7 := { stood := { row := topAgreementRow, standIns := [], harness := (true, "5df52ef57143eabbb3a1f2a220d156184446be9e8bf7df42af980753015cd4e3"), looks := false }, kinds := [], alts := [], laidByText := true, laidKinds := [.data, .pinned], laidTests := true, laidLooks := .later }
def TopAgreementCardSaid : Prop := Claim7.holds Tryz.pinned (.plain (OpenSpec.ofChange topAgreementSpec)) topAgreementCard

/-- THE TIED CARD OF 'insolvencytop.TopRival'. -/
def topRivalCard : Claim7 := { stood := { row := topRivalRow, standIns := [], harness := (true, "5df52ef57143eabbb3a1f2a220d156184446be9e8bf7df42af980753015cd4e3"), looks := false }, kinds := [], alts := [], laidByText := true, laidKinds := [.data, .pinned], laidTests := true, laidLooks := .later }
def TopRivalCardSaid : Prop := Claim7.holds Tryz.pinned (.plain (OpenSpec.ofChange topRivalSpec)) topRivalCard

/-- THE SECOND FORM's CARD OF 'insolvencytop.TopLate'. -/
def topLateUptoCard : Claim7 := { stood := { row := topLateUptoRow, standIns := [], harness := (true, "5df52ef57143eabbb3a1f2a220d156184446be9e8bf7df42af980753015cd4e3"), looks := false }, kinds := [], alts := [], laidByText := true, laidKinds := [.data, .pinned], laidTests := true, laidLooks := .later }
def TopLateUptoCardSaid : Prop := Claim7.holds Tryz.pinned (.plain (OpenSpec.upto topLateSpec)) topLateUptoCard

/-- THE SECOND FORM's CARD OF 'insolvencytop.TopSolvent'. -/
def topSolventUptoCard : Claim7 := { stood := { row := topSolventUptoRow, standIns := [], harness := (true, "5df52ef57143eabbb3a1f2a220d156184446be9e8bf7df42af980753015cd4e3"), looks := false }, kinds := [], alts := [], laidByText := true, laidKinds := [.data, .pinned], laidTests := true, laidLooks := .later }
def TopSolventUptoCardSaid : Prop := Claim7.holds Tryz.pinned (.plain (OpenSpec.upto topSolventSpec)) topSolventUptoCard

/-- THE SECOND FORM's CARD OF 'insolvencytop.TopAgreement'. -/
def topAgreementUptoCard : Claim7 := { stood := { row := topAgreementUptoRow, standIns := [], harness := (true, "5df52ef57143eabbb3a1f2a220d156184446be9e8bf7df42af980753015cd4e3"), looks := false }, kinds := [], alts := [], laidByText := true, laidKinds := [.data, .pinned], laidTests := true, laidLooks := .later }
def TopAgreementUptoCardSaid : Prop := Claim7.holds Tryz.pinned (.plain (OpenSpec.upto topAgreementSpec)) topAgreementUptoCard

/-- THE SECOND FORM's CARD OF 'insolvencytop.TopRival'. -/
def topRivalUptoCard : Claim7 := { stood := { row := topRivalUptoRow, standIns := [], harness := (true, "5df52ef57143eabbb3a1f2a220d156184446be9e8bf7df42af980753015cd4e3"), looks := false }, kinds := [], alts := [], laidByText := true, laidKinds := [.data, .pinned], laidTests := true, laidLooks := .later }
def TopRivalUptoCardSaid : Prop := Claim7.holds Tryz.pinned (.plain (OpenSpec.upto topRivalSpec)) topRivalUptoCard
end Rows
end Go.Proofs.YtpbgmpjnfndfjaaGreatDoor
