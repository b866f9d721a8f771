/-
  No cell of these rows narrows 'for every input' (looked for: loops, veiled, ifaces, maps, wideKeys, modest, calm, conditions, laid).
  DERIVED. THE GIVEN ROWS OF THIS SEAT. 6 by the template 'for every input the law returns true; each argument reads behind the call as it read before'; 0 by the template 'total and deterministic' (their statements: YthcimodihgcjaaaTotals.lean).
  GIVEN WITH THE SEED: the statements are not yours to turn. If you find one false, say at which input.
  Laid BY PROGRAM, IN A SANDBOX (cutbox-rows.mjs): the forced cells as the released guide's own fill.sh prints them over the translation a72aed6e4517437d… (all of the seat's roots in one cut). By AI agents, Wed Nov 11 2026. No macro, syntax, notation, axiom, sorry.
-/
import Derived.Test.YthcimodihgcjaaaChecked
import GoSem.Claim
import GoSem.ClaimJoined
import GoSem.ClaimMapViews
import Derived.JoinedTies
import Derived.KernelRfl
namespace Go.Proofs.Ythcimodihgcjaaa
/- THE CELL 'sum', in the pinned program and in every row, IS THE sha256 OF THE DUMP (.gsa) THAT YthcimodihgcjaaaProg.lean LOADS. Nothing in Lean hashes anything: it is a label: what it is worth is what the hold of that sum in a sandbox is worth. -/
noncomputable def Try.pinned : Pinned := { name := "ythcimodihgcjaaa", sum := "a72aed6e4517437d6ed00eda8e1c93083a563c4ed8ae721574c0352f45648023", checked := Try.checked }
namespace Rows
def none {H : Type} : Left H := { results := [], args := [] }

/-- 'insolvencylaw11.LexerReserved': WHATEVER THE INPUT: true; the input reads as it did. -/
def lexerReservedSpec : ChangeSpec := { name := "lexerReserved", fn := fun _ => fun
  | [d] => { results := [.lit (.bool true)], args := [d] }
  | _ => none }
def lexerReservedRow : OpenClaim := { program := "ythcimodihgcjaaa", sum := "a72aed6e4517437d6ed00eda8e1c93083a563c4ed8ae721574c0352f45648023", func := "insolvency/insolvencylaw11.LexerReserved", spec := "lexerReserved", inPlace := ["internal/bytealg.IndexByteString", "internal/bytealg.IndexString"], unfollowed := true, recurses := true, named := ["internal/bytealg.MaxLen"], apart := false }
def LexerReservedSaid : Prop := lexerReservedRow.holds Try.pinned (OpenSpec.ofChange lexerReservedSpec)

/-- ITS FALSE NEIGHBOUR: 'it returns false'. Refute it at one input. -/
def lexerReservedWrong : ChangeSpec := { name := "lexerReserved", fn := fun _ => fun
  | [d] => { results := [.lit (.bool false)], args := [d] }
  | _ => none }
def LexerReservedWrongFalsely : Prop := lexerReservedRow.holds Try.pinned (OpenSpec.ofChange lexerReservedWrong)

/-- 'insolvencylaw11.LexerSplit': WHATEVER THE INPUT: true; the input reads as it did. -/
def lexerSplitSpec : ChangeSpec := { name := "lexerSplit", fn := fun _ => fun
  | [d] => { results := [.lit (.bool true)], args := [d] }
  | _ => none }
def lexerSplitRow : OpenClaim := { program := "ythcimodihgcjaaa", sum := "a72aed6e4517437d6ed00eda8e1c93083a563c4ed8ae721574c0352f45648023", func := "insolvency/insolvencylaw11.LexerSplit", spec := "lexerSplit", inPlace := ["internal/bytealg.IndexByteString", "internal/bytealg.IndexString"], unfollowed := true, recurses := true, named := ["internal/bytealg.MaxLen"], apart := false }
def LexerSplitSaid : Prop := lexerSplitRow.holds Try.pinned (OpenSpec.ofChange lexerSplitSpec)

/-- ITS FALSE NEIGHBOUR: 'it returns false'. Refute it at one input. -/
def lexerSplitWrong : ChangeSpec := { name := "lexerSplit", fn := fun _ => fun
  | [d] => { results := [.lit (.bool false)], args := [d] }
  | _ => none }
def LexerSplitWrongFalsely : Prop := lexerSplitRow.holds Try.pinned (OpenSpec.ofChange lexerSplitWrong)

/-- 'insolvencylaw11.LexerPieces': WHATEVER THE INPUT: true; the input reads as it did. -/
def lexerPiecesSpec : ChangeSpec := { name := "lexerPieces", fn := fun _ => fun
  | [d] => { results := [.lit (.bool true)], args := [d] }
  | _ => none }
def lexerPiecesRow : OpenClaim := { program := "ythcimodihgcjaaa", sum := "a72aed6e4517437d6ed00eda8e1c93083a563c4ed8ae721574c0352f45648023", func := "insolvency/insolvencylaw11.LexerPieces", spec := "lexerPieces", inPlace := ["internal/bytealg.IndexByteString", "internal/bytealg.IndexString"], unfollowed := true, recurses := true, named := ["internal/bytealg.MaxLen"], apart := false }
def LexerPiecesSaid : Prop := lexerPiecesRow.holds Try.pinned (OpenSpec.ofChange lexerPiecesSpec)

/-- ITS FALSE NEIGHBOUR: 'it returns false'. Refute it at one input. -/
def lexerPiecesWrong : ChangeSpec := { name := "lexerPieces", fn := fun _ => fun
  | [d] => { results := [.lit (.bool false)], args := [d] }
  | _ => none }
def LexerPiecesWrongFalsely : Prop := lexerPiecesRow.holds Try.pinned (OpenSpec.ofChange lexerPiecesWrong)

/-- 'insolvencylaw11.LexerAgain': WHATEVER THE INPUT: true; the input reads as it did. -/
def lexerAgainSpec : ChangeSpec := { name := "lexerAgain", fn := fun _ => fun
  | [d] => { results := [.lit (.bool true)], args := [d] }
  | _ => none }
def lexerAgainRow : OpenClaim := { program := "ythcimodihgcjaaa", sum := "a72aed6e4517437d6ed00eda8e1c93083a563c4ed8ae721574c0352f45648023", func := "insolvency/insolvencylaw11.LexerAgain", spec := "lexerAgain", inPlace := ["internal/bytealg.IndexByteString", "internal/bytealg.IndexString"], unfollowed := true, recurses := true, named := ["internal/bytealg.MaxLen"], apart := false }
def LexerAgainSaid : Prop := lexerAgainRow.holds Try.pinned (OpenSpec.ofChange lexerAgainSpec)

/-- ITS FALSE NEIGHBOUR: 'it returns false'. Refute it at one input. -/
def lexerAgainWrong : ChangeSpec := { name := "lexerAgain", fn := fun _ => fun
  | [d] => { results := [.lit (.bool false)], args := [d] }
  | _ => none }
def LexerAgainWrongFalsely : Prop := lexerAgainRow.holds Try.pinned (OpenSpec.ofChange lexerAgainWrong)

/-- 'insolvencylaw11.LexerCover': WHATEVER THE INPUT: true; the input reads as it did. -/
def lexerCoverSpec : ChangeSpec := { name := "lexerCover", fn := fun _ => fun
  | [d] => { results := [.lit (.bool true)], args := [d] }
  | _ => none }
def lexerCoverRow : OpenClaim := { program := "ythcimodihgcjaaa", sum := "a72aed6e4517437d6ed00eda8e1c93083a563c4ed8ae721574c0352f45648023", func := "insolvency/insolvencylaw11.LexerCover", spec := "lexerCover", inPlace := ["internal/bytealg.IndexByteString", "internal/bytealg.IndexString"], unfollowed := true, recurses := true, named := ["internal/bytealg.MaxLen"], apart := false }
def LexerCoverSaid : Prop := lexerCoverRow.holds Try.pinned (OpenSpec.ofChange lexerCoverSpec)

/-- ITS FALSE NEIGHBOUR: 'it returns false'. Refute it at one input. -/
def lexerCoverWrong : ChangeSpec := { name := "lexerCover", fn := fun _ => fun
  | [d] => { results := [.lit (.bool false)], args := [d] }
  | _ => none }
def LexerCoverWrongFalsely : Prop := lexerCoverRow.holds Try.pinned (OpenSpec.ofChange lexerCoverWrong)

/-- 'insolvencylaw11.LexerMany': WHATEVER THE INPUT: true; the input reads as it did. -/
def lexerManySpec : ChangeSpec := { name := "lexerMany", fn := fun _ => fun
  | [d1, d2] => { results := [.lit (.bool true)], args := [d1, d2] }
  | _ => none }
def lexerManyRow : OpenClaim := { program := "ythcimodihgcjaaa", sum := "a72aed6e4517437d6ed00eda8e1c93083a563c4ed8ae721574c0352f45648023", func := "insolvency/insolvencylaw11.LexerMany", spec := "lexerMany", inPlace := ["internal/bytealg.IndexByteString", "internal/bytealg.IndexString"], unfollowed := true, recurses := true, named := ["internal/bytealg.MaxLen"], apart := false }
def LexerManySaid : Prop := lexerManyRow.holds Try.pinned (OpenSpec.ofChange lexerManySpec)

/-- ITS FALSE NEIGHBOUR: 'it returns false'. Refute it at one input. -/
def lexerManyWrong : ChangeSpec := { name := "lexerMany", fn := fun _ => fun
  | [d1, d2] => { results := [.lit (.bool false)], args := [d1, d2] }
  | _ => none }
def LexerManyWrongFalsely : Prop := lexerManyRow.holds Try.pinned (OpenSpec.ofChange lexerManyWrong)

/- THE SECOND FORM. 'bulk': how many values and letters a reading holds, each counted each time it is reached (what is shared counts as often as it is met; a slice's spare places count too). A statement '..UptoSaid' is the law's where the arguments, and the package variables that the reading takes, are together of bulk at most 1048576: NARROWER than '..Said'. Prove '..Said' where nothing that the law and all that it calls make is longer than what came in: it says more and counts as full. Else prove '..UptoSaid'. A law counts once. -/
mutual
def uptoBulk {H : Type} : DataW H → Nat
  | .lit (.string bytes) => bytes.length + 1
  | .lit _ => 1
  | .nil => 1
  | .ptr d => uptoBulk d + 1
  | .slice elems spare => uptoBulkAll elems + uptoBulkAll spare + 1
  | .agg parts => uptoBulkAll parts + 1
  | .iface _ d => uptoBulk d + 1
  | .map entries => uptoBulkEntries entries + 1
  | .held _ => 1
def uptoBulkAll {H : Type} : List (DataW H) → Nat
  | [] => 0
  | d :: r => uptoBulk d + uptoBulkAll r
def uptoBulkEntries {H : Type} : List (Lit × DataW H) → Nat
  | [] => 0
  | x :: r => uptoBulkEntry x + uptoBulkEntries r
def uptoBulkEntry {H : Type} : Lit × DataW H → Nat
  | (.string bytes, d) => bytes.length + uptoBulk d + 1
  | (_, d) => uptoBulk d + 1
 end
def uptoSmall : (H : Type) → List (DataW H) → Bool := fun _ ds => decide (uptoBulkAll ds ≤ 1048576)
def OpenSpec.upto (s : _root_.Go.ChangeSpec) : _root_.Go.OpenSpec := { _root_.Go.OpenSpec.ofChange s with cond := some uptoSmall }

/-- 'insolvencylaw11.LexerReserved', WHERE WHAT IT READS IS OF BULK AT MOST 1048576: true; the input reads as it did. -/
def lexerReservedUptoRow : OpenClaim := { program := "ythcimodihgcjaaa", sum := "a72aed6e4517437d6ed00eda8e1c93083a563c4ed8ae721574c0352f45648023", func := "insolvency/insolvencylaw11.LexerReserved", spec := "lexerReserved", inPlace := ["internal/bytealg.IndexByteString", "internal/bytealg.IndexString"], unfollowed := true, recurses := true, named := ["internal/bytealg.MaxLen"], apart := false, narrowed := true }
def LexerReservedUptoSaid : Prop := lexerReservedUptoRow.holds Try.pinned (OpenSpec.upto lexerReservedSpec)

/-- 'insolvencylaw11.LexerSplit', WHERE WHAT IT READS IS OF BULK AT MOST 1048576: true; the input reads as it did. -/
def lexerSplitUptoRow : OpenClaim := { program := "ythcimodihgcjaaa", sum := "a72aed6e4517437d6ed00eda8e1c93083a563c4ed8ae721574c0352f45648023", func := "insolvency/insolvencylaw11.LexerSplit", spec := "lexerSplit", inPlace := ["internal/bytealg.IndexByteString", "internal/bytealg.IndexString"], unfollowed := true, recurses := true, named := ["internal/bytealg.MaxLen"], apart := false, narrowed := true }
def LexerSplitUptoSaid : Prop := lexerSplitUptoRow.holds Try.pinned (OpenSpec.upto lexerSplitSpec)

/-- 'insolvencylaw11.LexerPieces', WHERE WHAT IT READS IS OF BULK AT MOST 1048576: true; the input reads as it did. -/
def lexerPiecesUptoRow : OpenClaim := { program := "ythcimodihgcjaaa", sum := "a72aed6e4517437d6ed00eda8e1c93083a563c4ed8ae721574c0352f45648023", func := "insolvency/insolvencylaw11.LexerPieces", spec := "lexerPieces", inPlace := ["internal/bytealg.IndexByteString", "internal/bytealg.IndexString"], unfollowed := true, recurses := true, named := ["internal/bytealg.MaxLen"], apart := false, narrowed := true }
def LexerPiecesUptoSaid : Prop := lexerPiecesUptoRow.holds Try.pinned (OpenSpec.upto lexerPiecesSpec)

/-- 'insolvencylaw11.LexerAgain', WHERE WHAT IT READS IS OF BULK AT MOST 1048576: true; the input reads as it did. -/
def lexerAgainUptoRow : OpenClaim := { program := "ythcimodihgcjaaa", sum := "a72aed6e4517437d6ed00eda8e1c93083a563c4ed8ae721574c0352f45648023", func := "insolvency/insolvencylaw11.LexerAgain", spec := "lexerAgain", inPlace := ["internal/bytealg.IndexByteString", "internal/bytealg.IndexString"], unfollowed := true, recurses := true, named := ["internal/bytealg.MaxLen"], apart := false, narrowed := true }
def LexerAgainUptoSaid : Prop := lexerAgainUptoRow.holds Try.pinned (OpenSpec.upto lexerAgainSpec)

/-- 'insolvencylaw11.LexerCover', WHERE WHAT IT READS IS OF BULK AT MOST 1048576: true; the input reads as it did. -/
def lexerCoverUptoRow : OpenClaim := { program := "ythcimodihgcjaaa", sum := "a72aed6e4517437d6ed00eda8e1c93083a563c4ed8ae721574c0352f45648023", func := "insolvency/insolvencylaw11.LexerCover", spec := "lexerCover", inPlace := ["internal/bytealg.IndexByteString", "internal/bytealg.IndexString"], unfollowed := true, recurses := true, named := ["internal/bytealg.MaxLen"], apart := false, narrowed := true }
def LexerCoverUptoSaid : Prop := lexerCoverUptoRow.holds Try.pinned (OpenSpec.upto lexerCoverSpec)

/-- 'insolvencylaw11.LexerMany', WHERE WHAT IT READS IS OF BULK AT MOST 1048576: true; the input reads as it did. -/
def lexerManyUptoRow : OpenClaim := { program := "ythcimodihgcjaaa", sum := "a72aed6e4517437d6ed00eda8e1c93083a563c4ed8ae721574c0352f45648023", func := "insolvency/insolvencylaw11.LexerMany", spec := "lexerMany", inPlace := ["internal/bytealg.IndexByteString", "internal/bytealg.IndexString"], unfollowed := true, recurses := true, named := ["internal/bytealg.MaxLen"], apart := false, narrowed := true }
def LexerManyUptoSaid : Prop := lexerManyUptoRow.holds Try.pinned (OpenSpec.upto lexerManySpec)

end Rows
end Go.Proofs.Ythcimodihgcjaaa
