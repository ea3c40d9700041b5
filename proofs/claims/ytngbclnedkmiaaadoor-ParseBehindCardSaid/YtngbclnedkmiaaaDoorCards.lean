/-
  DERIVED. GIVEN WITH THE SEED: THE CARDS: each row of YtngbclnedkmiaaaDoorRows.lean that lists a variable, with what it lists TIED to the program's text (the seventh form; the later family's looks); each row that meets fmt, with fmt's text TOLD by the authors' own Lean function (tested against real Go, not proved from fmt's source: count such statements apart). THE CARD IS WHAT COUNTS. Prove the row's statement (the work); the ties are given (YtngbclnedkmiaaaDoorTie.lean); close each card by the builder's one call (the guide's Derived/Test/ToyasCard.lean, 'card_holds'). Laid BY PROGRAM, IN A SANDBOX (cutbox-door.mjs). By AI agents, Wed Nov 11 2026. No macro, syntax, notation, axiom, sorry.
-/
import Derived.Test.YtngbclnedkmiaaaDoorRows
import GoSem.ClaimSeven
namespace Go.Proofs.YtngbclnedkmiaaaDoor
namespace Rows

/-- THE TIED CARD OF 'elenchuslaw25.ParseBrackets'. -/
def parseBracketsCard : Claim7 := { stood := { row := parseBracketsRow, standIns := [], harness := (true, "a1a4445de86c4fac4565488777a6e6c5a7748e07fa62892ae39b1cf47a7b163f"), looks := true }, kinds := [], alts := [], laidByText := true, laidKinds := [.data, .pinned], laidTests := true, laidLooks := .later }
def ParseBracketsCardSaid : Prop := Claim7.holds Tryd.pinned (.plain (OpenSpec.ofChange parseBracketsSpec)) parseBracketsCard

/-- THE TIED CARD OF 'elenchuslaw25.ParseBehind'. -/
def parseBehindCard : Claim7 := { stood := { row := parseBehindRow, standIns := [], harness := (true, "a1a4445de86c4fac4565488777a6e6c5a7748e07fa62892ae39b1cf47a7b163f"), looks := true }, kinds := [], alts := [], laidByText := true, laidKinds := [.data, .pinned], laidTests := true, laidLooks := .later }
def ParseBehindCardSaid : Prop := Claim7.holds Tryd.pinned (.plain (OpenSpec.ofChange parseBehindSpec)) parseBehindCard

/-- THE TIED CARD OF 'elenchuslaw25.ParseJoins'. -/
def parseJoinsCard : Claim7 := { stood := { row := parseJoinsRow, standIns := [], harness := (true, "a1a4445de86c4fac4565488777a6e6c5a7748e07fa62892ae39b1cf47a7b163f"), looks := true }, kinds := [], alts := [], laidByText := true, laidKinds := [.data, .pinned], laidTests := true, laidLooks := .later }
def ParseJoinsCardSaid : Prop := Claim7.holds Tryd.pinned (.plain (OpenSpec.ofChange parseJoinsSpec)) parseJoinsCard

/-- THE SECOND FORM's CARD OF 'elenchuslaw25.ParseBrackets'. -/
def parseBracketsUptoCard : Claim7 := { stood := { row := parseBracketsUptoRow, standIns := [], harness := (true, "a1a4445de86c4fac4565488777a6e6c5a7748e07fa62892ae39b1cf47a7b163f"), looks := true }, kinds := [], alts := [], laidByText := true, laidKinds := [.data, .pinned], laidTests := true, laidLooks := .later }
def ParseBracketsUptoCardSaid : Prop := Claim7.holds Tryd.pinned (.plain (OpenSpec.upto parseBracketsSpec)) parseBracketsUptoCard

/-- THE SECOND FORM's CARD OF 'elenchuslaw25.ParseBehind'. -/
def parseBehindUptoCard : Claim7 := { stood := { row := parseBehindUptoRow, standIns := [], harness := (true, "a1a4445de86c4fac4565488777a6e6c5a7748e07fa62892ae39b1cf47a7b163f"), looks := true }, kinds := [], alts := [], laidByText := true, laidKinds := [.data, .pinned], laidTests := true, laidLooks := .later }
def ParseBehindUptoCardSaid : Prop := Claim7.holds Tryd.pinned (.plain (OpenSpec.upto parseBehindSpec)) parseBehindUptoCard

/-- THE SECOND FORM's CARD OF 'elenchuslaw25.ParseJoins'. -/
def parseJoinsUptoCard : Claim7 := { stood := { row := parseJoinsUptoRow, standIns := [], harness := (true, "a1a4445de86c4fac4565488777a6e6c5a7748e07fa62892ae39b1cf47a7b163f"), looks := true }, kinds := [], alts := [], laidByText := true, laidKinds := [.data, .pinned], laidTests := true, laidLooks := .later }
def ParseJoinsUptoCardSaid : Prop := Claim7.holds Tryd.pinned (.plain (OpenSpec.upto parseJoinsSpec)) parseJoinsUptoCard
end Rows
end Go.Proofs.YtngbclnedkmiaaaDoor
