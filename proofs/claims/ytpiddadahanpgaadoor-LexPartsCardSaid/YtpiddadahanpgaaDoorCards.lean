/-
  DERIVED. GIVEN WITH THE SEED: THE CARDS: each row of YtpiddadahanpgaaDoorRows.lean that lists a variable, with what it lists TIED to the program's text (the seventh form; the later family's looks); each row that meets fmt, with fmt's text TOLD by the authors' own Lean function (tested against real Go, not proved from fmt's source: count such statements apart). THE CARD IS WHAT COUNTS. Prove the row's statement (the work); the ties are given (YtpiddadahanpgaaDoorTie.lean); close each card by the builder's one call (the guide's Derived/Test/ToyasCard.lean, 'card_holds'). Laid BY PROGRAM, IN A SANDBOX (cutbox-door.mjs). By AI agents, Wed Nov 11 2026. No macro, syntax, notation, axiom, sorry.
-/
import Derived.Test.YtpiddadahanpgaaDoorRows
import GoSem.ClaimSeven
namespace Go.Proofs.YtpiddadahanpgaaDoor
namespace Rows

/-- THE TIED CARD OF 'elenchuslaw24.LexDoes'. -/
def lexDoesCard : Claim7 := { stood := { row := lexDoesRow, standIns := [], harness := (true, "96299417a65e99be53a6e69e06cd8de37d6ad6bbc58010e5b0e820467a5d0e39"), looks := false }, kinds := [], alts := [], laidByText := true, laidKinds := [.data, .pinned], laidTests := true, laidLooks := .later }
def LexDoesCardSaid : Prop := Claim7.holds Tryd.pinned (.plain (OpenSpec.ofChange lexDoesSpec)) lexDoesCard

/-- THE TIED CARD OF 'elenchuslaw24.LexQuotes'. -/
def lexQuotesCard : Claim7 := { stood := { row := lexQuotesRow, standIns := [], harness := (true, "96299417a65e99be53a6e69e06cd8de37d6ad6bbc58010e5b0e820467a5d0e39"), looks := false }, kinds := [], alts := [], laidByText := true, laidKinds := [.data, .pinned], laidTests := true, laidLooks := .later }
def LexQuotesCardSaid : Prop := Claim7.holds Tryd.pinned (.plain (OpenSpec.ofChange lexQuotesSpec)) lexQuotesCard

/-- THE TIED CARD OF 'elenchuslaw24.LexBack'. -/
def lexBackCard : Claim7 := { stood := { row := lexBackRow, standIns := [], harness := (true, "96299417a65e99be53a6e69e06cd8de37d6ad6bbc58010e5b0e820467a5d0e39"), looks := false }, kinds := [], alts := [], laidByText := true, laidKinds := [.data, .pinned], laidTests := true, laidLooks := .later }
def LexBackCardSaid : Prop := Claim7.holds Tryd.pinned (.plain (OpenSpec.ofChange lexBackSpec)) lexBackCard

/-- THE TIED CARD OF 'elenchuslaw24.LexWhite'. -/
def lexWhiteCard : Claim7 := { stood := { row := lexWhiteRow, standIns := [], harness := (true, "96299417a65e99be53a6e69e06cd8de37d6ad6bbc58010e5b0e820467a5d0e39"), looks := false }, kinds := [], alts := [], laidByText := true, laidKinds := [.data, .pinned], laidTests := true, laidLooks := .later }
def LexWhiteCardSaid : Prop := Claim7.holds Tryd.pinned (.plain (OpenSpec.ofChange lexWhiteSpec)) lexWhiteCard

/-- THE TIED CARD OF 'elenchuslaw24.LexParts'. -/
def lexPartsCard : Claim7 := { stood := { row := lexPartsRow, standIns := [], harness := (true, "96299417a65e99be53a6e69e06cd8de37d6ad6bbc58010e5b0e820467a5d0e39"), looks := false }, kinds := [], alts := [], laidByText := true, laidKinds := [.data, .pinned], laidTests := true, laidLooks := .later }
def LexPartsCardSaid : Prop := Claim7.holds Tryd.pinned (.plain (OpenSpec.ofChange lexPartsSpec)) lexPartsCard

/-- THE SECOND FORM's CARD OF 'elenchuslaw24.LexDoes'. -/
def lexDoesUptoCard : Claim7 := { stood := { row := lexDoesUptoRow, standIns := [], harness := (true, "96299417a65e99be53a6e69e06cd8de37d6ad6bbc58010e5b0e820467a5d0e39"), looks := false }, kinds := [], alts := [], laidByText := true, laidKinds := [.data, .pinned], laidTests := true, laidLooks := .later }
def LexDoesUptoCardSaid : Prop := Claim7.holds Tryd.pinned (.plain (OpenSpec.upto lexDoesSpec)) lexDoesUptoCard

/-- THE SECOND FORM's CARD OF 'elenchuslaw24.LexQuotes'. -/
def lexQuotesUptoCard : Claim7 := { stood := { row := lexQuotesUptoRow, standIns := [], harness := (true, "96299417a65e99be53a6e69e06cd8de37d6ad6bbc58010e5b0e820467a5d0e39"), looks := false }, kinds := [], alts := [], laidByText := true, laidKinds := [.data, .pinned], laidTests := true, laidLooks := .later }
def LexQuotesUptoCardSaid : Prop := Claim7.holds Tryd.pinned (.plain (OpenSpec.upto lexQuotesSpec)) lexQuotesUptoCard

/-- THE SECOND FORM's CARD OF 'elenchuslaw24.LexBack'. -/
def lexBackUptoCard : Claim7 := { stood := { row := lexBackUptoRow, standIns := [], harness := (true, "96299417a65e99be53a6e69e06cd8de37d6ad6bbc58010e5b0e820467a5d0e39"), looks := false }, kinds := [], alts := [], laidByText := true, laidKinds := [.data, .pinned], laidTests := true, laidLooks := .later }
def LexBackUptoCardSaid : Prop := Claim7.holds Tryd.pinned (.plain (OpenSpec.upto lexBackSpec)) lexBackUptoCard

/-- THE SECOND FORM's CARD OF 'elenchuslaw24.LexWhite'. -/
def lexWhiteUptoCard : Claim7 := { stood := { row := lexWhiteUptoRow, standIns := [], harness := (true, "96299417a65e99be53a6e69e06cd8de37d6ad6bbc58010e5b0e820467a5d0e39"), looks := false }, kinds := [], alts := [], laidByText := true, laidKinds := [.data, .pinned], laidTests := true, laidLooks := .later }
def LexWhiteUptoCardSaid : Prop := Claim7.holds Tryd.pinned (.plain (OpenSpec.upto lexWhiteSpec)) lexWhiteUptoCard

/-- THE SECOND FORM's CARD OF 'elenchuslaw24.LexParts'. -/
def lexPartsUptoCard : Claim7 := { stood := { row := lexPartsUptoRow, standIns := [], harness := (true, "96299417a65e99be53a6e69e06cd8de37d6ad6bbc58010e5b0e820467a5d0e39"), looks := false }, kinds := [], alts := [], laidByText := true, laidKinds := [.data, .pinned], laidTests := true, laidLooks := .later }
def LexPartsUptoCardSaid : Prop := Claim7.holds Tryd.pinned (.plain (OpenSpec.upto lexPartsSpec)) lexPartsUptoCard
end Rows
end Go.Proofs.YtpiddadahanpgaaDoor
