/-
  DERIVED. GIVEN WITH THE SEED: THE CARDS: each row of YtaomhkgdbobpkaaGreatDoorRows.lean that lists a variable, with what it lists TIED to the program's text (the seventh form; the later family's looks); each row that meets fmt, with fmt's text TOLD by the authors' own Lean function (tested against real Go, not proved from fmt's source: count such statements apart). THE CARD IS WHAT COUNTS. Prove the row's statement (the work); the ties are given (YtaomhkgdbobpkaaGreatDoorTie.lean); close each card by the builder's one call (the guide's Derived/Test/ToyasCard.lean, 'card_holds'). Laid BY PROGRAM, IN A SANDBOX (cutbox-door.mjs). By AI agents, Wed Nov 11 2026. No macro, syntax, notation, axiom, sorry.
-/
import Derived.Test.YtaomhkgdbobpkaaGreatDoorRows
import GoSem.ClaimSeven
namespace Go.Proofs.YtaomhkgdbobpkaaGreatDoor
namespace Rows

/-- THE TIED CARD OF 'latchkeylaw05.WireFeeds'. -/
def wireFeedsCard : Claim7 := { stood := { row := wireFeedsRow, standIns := [], harness := (true, "3fa6c434635d900ba196939de2ab91a12cf9538129fee0ba44b20cccd0a6c18c"), looks := true }, kinds := [], alts := [], laidByText := true, laidKinds := [.data, .data, .data, .data, .sentinel, .sentinel, .pinned], laidTests := true, laidLooks := .later }
def WireFeedsCardSaid : Prop := Claim7.holds Tryz.pinned (.plain (OpenSpec.ofChange wireFeedsSpec)) wireFeedsCard

/-- THE TIED CARD OF 'latchkeylaw05.WireCuts'. -/
def wireCutsCard : Claim7 := { stood := { row := wireCutsRow, standIns := [], harness := (true, "3fa6c434635d900ba196939de2ab91a12cf9538129fee0ba44b20cccd0a6c18c"), looks := true }, kinds := [], alts := [], laidByText := true, laidKinds := [.data, .data, .data, .data, .sentinel, .sentinel, .pinned], laidTests := true, laidLooks := .later }
def WireCutsCardSaid : Prop := Claim7.holds Tryz.pinned (.plain (OpenSpec.ofChange wireCutsSpec)) wireCutsCard

/-- THE TIED CARD OF 'latchkeylaw05.WirePrints'. -/
def wirePrintsCard : Claim7 := { stood := { row := wirePrintsRow, standIns := [], harness := (true, "3fa6c434635d900ba196939de2ab91a12cf9538129fee0ba44b20cccd0a6c18c"), looks := true }, kinds := [], alts := [], laidByText := true, laidKinds := [.data, .data, .data, .data, .sentinel, .sentinel, .pinned], laidTests := true, laidLooks := .later }
def WirePrintsCardSaid : Prop := Claim7.holds Tryz.pinned (.plain (OpenSpec.ofChange wirePrintsSpec)) wirePrintsCard

/-- THE TIED CARD OF 'latchkeylaw05.WireAnswers'. -/
def wireAnswersCard : Claim7 := { stood := { row := wireAnswersRow, standIns := [], harness := (true, "3fa6c434635d900ba196939de2ab91a12cf9538129fee0ba44b20cccd0a6c18c"), looks := true }, kinds := [], alts := [], laidByText := true, laidKinds := [.data, .data, .data, .data, .sentinel, .sentinel, .pinned], laidTests := true, laidLooks := .later }
def WireAnswersCardSaid : Prop := Claim7.holds Tryz.pinned (.plain (OpenSpec.ofChange wireAnswersSpec)) wireAnswersCard

/-- THE TIED CARD OF 'latchkeylaw05.WireBack'. -/
def wireBackCard : Claim7 := { stood := { row := wireBackRow, standIns := [], harness := (true, "3fa6c434635d900ba196939de2ab91a12cf9538129fee0ba44b20cccd0a6c18c"), looks := true }, kinds := [], alts := [], laidByText := true, laidKinds := [.data, .data, .data, .data, .sentinel, .sentinel, .pinned], laidTests := true, laidLooks := .later }
def WireBackCardSaid : Prop := Claim7.holds Tryz.pinned (.plain (OpenSpec.ofChange wireBackSpec)) wireBackCard

/-- THE SECOND FORM's CARD OF 'latchkeylaw05.WireFeeds'. -/
def wireFeedsUptoCard : Claim7 := { stood := { row := wireFeedsUptoRow, standIns := [], harness := (true, "3fa6c434635d900ba196939de2ab91a12cf9538129fee0ba44b20cccd0a6c18c"), looks := true }, kinds := [], alts := [], laidByText := true, laidKinds := [.data, .data, .data, .data, .sentinel, .sentinel, .pinned], laidTests := true, laidLooks := .later }
def WireFeedsUptoCardSaid : Prop := Claim7.holds Tryz.pinned (.plain (OpenSpec.upto wireFeedsSpec)) wireFeedsUptoCard

/-- THE SECOND FORM's CARD OF 'latchkeylaw05.WireCuts'. -/
def wireCutsUptoCard : Claim7 := { stood := { row := wireCutsUptoRow, standIns := [], harness := (true, "3fa6c434635d900ba196939de2ab91a12cf9538129fee0ba44b20cccd0a6c18c"), looks := true }, kinds := [], alts := [], laidByText := true, laidKinds := [.data, .data, .data, .data, .sentinel, .sentinel, .pinned], laidTests := true, laidLooks := .later }
def WireCutsUptoCardSaid : Prop := Claim7.holds Tryz.pinned (.plain (OpenSpec.upto wireCutsSpec)) wireCutsUptoCard

/-- THE SECOND FORM's CARD OF 'latchkeylaw05.WirePrints'. -/
def wirePrintsUptoCard : Claim7 := { stood := { row := wirePrintsUptoRow, standIns := [], harness := (true, "3fa6c434635d900ba196939de2ab91a12cf9538129fee0ba44b20cccd0a6c18c"), looks := true }, kinds := [], alts := [], laidByText := true, laidKinds := [.data, .data, .data, .data, .sentinel, .sentinel, .pinned], laidTests := true, laidLooks := .later }
def WirePrintsUptoCardSaid : Prop := Claim7.holds Tryz.pinned (.plain (OpenSpec.upto wirePrintsSpec)) wirePrintsUptoCard

/-- THE SECOND FORM's CARD OF 'latchkeylaw05.WireAnswers'. -/
def wireAnswersUptoCard : Claim7 := { stood := { row := wireAnswersUptoRow, standIns := [], harness := (true, "3fa6c434635d900ba196939de2ab91a12cf9538129fee0ba44b20cccd0a6c18c"), looks := true }, kinds := [], alts := [], laidByText := true, laidKinds := [.data, .data, .data, .data, .sentinel, .sentinel, .pinned], laidTests := true, laidLooks := .later }
def WireAnswersUptoCardSaid : Prop := Claim7.holds Tryz.pinned (.plain (OpenSpec.upto wireAnswersSpec)) wireAnswersUptoCard

/-- THE SECOND FORM's CARD OF 'latchkeylaw05.WireBack'. -/
def wireBackUptoCard : Claim7 := { stood := { row := wireBackUptoRow, standIns := [], harness := (true, "3fa6c434635d900ba196939de2ab91a12cf9538129fee0ba44b20cccd0a6c18c"), looks := true }, kinds := [], alts := [], laidByText := true, laidKinds := [.data, .data, .data, .data, .sentinel, .sentinel, .pinned], laidTests := true, laidLooks := .later }
def WireBackUptoCardSaid : Prop := Claim7.holds Tryz.pinned (.plain (OpenSpec.upto wireBackSpec)) wireBackUptoCard
end Rows
end Go.Proofs.YtaomhkgdbobpkaaGreatDoor
