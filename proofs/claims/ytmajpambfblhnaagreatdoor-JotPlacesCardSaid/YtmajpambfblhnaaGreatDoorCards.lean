/-
  DERIVED. GIVEN WITH THE SEED: THE CARDS: each row of YtmajpambfblhnaaGreatDoorRows.lean that lists a variable, with what it lists TIED to the program's text (the seventh form; the later family's looks); each row that meets fmt, with fmt's text TOLD by the authors' own Lean function (tested against real Go, not proved from fmt's source: count such statements apart). THE CARD IS WHAT COUNTS. Prove the row's statement (the work); the ties are given (YtmajpambfblhnaaGreatDoorTie.lean); close each card by the builder's one call (the guide's Derived/Test/ToyasCard.lean, 'card_holds'). Laid BY PROGRAM, IN A SANDBOX (cutbox-door.mjs). By AI agents, Wed Nov 11 2026. No macro, syntax, notation, axiom, sorry.
-/
import Derived.Test.YtmajpambfblhnaaGreatDoorRows
import GoSem.ClaimSeven
namespace Go.Proofs.YtmajpambfblhnaaGreatDoor
namespace Rows

/-- THE TIED CARD OF 'latchkeylaw04.JotPrints'. -/
def jotPrintsCard : Claim7 := { stood := { row := jotPrintsRow, standIns := [], harness := (true, "f88a5808462a2d3fcb34a4a73177a56330cef19260101ac42fed8b67ec28e280"), looks := true }, kinds := [], alts := [], laidByText := true, laidKinds := [.data, .data, .data, .data, .pinned], laidTests := true, laidLooks := .later }
def JotPrintsCardSaid : Prop := Claim7.holds Tryz.pinned (.plain (OpenSpec.ofChange jotPrintsSpec)) jotPrintsCard

/-- THE TIED CARD OF 'latchkeylaw04.JotParses'. -/
def jotParsesCard : Claim7 := { stood := { row := jotParsesRow, standIns := [], harness := (true, "f88a5808462a2d3fcb34a4a73177a56330cef19260101ac42fed8b67ec28e280"), looks := true }, kinds := [], alts := [], laidByText := true, laidKinds := [.data, .data, .data, .data, .pinned], laidTests := true, laidLooks := .later }
def JotParsesCardSaid : Prop := Claim7.holds Tryz.pinned (.plain (OpenSpec.ofChange jotParsesSpec)) jotParsesCard

/-- THE TIED CARD OF 'latchkeylaw04.JotGets'. -/
def jotGetsCard : Claim7 := { stood := { row := jotGetsRow, standIns := [], harness := (true, "f88a5808462a2d3fcb34a4a73177a56330cef19260101ac42fed8b67ec28e280"), looks := true }, kinds := [], alts := [], laidByText := true, laidKinds := [.data, .data, .data, .data, .pinned], laidTests := true, laidLooks := .later }
def JotGetsCardSaid : Prop := Claim7.holds Tryz.pinned (.plain (OpenSpec.ofChange jotGetsSpec)) jotGetsCard

/-- THE TIED CARD OF 'latchkeylaw04.JotSays'. -/
def jotSaysCard : Claim7 := { stood := { row := jotSaysRow, standIns := [], harness := (true, "f88a5808462a2d3fcb34a4a73177a56330cef19260101ac42fed8b67ec28e280"), looks := true }, kinds := [], alts := [], laidByText := true, laidKinds := [.data, .data, .data, .data, .pinned], laidTests := true, laidLooks := .later }
def JotSaysCardSaid : Prop := Claim7.holds Tryz.pinned (.plain (OpenSpec.ofChange jotSaysSpec)) jotSaysCard

/-- THE TIED CARD OF 'latchkeylaw04.JotPlaces'. -/
def jotPlacesCard : Claim7 := { stood := { row := jotPlacesRow, standIns := [], harness := (true, "f88a5808462a2d3fcb34a4a73177a56330cef19260101ac42fed8b67ec28e280"), looks := true }, kinds := [], alts := [], laidByText := true, laidKinds := [.data, .data, .data, .data, .pinned], laidTests := true, laidLooks := .later }
def JotPlacesCardSaid : Prop := Claim7.holds Tryz.pinned (.plain (OpenSpec.ofChange jotPlacesSpec)) jotPlacesCard

/-- THE SECOND FORM's CARD OF 'latchkeylaw04.JotPrints'. -/
def jotPrintsUptoCard : Claim7 := { stood := { row := jotPrintsUptoRow, standIns := [], harness := (true, "f88a5808462a2d3fcb34a4a73177a56330cef19260101ac42fed8b67ec28e280"), looks := true }, kinds := [], alts := [], laidByText := true, laidKinds := [.data, .data, .data, .data, .pinned], laidTests := true, laidLooks := .later }
def JotPrintsUptoCardSaid : Prop := Claim7.holds Tryz.pinned (.plain (OpenSpec.upto jotPrintsSpec)) jotPrintsUptoCard

/-- THE SECOND FORM's CARD OF 'latchkeylaw04.JotParses'. -/
def jotParsesUptoCard : Claim7 := { stood := { row := jotParsesUptoRow, standIns := [], harness := (true, "f88a5808462a2d3fcb34a4a73177a56330cef19260101ac42fed8b67ec28e280"), looks := true }, kinds := [], alts := [], laidByText := true, laidKinds := [.data, .data, .data, .data, .pinned], laidTests := true, laidLooks := .later }
def JotParsesUptoCardSaid : Prop := Claim7.holds Tryz.pinned (.plain (OpenSpec.upto jotParsesSpec)) jotParsesUptoCard

/-- THE SECOND FORM's CARD OF 'latchkeylaw04.JotGets'. -/
def jotGetsUptoCard : Claim7 := { stood := { row := jotGetsUptoRow, standIns := [], harness := (true, "f88a5808462a2d3fcb34a4a73177a56330cef19260101ac42fed8b67ec28e280"), looks := true }, kinds := [], alts := [], laidByText := true, laidKinds := [.data, .data, .data, .data, .pinned], laidTests := true, laidLooks := .later }
def JotGetsUptoCardSaid : Prop := Claim7.holds Tryz.pinned (.plain (OpenSpec.upto jotGetsSpec)) jotGetsUptoCard

/-- THE SECOND FORM's CARD OF 'latchkeylaw04.JotSays'. -/
def jotSaysUptoCard : Claim7 := { stood := { row := jotSaysUptoRow, standIns := [], harness := (true, "f88a5808462a2d3fcb34a4a73177a56330cef19260101ac42fed8b67ec28e280"), looks := true }, kinds := [], alts := [], laidByText := true, laidKinds := [.data, .data, .data, .data, .pinned], laidTests := true, laidLooks := .later }
def JotSaysUptoCardSaid : Prop := Claim7.holds Tryz.pinned (.plain (OpenSpec.upto jotSaysSpec)) jotSaysUptoCard

/-- THE SECOND FORM's CARD OF 'latchkeylaw04.JotPlaces'. -/
def jotPlacesUptoCard : Claim7 := { stood := { row := jotPlacesUptoRow, standIns := [], harness := (true, "f88a5808462a2d3fcb34a4a73177a56330cef19260101ac42fed8b67ec28e280"), looks := true }, kinds := [], alts := [], laidByText := true, laidKinds := [.data, .data, .data, .data, .pinned], laidTests := true, laidLooks := .later }
def JotPlacesUptoCardSaid : Prop := Claim7.holds Tryz.pinned (.plain (OpenSpec.upto jotPlacesSpec)) jotPlacesUptoCard
end Rows
end Go.Proofs.YtmajpambfblhnaaGreatDoor
