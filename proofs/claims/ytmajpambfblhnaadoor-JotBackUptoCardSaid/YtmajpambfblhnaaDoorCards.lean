/-
  DERIVED. GIVEN WITH THE SEED: THE CARDS: each row of YtmajpambfblhnaaDoorRows.lean that lists a variable, with what it lists TIED to the program's text (the seventh form; the later family's looks); each row that meets fmt, with fmt's text TOLD by the authors' own Lean function (tested against real Go, not proved from fmt's source: count such statements apart). THE CARD IS WHAT COUNTS. Prove the row's statement (the work); the ties are given (YtmajpambfblhnaaDoorTie.lean); close each card by the builder's one call (the guide's Derived/Test/ToyasCard.lean, 'card_holds'). Laid BY PROGRAM, IN A SANDBOX (cutbox-door.mjs). By AI agents, Wed Nov 11 2026. No macro, syntax, notation, axiom, sorry.
-/
import Derived.Test.YtmajpambfblhnaaDoorRows
import GoSem.ClaimSeven
namespace Go.Proofs.YtmajpambfblhnaaDoor
namespace Rows

/-- THE TIED CARD OF 'latchkeylaw04.JotBack'. -/
def jotBackCard : Claim7 := { stood := { row := jotBackRow, standIns := [], harness := (true, "193d18a973ccd5499482851a4275e0123b01a8fbf369bc5270306a85cf2a1fbd"), looks := true }, kinds := [], alts := [], laidByText := true, laidKinds := [.data, .data, .data, .data, .pinned], laidTests := true, laidLooks := .later }
def JotBackCardSaid : Prop := Claim7.holds Tryd.pinned (.plain (OpenSpec.ofChange jotBackSpec)) jotBackCard

/-- THE TIED CARD OF 'latchkeylaw04.JotShort'. -/
def jotShortCard : Claim7 := { stood := { row := jotShortRow, standIns := [], harness := (true, "193d18a973ccd5499482851a4275e0123b01a8fbf369bc5270306a85cf2a1fbd"), looks := true }, kinds := [], alts := [], laidByText := true, laidKinds := [.data, .data, .data, .data, .pinned], laidTests := true, laidLooks := .later }
def JotShortCardSaid : Prop := Claim7.holds Tryd.pinned (.plain (OpenSpec.ofChange jotShortSpec)) jotShortCard

/-- THE SECOND FORM's CARD OF 'latchkeylaw04.JotBack'. -/
def jotBackUptoCard : Claim7 := { stood := { row := jotBackUptoRow, standIns := [], harness := (true, "193d18a973ccd5499482851a4275e0123b01a8fbf369bc5270306a85cf2a1fbd"), looks := true }, kinds := [], alts := [], laidByText := true, laidKinds := [.data, .data, .data, .data, .pinned], laidTests := true, laidLooks := .later }
def JotBackUptoCardSaid : Prop := Claim7.holds Tryd.pinned (.plain (OpenSpec.upto jotBackSpec)) jotBackUptoCard

/-- THE SECOND FORM's CARD OF 'latchkeylaw04.JotShort'. -/
def jotShortUptoCard : Claim7 := { stood := { row := jotShortUptoRow, standIns := [], harness := (true, "193d18a973ccd5499482851a4275e0123b01a8fbf369bc5270306a85cf2a1fbd"), looks := true }, kinds := [], alts := [], laidByText := true, laidKinds := [.data, .data, .data, .data, .pinned], laidTests := true, laidLooks := .later }
def JotShortUptoCardSaid : Prop := Claim7.holds Tryd.pinned (.plain (OpenSpec.upto jotShortSpec)) jotShortUptoCard
end Rows
end Go.Proofs.YtmajpambfblhnaaDoor
