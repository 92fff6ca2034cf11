/-
  DERIVED. GIVEN WITH THE SEED: THE CARDS: each row of YtldhfbdljogieaaDoorRows.lean that lists a variable, with what it lists TIED to the program's text (the seventh form; the later family's looks); each row that meets fmt, with fmt's text TOLD by the authors' own Lean function (tested against real Go, not proved from fmt's source: count such statements apart). THE CARD IS WHAT COUNTS. Prove the row's statement (the work); the ties are given (YtldhfbdljogieaaDoorTie.lean); close each card by the builder's one call (the guide's Derived/Test/ToyasCard.lean, 'card_holds'). Laid BY PROGRAM, IN A SANDBOX (cutbox-door.mjs). By AI agents, Wed Nov 11 2026. No macro, syntax, notation, axiom, sorry.
-/
import Derived.Test.YtldhfbdljogieaaDoorRows
import GoSem.ClaimSeven
namespace Go.Proofs.YtldhfbdljogieaaDoor
namespace Rows

/-- THE TIED CARD OF 'latchkeylaw03.QueryTexts'. -/
def queryTextsCard : Claim7 := { stood := { row := queryTextsRow, standIns := [], harness := (true, "169892c95722db564e15e74b4c15eb13ae4c6d937ef5669d717a9b5d93c8f470"), looks := false }, kinds := [], alts := [], laidByText := true, laidKinds := [.data, .pinned], laidTests := true, laidLooks := .later }
def QueryTextsCardSaid : Prop := Claim7.holds Tryd.pinned (.plain (OpenSpec.ofChange queryTextsSpec)) queryTextsCard

/-- THE TIED CARD OF 'latchkeylaw03.QueryParses'. -/
def queryParsesCard : Claim7 := { stood := { row := queryParsesRow, standIns := [], harness := (true, "169892c95722db564e15e74b4c15eb13ae4c6d937ef5669d717a9b5d93c8f470"), looks := false }, kinds := [], alts := [], laidByText := true, laidKinds := [.data, .pinned], laidTests := true, laidLooks := .later }
def QueryParsesCardSaid : Prop := Claim7.holds Tryd.pinned (.plain (OpenSpec.ofChange queryParsesSpec)) queryParsesCard

/-- THE TIED CARD OF 'latchkeylaw03.QueryPrints'. -/
def queryPrintsCard : Claim7 := { stood := { row := queryPrintsRow, standIns := [], harness := (true, "169892c95722db564e15e74b4c15eb13ae4c6d937ef5669d717a9b5d93c8f470"), looks := false }, kinds := [], alts := [], laidByText := true, laidKinds := [.data, .pinned], laidTests := true, laidLooks := .later }
def QueryPrintsCardSaid : Prop := Claim7.holds Tryd.pinned (.plain (OpenSpec.ofChange queryPrintsSpec)) queryPrintsCard

/-- THE TIED CARD OF 'latchkeylaw03.QueryBack'. -/
def queryBackCard : Claim7 := { stood := { row := queryBackRow, standIns := [], harness := (true, "169892c95722db564e15e74b4c15eb13ae4c6d937ef5669d717a9b5d93c8f470"), looks := false }, kinds := [], alts := [], laidByText := true, laidKinds := [.data, .pinned], laidTests := true, laidLooks := .later }
def QueryBackCardSaid : Prop := Claim7.holds Tryd.pinned (.plain (OpenSpec.ofChange queryBackSpec)) queryBackCard

/-- THE TIED CARD OF 'latchkeylaw03.QueryPlaces'. -/
def queryPlacesCard : Claim7 := { stood := { row := queryPlacesRow, standIns := [], harness := (true, "169892c95722db564e15e74b4c15eb13ae4c6d937ef5669d717a9b5d93c8f470"), looks := false }, kinds := [], alts := [], laidByText := true, laidKinds := [.data, .pinned], laidTests := true, laidLooks := .later }
def QueryPlacesCardSaid : Prop := Claim7.holds Tryd.pinned (.plain (OpenSpec.ofChange queryPlacesSpec)) queryPlacesCard

/-- THE SECOND FORM's CARD OF 'latchkeylaw03.QueryTexts'. -/
def queryTextsUptoCard : Claim7 := { stood := { row := queryTextsUptoRow, standIns := [], harness := (true, "169892c95722db564e15e74b4c15eb13ae4c6d937ef5669d717a9b5d93c8f470"), looks := false }, kinds := [], alts := [], laidByText := true, laidKinds := [.data, .pinned], laidTests := true, laidLooks := .later }
def QueryTextsUptoCardSaid : Prop := Claim7.holds Tryd.pinned (.plain (OpenSpec.upto queryTextsSpec)) queryTextsUptoCard

/-- THE SECOND FORM's CARD OF 'latchkeylaw03.QueryParses'. -/
def queryParsesUptoCard : Claim7 := { stood := { row := queryParsesUptoRow, standIns := [], harness := (true, "169892c95722db564e15e74b4c15eb13ae4c6d937ef5669d717a9b5d93c8f470"), looks := false }, kinds := [], alts := [], laidByText := true, laidKinds := [.data, .pinned], laidTests := true, laidLooks := .later }
def QueryParsesUptoCardSaid : Prop := Claim7.holds Tryd.pinned (.plain (OpenSpec.upto queryParsesSpec)) queryParsesUptoCard

/-- THE SECOND FORM's CARD OF 'latchkeylaw03.QueryPrints'. -/
def queryPrintsUptoCard : Claim7 := { stood := { row := queryPrintsUptoRow, standIns := [], harness := (true, "169892c95722db564e15e74b4c15eb13ae4c6d937ef5669d717a9b5d93c8f470"), looks := false }, kinds := [], alts := [], laidByText := true, laidKinds := [.data, .pinned], laidTests := true, laidLooks := .later }
def QueryPrintsUptoCardSaid : Prop := Claim7.holds Tryd.pinned (.plain (OpenSpec.upto queryPrintsSpec)) queryPrintsUptoCard

/-- THE SECOND FORM's CARD OF 'latchkeylaw03.QueryBack'. -/
def queryBackUptoCard : Claim7 := { stood := { row := queryBackUptoRow, standIns := [], harness := (true, "169892c95722db564e15e74b4c15eb13ae4c6d937ef5669d717a9b5d93c8f470"), looks := false }, kinds := [], alts := [], laidByText := true, laidKinds := [.data, .pinned], laidTests := true, laidLooks := .later }
def QueryBackUptoCardSaid : Prop := Claim7.holds Tryd.pinned (.plain (OpenSpec.upto queryBackSpec)) queryBackUptoCard

/-- THE SECOND FORM's CARD OF 'latchkeylaw03.QueryPlaces'. -/
def queryPlacesUptoCard : Claim7 := { stood := { row := queryPlacesUptoRow, standIns := [], harness := (true, "169892c95722db564e15e74b4c15eb13ae4c6d937ef5669d717a9b5d93c8f470"), looks := false }, kinds := [], alts := [], laidByText := true, laidKinds := [.data, .pinned], laidTests := true, laidLooks := .later }
def QueryPlacesUptoCardSaid : Prop := Claim7.holds Tryd.pinned (.plain (OpenSpec.upto queryPlacesSpec)) queryPlacesUptoCard
end Rows
end Go.Proofs.YtldhfbdljogieaaDoor
