/-
  DERIVED. GIVEN WITH THE SEED: THE CARDS: each row of YtpcgfhleloonfaaGreatDoorRows.lean that lists a variable, with what it lists TIED to the program's text (the seventh form; the later family's looks); each row that meets fmt, with fmt's text TOLD by the authors' own Lean function (tested against real Go, not proved from fmt's source: count such statements apart). THE CARD IS WHAT COUNTS. Prove the row's statement (the work); the ties are given (YtpcgfhleloonfaaGreatDoorTie.lean); close each card by the builder's one call (the guide's Derived/Test/ToyasCard.lean, 'card_holds'). Laid BY PROGRAM, IN A SANDBOX (cutbox-door.mjs). By AI agents, Wed Nov 11 2026. No macro, syntax, notation, axiom, sorry.
-/
import Derived.Test.YtpcgfhleloonfaaGreatDoorRows
import GoSem.ClaimSeven
namespace Go.Proofs.YtpcgfhleloonfaaGreatDoor
namespace Rows

/-- THE TIED CARD OF 'latchkeylaw23.AccessSigns'. -/
def accessSignsCard : Claim7 := { stood := { row := accessSignsRow, standIns := [], harness := (true, "63fbbe9db8cdab6f1f4154ed2b11fa58e4f1ef70fbf63b2fd9633cc5f6b141ca"), looks := true }, kinds := [], alts := [], laidByText := true, laidKinds := [.data, .data, .data, .data, .sentinel, .sentinel, .pinned], laidTests := true, laidLooks := .later }
def AccessSignsCardSaid : Prop := Claim7.holds Tryz.pinned (.plain (OpenSpec.ofChange accessSignsSpec)) accessSignsCard

/-- THE TIED CARD OF 'latchkeylaw23.AccessReads'. -/
def accessReadsCard : Claim7 := { stood := { row := accessReadsRow, standIns := [], harness := (true, "63fbbe9db8cdab6f1f4154ed2b11fa58e4f1ef70fbf63b2fd9633cc5f6b141ca"), looks := true }, kinds := [], alts := [], laidByText := true, laidKinds := [.data, .data, .data, .data, .sentinel, .sentinel, .pinned], laidTests := true, laidLooks := .later }
def AccessReadsCardSaid : Prop := Claim7.holds Tryz.pinned (.plain (OpenSpec.ofChange accessReadsSpec)) accessReadsCard

/-- THE TIED CARD OF 'latchkeylaw23.AccessBack'. -/
def accessBackCard : Claim7 := { stood := { row := accessBackRow, standIns := [], harness := (true, "63fbbe9db8cdab6f1f4154ed2b11fa58e4f1ef70fbf63b2fd9633cc5f6b141ca"), looks := true }, kinds := [], alts := [], laidByText := true, laidKinds := [.data, .data, .data, .data, .sentinel, .sentinel, .pinned], laidTests := true, laidLooks := .later }
def AccessBackCardSaid : Prop := Claim7.holds Tryz.pinned (.plain (OpenSpec.ofChange accessBackSpec)) accessBackCard

/-- THE TIED CARD OF 'latchkeylaw23.AccessStrict'. -/
def accessStrictCard : Claim7 := { stood := { row := accessStrictRow, standIns := [], harness := (true, "63fbbe9db8cdab6f1f4154ed2b11fa58e4f1ef70fbf63b2fd9633cc5f6b141ca"), looks := true }, kinds := [], alts := [], laidByText := true, laidKinds := [.data, .data, .data, .data, .sentinel, .sentinel, .pinned], laidTests := true, laidLooks := .later }
def AccessStrictCardSaid : Prop := Claim7.holds Tryz.pinned (.plain (OpenSpec.ofChange accessStrictSpec)) accessStrictCard

/-- THE SECOND FORM's CARD OF 'latchkeylaw23.AccessSigns'. -/
def accessSignsUptoCard : Claim7 := { stood := { row := accessSignsUptoRow, standIns := [], harness := (true, "63fbbe9db8cdab6f1f4154ed2b11fa58e4f1ef70fbf63b2fd9633cc5f6b141ca"), looks := true }, kinds := [], alts := [], laidByText := true, laidKinds := [.data, .data, .data, .data, .sentinel, .sentinel, .pinned], laidTests := true, laidLooks := .later }
def AccessSignsUptoCardSaid : Prop := Claim7.holds Tryz.pinned (.plain (OpenSpec.upto accessSignsSpec)) accessSignsUptoCard

/-- THE SECOND FORM's CARD OF 'latchkeylaw23.AccessReads'. -/
def accessReadsUptoCard : Claim7 := { stood := { row := accessReadsUptoRow, standIns := [], harness := (true, "63fbbe9db8cdab6f1f4154ed2b11fa58e4f1ef70fbf63b2fd9633cc5f6b141ca"), looks := true }, kinds := [], alts := [], laidByText := true, laidKinds := [.data, .data, .data, .data, .sentinel, .sentinel, .pinned], laidTests := true, laidLooks := .later }
def AccessReadsUptoCardSaid : Prop := Claim7.holds Tryz.pinned (.plain (OpenSpec.upto accessReadsSpec)) accessReadsUptoCard

/-- THE SECOND FORM's CARD OF 'latchkeylaw23.AccessBack'. -/
def accessBackUptoCard : Claim7 := { stood := { row := accessBackUptoRow, standIns := [], harness := (true, "63fbbe9db8cdab6f1f4154ed2b11fa58e4f1ef70fbf63b2fd9633cc5f6b141ca"), looks := true }, kinds := [], alts := [], laidByText := true, laidKinds := [.data, .data, .data, .data, .sentinel, .sentinel, .pinned], laidTests := true, laidLooks := .later }
def AccessBackUptoCardSaid : Prop := Claim7.holds Tryz.pinned (.plain (OpenSpec.upto accessBackSpec)) accessBackUptoCard

/-- THE SECOND FORM's CARD OF 'latchkeylaw23.AccessStrict'. -/
def accessStrictUptoCard : Claim7 := { stood := { row := accessStrictUptoRow, standIns := [], harness := (true, "63fbbe9db8cdab6f1f4154ed2b11fa58e4f1ef70fbf63b2fd9633cc5f6b141ca"), looks := true }, kinds := [], alts := [], laidByText := true, laidKinds := [.data, .data, .data, .data, .sentinel, .sentinel, .pinned], laidTests := true, laidLooks := .later }
def AccessStrictUptoCardSaid : Prop := Claim7.holds Tryz.pinned (.plain (OpenSpec.upto accessStrictSpec)) accessStrictUptoCard
end Rows
end Go.Proofs.YtpcgfhleloonfaaGreatDoor
