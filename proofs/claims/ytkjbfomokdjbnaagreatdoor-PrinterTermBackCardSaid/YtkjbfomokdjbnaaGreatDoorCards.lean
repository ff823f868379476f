/-
  DERIVED. GIVEN WITH THE SEED: THE CARDS: each row of YtkjbfomokdjbnaaGreatDoorRows.lean that lists a variable, with what it lists TIED to the program's text (the seventh form; the later family's looks); each row that meets fmt, with fmt's text TOLD by the authors' own Lean function (tested against real Go, not proved from fmt's source: count such statements apart). THE CARD IS WHAT COUNTS. Prove the row's statement (the work); the ties are given (YtkjbfomokdjbnaaGreatDoorTie.lean); close each card by the builder's one call (the guide's Derived/Test/ToyasCard.lean, 'card_holds'). Laid BY PROGRAM, IN A SANDBOX (cutbox-door.mjs). By AI agents, Wed Nov 11 2026. No macro, syntax, notation, axiom, sorry.
-/
import Derived.Test.YtkjbfomokdjbnaaGreatDoorRows
import GoSem.ClaimSeven
namespace Go.Proofs.YtkjbfomokdjbnaaGreatDoor
namespace Rows

/-- THE TIED CARD OF 'cylinderlaw37.PrinterTermBack'. -/
def printerTermBackCard : Claim7 := { stood := { row := printerTermBackRow, standIns := [], harness := (true, "895c28b07281bb3320bfa95d92e2583b1a4fbb4c7c72cbd53d8ba24401df020d"), looks := true }, kinds := [], alts := [], laidByText := true, laidKinds := [.data, .data, .data], laidTests := true, laidLooks := .later }
def PrinterTermBackCardSaid : Prop := Claim7.holds Tryz.pinned (.plain (OpenSpec.ofChange printerTermBackSpec)) printerTermBackCard

/-- THE TIED CARD OF 'cylinderlaw37.PrinterLean'. -/
def printerLeanCard : Claim7 := { stood := { row := printerLeanRow, standIns := [], harness := (true, "895c28b07281bb3320bfa95d92e2583b1a4fbb4c7c72cbd53d8ba24401df020d"), looks := true }, kinds := [], alts := [], laidByText := true, laidKinds := [.data, .data, .data], laidTests := true, laidLooks := .later }
def PrinterLeanCardSaid : Prop := Claim7.holds Tryz.pinned (.plain (OpenSpec.ofChange printerLeanSpec)) printerLeanCard

/-- THE SECOND FORM's CARD OF 'cylinderlaw37.PrinterTermBack'. -/
def printerTermBackUptoCard : Claim7 := { stood := { row := printerTermBackUptoRow, standIns := [], harness := (true, "895c28b07281bb3320bfa95d92e2583b1a4fbb4c7c72cbd53d8ba24401df020d"), looks := true }, kinds := [], alts := [], laidByText := true, laidKinds := [.data, .data, .data], laidTests := true, laidLooks := .later }
def PrinterTermBackUptoCardSaid : Prop := Claim7.holds Tryz.pinned (.plain (OpenSpec.upto printerTermBackSpec)) printerTermBackUptoCard

/-- THE SECOND FORM's CARD OF 'cylinderlaw37.PrinterLean'. -/
def printerLeanUptoCard : Claim7 := { stood := { row := printerLeanUptoRow, standIns := [], harness := (true, "895c28b07281bb3320bfa95d92e2583b1a4fbb4c7c72cbd53d8ba24401df020d"), looks := true }, kinds := [], alts := [], laidByText := true, laidKinds := [.data, .data, .data], laidTests := true, laidLooks := .later }
def PrinterLeanUptoCardSaid : Prop := Claim7.holds Tryz.pinned (.plain (OpenSpec.upto printerLeanSpec)) printerLeanUptoCard
end Rows
end Go.Proofs.YtkjbfomokdjbnaaGreatDoor
