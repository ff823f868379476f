/-
  DERIVED. GIVEN WITH THE SEED: THE CARDS: each row of YteneobpacobpdaaGreatDoorRows.lean that lists a variable, with what it lists TIED to the program's text (the seventh form; the later family's looks); each row that meets fmt, with fmt's text TOLD by the authors' own Lean function (tested against real Go, not proved from fmt's source: count such statements apart). THE CARD IS WHAT COUNTS. Prove the row's statement (the work); the ties are given (YteneobpacobpdaaGreatDoorTie.lean); close each card by the builder's one call (the guide's Derived/Test/ToyasCard.lean, 'card_holds'). Laid BY PROGRAM, IN A SANDBOX (cutbox-door.mjs). By AI agents, Wed Nov 11 2026. No macro, syntax, notation, axiom, sorry.
-/
import Derived.Test.YteneobpacobpdaaGreatDoorRows
import GoSem.ClaimSeven
namespace Go.Proofs.YteneobpacobpdaaGreatDoor
namespace Rows

/-- THE TIED CARD OF 'cylinderlaw37.PrinterAgain'. -/
def printerAgainCard : Claim7 := { stood := { row := printerAgainRow, standIns := [], harness := (true, "d56fe0ea4a7513145ed19083656a8c08c41d3869c4d8d544d54440c2f9ecb87b"), looks := true }, kinds := [], alts := [], laidByText := true, laidKinds := [.data, .data, .data], laidTests := true, laidLooks := .later }
def PrinterAgainCardSaid : Prop := Claim7.holds Tryz.pinned (.plain (OpenSpec.ofChange printerAgainSpec)) printerAgainCard

/-- THE TIED CARD OF 'cylinderlaw37.PrinterBack'. -/
def printerBackCard : Claim7 := { stood := { row := printerBackRow, standIns := [], harness := (true, "d56fe0ea4a7513145ed19083656a8c08c41d3869c4d8d544d54440c2f9ecb87b"), looks := true }, kinds := [], alts := [], laidByText := true, laidKinds := [.data, .data, .data], laidTests := true, laidLooks := .later }
def PrinterBackCardSaid : Prop := Claim7.holds Tryz.pinned (.plain (OpenSpec.ofChange printerBackSpec)) printerBackCard

/-- THE SECOND FORM's CARD OF 'cylinderlaw37.PrinterAgain'. -/
def printerAgainUptoCard : Claim7 := { stood := { row := printerAgainUptoRow, standIns := [], harness := (true, "d56fe0ea4a7513145ed19083656a8c08c41d3869c4d8d544d54440c2f9ecb87b"), looks := true }, kinds := [], alts := [], laidByText := true, laidKinds := [.data, .data, .data], laidTests := true, laidLooks := .later }
def PrinterAgainUptoCardSaid : Prop := Claim7.holds Tryz.pinned (.plain (OpenSpec.upto printerAgainSpec)) printerAgainUptoCard

/-- THE SECOND FORM's CARD OF 'cylinderlaw37.PrinterBack'. -/
def printerBackUptoCard : Claim7 := { stood := { row := printerBackUptoRow, standIns := [], harness := (true, "d56fe0ea4a7513145ed19083656a8c08c41d3869c4d8d544d54440c2f9ecb87b"), looks := true }, kinds := [], alts := [], laidByText := true, laidKinds := [.data, .data, .data], laidTests := true, laidLooks := .later }
def PrinterBackUptoCardSaid : Prop := Claim7.holds Tryz.pinned (.plain (OpenSpec.upto printerBackSpec)) printerBackUptoCard
end Rows
end Go.Proofs.YteneobpacobpdaaGreatDoor
