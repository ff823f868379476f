/-
  DERIVED. GIVEN WITH THE SEED: THE CARDS: each row of YtkjbfomokdjbnaaDoorRows.lean that lists a variable, with what it lists TIED to the program's text (the seventh form; the later family's looks); each row that meets fmt, with fmt's text TOLD by the authors' own Lean function (tested against real Go, not proved from fmt's source: count such statements apart). THE CARD IS WHAT COUNTS. Prove the row's statement (the work); the ties are given (YtkjbfomokdjbnaaDoorTie.lean); close each card by the builder's one call (the guide's Derived/Test/ToyasCard.lean, 'card_holds'). Laid BY PROGRAM, IN A SANDBOX (cutbox-door.mjs). By AI agents, Wed Nov 11 2026. No macro, syntax, notation, axiom, sorry.
-/
import Derived.Test.YtkjbfomokdjbnaaDoorRows
import GoSem.ClaimSeven
namespace Go.Proofs.YtkjbfomokdjbnaaDoor
namespace Rows

/-- THE TIED CARD OF 'cylinderlaw37.PrinterFormats'. -/
def printerFormatsCard : Claim7 := { stood := { row := printerFormatsRow, standIns := [], harness := (true, "dcd7c734f29148bad502097fc9eff3da888994e9c4abfb357a8007f4ac70284f"), looks := true }, kinds := [], alts := [], laidByText := true, laidKinds := [.data, .data, .data], laidTests := true, laidLooks := .later }
def PrinterFormatsCardSaid : Prop := Claim7.holds Tryd.pinned (.plain (OpenSpec.ofChange printerFormatsSpec)) printerFormatsCard

/-- THE TIED CARD OF 'cylinderlaw37.PrinterTerms'. -/
def printerTermsCard : Claim7 := { stood := { row := printerTermsRow, standIns := [], harness := (true, "dcd7c734f29148bad502097fc9eff3da888994e9c4abfb357a8007f4ac70284f"), looks := true }, kinds := [], alts := [], laidByText := true, laidKinds := [.data, .data, .data], laidTests := true, laidLooks := .later }
def PrinterTermsCardSaid : Prop := Claim7.holds Tryd.pinned (.plain (OpenSpec.ofChange printerTermsSpec)) printerTermsCard

/-- THE TIED CARD OF 'cylinderlaw37.PrinterOdd'. -/
def printerOddCard : Claim7 := { stood := { row := printerOddRow, standIns := [], harness := (true, "dcd7c734f29148bad502097fc9eff3da888994e9c4abfb357a8007f4ac70284f"), looks := true }, kinds := [], alts := [], laidByText := true, laidKinds := [.data, .data, .data], laidTests := true, laidLooks := .later }
def PrinterOddCardSaid : Prop := Claim7.holds Tryd.pinned (.plain (OpenSpec.ofChange printerOddSpec)) printerOddCard

/-- THE TIED CARD OF 'cylinderlaw37.PrinterCanonical'. -/
def printerCanonicalCard : Claim7 := { stood := { row := printerCanonicalRow, standIns := [], harness := (true, "dcd7c734f29148bad502097fc9eff3da888994e9c4abfb357a8007f4ac70284f"), looks := true }, kinds := [], alts := [], laidByText := true, laidKinds := [.data, .data, .data], laidTests := true, laidLooks := .later }
def PrinterCanonicalCardSaid : Prop := Claim7.holds Tryd.pinned (.plain (OpenSpec.ofChange printerCanonicalSpec)) printerCanonicalCard

/-- THE SECOND FORM's CARD OF 'cylinderlaw37.PrinterFormats'. -/
def printerFormatsUptoCard : Claim7 := { stood := { row := printerFormatsUptoRow, standIns := [], harness := (true, "dcd7c734f29148bad502097fc9eff3da888994e9c4abfb357a8007f4ac70284f"), looks := true }, kinds := [], alts := [], laidByText := true, laidKinds := [.data, .data, .data], laidTests := true, laidLooks := .later }
def PrinterFormatsUptoCardSaid : Prop := Claim7.holds Tryd.pinned (.plain (OpenSpec.upto printerFormatsSpec)) printerFormatsUptoCard

/-- THE SECOND FORM's CARD OF 'cylinderlaw37.PrinterTerms'. -/
def printerTermsUptoCard : Claim7 := { stood := { row := printerTermsUptoRow, standIns := [], harness := (true, "dcd7c734f29148bad502097fc9eff3da888994e9c4abfb357a8007f4ac70284f"), looks := true }, kinds := [], alts := [], laidByText := true, laidKinds := [.data, .data, .data], laidTests := true, laidLooks := .later }
def PrinterTermsUptoCardSaid : Prop := Claim7.holds Tryd.pinned (.plain (OpenSpec.upto printerTermsSpec)) printerTermsUptoCard

/-- THE SECOND FORM's CARD OF 'cylinderlaw37.PrinterOdd'. -/
def printerOddUptoCard : Claim7 := { stood := { row := printerOddUptoRow, standIns := [], harness := (true, "dcd7c734f29148bad502097fc9eff3da888994e9c4abfb357a8007f4ac70284f"), looks := true }, kinds := [], alts := [], laidByText := true, laidKinds := [.data, .data, .data], laidTests := true, laidLooks := .later }
def PrinterOddUptoCardSaid : Prop := Claim7.holds Tryd.pinned (.plain (OpenSpec.upto printerOddSpec)) printerOddUptoCard

/-- THE SECOND FORM's CARD OF 'cylinderlaw37.PrinterCanonical'. -/
def printerCanonicalUptoCard : Claim7 := { stood := { row := printerCanonicalUptoRow, standIns := [], harness := (true, "dcd7c734f29148bad502097fc9eff3da888994e9c4abfb357a8007f4ac70284f"), looks := true }, kinds := [], alts := [], laidByText := true, laidKinds := [.data, .data, .data], laidTests := true, laidLooks := .later }
def PrinterCanonicalUptoCardSaid : Prop := Claim7.holds Tryd.pinned (.plain (OpenSpec.upto printerCanonicalSpec)) printerCanonicalUptoCard
end Rows
end Go.Proofs.YtkjbfomokdjbnaaDoor
