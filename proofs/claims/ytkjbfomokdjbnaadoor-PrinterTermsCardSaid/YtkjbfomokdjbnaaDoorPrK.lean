/-
  The canonical formula of the printer: the same names and atoms; made again it is the same. Plain Lean.
-/
import Derived.Test.YtkjbfomokdjbnaaDoorPrL
namespace Go.Proofs.YtkjbfomokdjbnaaDoor
open Go.RowKit
set_option linter.unusedSimpArgs false
set_option linter.unusedVariables false
namespace Pr
open Fm Dc
end Pr
end Go.Proofs.YtkjbfomokdjbnaaDoor
