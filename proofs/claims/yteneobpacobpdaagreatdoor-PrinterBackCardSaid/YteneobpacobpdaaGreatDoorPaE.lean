/-
  The parser as a program in plain Lean, on the tokens that are left; what it finds holds of the relation.
-/
import Derived.Test.YteneobpacobpdaaGreatDoorPaX
import Derived.Test.YteneobpacobpdaaGreatDoorFmT2
set_option linter.unusedSimpArgs false
set_option linter.unusedVariables false
namespace Go.Proofs.YteneobpacobpdaaGreatDoor
open Go.RowKit
namespace Pa
open Lx Fm Dc
end Pa
end Go.Proofs.YteneobpacobpdaaGreatDoor
namespace Go.Proofs.YteneobpacobpdaaGreatDoor
open Go.RowKit
namespace Pa
open Lx Fm Dc
theorem field_kind36 (x0 x1 x2 x3 x4 x5 x6 x7 x8 : Value) (w : World) : (Instr.field 39 (.agg #[x0, x1, x2, x3, x4, x5, x6, x7, x8]) 0).run Tryz.prog w = .ok x0 w := by kernel_rfl
attribute [local go_sem] run_store field_kind36
abbrev xN : ByteArray := ⟨#[120]⟩
def awF : Fo := .not (.atom (.name xN) 1 (.num false [3]))
end Pa
end Go.Proofs.YteneobpacobpdaaGreatDoor
namespace Go.Proofs.YteneobpacobpdaaGreatDoor
open Go.RowKit
namespace Pa
open Lx Fm Dc
end Pa
end Go.Proofs.YteneobpacobpdaaGreatDoor
