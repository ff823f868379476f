/-
  The parser: quant.
-/
import Derived.Test.YtkjbfomokdjbnaaGreatDoorPaI
namespace Go.Proofs.YtkjbfomokdjbnaaGreatDoor
open Go.RowKit
set_option linter.unusedSimpArgs false
set_option linter.unusedVariables false
namespace Pa
open Lx Fm Dc
attribute [local go_sem] run_store fieldTok0 fieldTok2
attribute [local go_sem] anF_Num anF_Name anF_Add anF_Sub anF_Mul anF_Neg anF_Pow anF_Truth anF_Atom anF_Not anF_And anF_Or anF_Implies anF_Iff anF_Quant anT_Num anT_Name anT_Add anT_Sub anT_Mul anT_Neg anT_Pow

/-! ### quant -/
end Pa
end Go.Proofs.YtkjbfomokdjbnaaGreatDoor

/-
  The parser: atom.
-/
namespace Go.Proofs.YtkjbfomokdjbnaaGreatDoor
open Go.RowKit
set_option linter.unusedSimpArgs false
set_option linter.unusedVariables false
namespace Pa
open Lx Fm Dc
attribute [local go_sem] run_store fieldTok0 fieldTok2
attribute [local go_sem] anF_Num anF_Name anF_Add anF_Sub anF_Mul anF_Neg anF_Pow anF_Truth anF_Atom anF_Not anF_And anF_Or anF_Implies anF_Iff anF_Quant anT_Num anT_Name anT_Add anT_Sub anT_Mul anT_Neg anT_Pow

/-! ### atom -/
end Pa
end Go.Proofs.YtkjbfomokdjbnaaGreatDoor
