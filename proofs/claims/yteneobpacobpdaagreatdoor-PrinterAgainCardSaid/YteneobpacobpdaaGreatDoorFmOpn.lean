/-
  An argument that is a tree, opened.
-/
import Derived.Test.YteneobpacobpdaaGreatDoorMem
import Derived.Test.YteneobpacobpdaaGreatDoorFmO
namespace Go.Proofs.YteneobpacobpdaaGreatDoor
open Go.RowKit Go.ChangeShapes Go.WideShapes
set_option linter.unusedSimpArgs false
set_option linter.unusedVariables false
namespace Fm

section
variable {H : Type} {enc : TypeId × Value → H} {w : World} {base : Nat} {spare : Nat → Bool} {held : Bool}

end
end Fm
end Go.Proofs.YteneobpacobpdaaGreatDoor

/-
  An argument that is a tree, opened: its exponents and limbs lie in the range of their types.
-/
namespace Go.Proofs.YteneobpacobpdaaGreatDoor
open Go.RowKit Go.ChangeShapes Go.WideShapes
set_option linter.unusedSimpArgs false
set_option linter.unusedVariables false
namespace Fm
def WfH (h : Hd) : Prop := (Lit.int .i64 h.exp).wf = true ∧ ∀ x ∈ h.abs, x < 4294967296
mutual
def WfT : Tr → Prop
  | .mk h ks => WfH h ∧ WfL ks
def WfL : List Tr → Prop
  | [] => True
  | k :: ks => WfT k ∧ WfL ks
end
theorem WfT.of {h : Hd} {ks : List Tr} (hh : WfH h) (hk : WfL ks) : WfT (.mk h ks) := by unfold WfT; exact ⟨hh, hk⟩
theorem WfL.nil : WfL [] := by unfold WfL; trivial
section
variable {H : Type} {enc : TypeId × Value → H} {w : World} {base : Nat} {spare : Nat → Bool} {held : Bool}
end
end Fm
end Go.Proofs.YteneobpacobpdaaGreatDoor
