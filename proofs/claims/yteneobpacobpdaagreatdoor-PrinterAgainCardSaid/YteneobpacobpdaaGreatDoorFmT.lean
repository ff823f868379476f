/-
  The reference's Is: whether a tree is that of a term, or of a formula.
-/
import Derived.Test.YteneobpacobpdaaGreatDoorFmL
import Derived.Lib.QuietBelow
import Derived.Lib.SlicesS
namespace Go.Proofs.YteneobpacobpdaaGreatDoor
open Go.RowKit
set_option linter.unusedSimpArgs false
set_option linter.unusedVariables false
namespace Fm

def badH (h : Hd) : Prop := (h.k = 7 ∧ h.exp < 0) ∨ (h.k = 9 ∧ (h.rel < 1 ∨ 6 < h.rel))
instance (h : Hd) : Decidable (badH h) := by unfold badH; infer_instance
end Fm
end Go.Proofs.YteneobpacobpdaaGreatDoor

/-
  The reference's Same: equality of trees.
-/
namespace Go.Proofs.YteneobpacobpdaaGreatDoor
open Go.RowKit
open Go.Sort
set_option linter.unusedSimpArgs false
set_option linter.unusedVariables false
namespace Fm

theorem drop_same {ks js : List Tr} {i : Nat} {a b : Tr} (h1 : ks[i]? = some a) (h2 : js[i]? = some b) : (ks.drop i = js.drop i) ↔ (a = b ∧ ks.drop (i + 1) = js.drop (i + 1)) := by
  rw [drop_at h1, drop_at h2]; simp

end Fm
end Go.Proofs.YteneobpacobpdaaGreatDoor
