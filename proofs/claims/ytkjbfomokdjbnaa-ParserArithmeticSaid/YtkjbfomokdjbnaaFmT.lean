/-
  The reference's Same: equality of trees.
-/
import Derived.Test.YtkjbfomokdjbnaaFmS
import Derived.Lib.QuietBelow
import Derived.Lib.SlicesS
namespace Go.Proofs.Ytkjbfomokdjbnaa
open Go.RowKit
open Go.Sort
set_option linter.unusedSimpArgs false
set_option linter.unusedVariables false
namespace Fm

theorem drop_same {ks js : List Tr} {i : Nat} {a b : Tr} (h1 : ks[i]? = some a) (h2 : js[i]? = some b) : (ks.drop i = js.drop i) ↔ (a = b ∧ ks.drop (i + 1) = js.drop (i + 1)) := by
  rw [drop_at h1, drop_at h2]; simp

end Fm
end Go.Proofs.Ytkjbfomokdjbnaa
