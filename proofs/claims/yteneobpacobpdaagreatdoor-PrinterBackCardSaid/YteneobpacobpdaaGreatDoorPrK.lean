/-
  The canonical formula of the printer: the same names and atoms; made again it is the same. Plain Lean.
-/
import Derived.Test.YteneobpacobpdaaGreatDoorPrL
set_option linter.unusedSimpArgs false
set_option linter.unusedVariables false
namespace Go.Proofs.YteneobpacobpdaaGreatDoor
open Go.RowKit
namespace Pr
open Fm Dc
theorem namesT_le : ∀ t : Tm, (namesT t).length ≤ tn t
 | .odd => Nat.zero_le _
 | .num n l => Nat.zero_le _
 | .name s => Nat.le_refl _
 | .add l r => by have := namesT_le l; have := namesT_le r; show (namesT l ++ namesT r).length ≤ tn l + tn r + 1; rw [List.length_append]; omega
 | .sub l r => by have := namesT_le l; have := namesT_le r; show (namesT l ++ namesT r).length ≤ tn l + tn r + 1; rw [List.length_append]; omega
 | .mul l r => by have := namesT_le l; have := namesT_le r; show (namesT l ++ namesT r).length ≤ tn l + tn r + 1; rw [List.length_append]; omega
 | .neg t => by have := namesT_le t; show (namesT t).length ≤ tn t + 1; omega
 | .pow t e => by have := namesT_le t; show (namesT t).length ≤ tn t + 1; omega
theorem fsz_le : ∀ f : Fo, fsz f ≤ fnn f
 | .odd => Nat.le_refl _
 | .truth b => Nat.le_refl _
 | .atom l e r => by have := namesT_le l; have := namesT_le r; show (namesT l).length + (namesT r).length + 1 ≤ tn l + tn r + 1; omega
 | .not f => by have := fsz_le f; show fsz f + 1 ≤ fnn f + 1; omega
 | .and l r => by have := fsz_le l; have := fsz_le r; show fsz l + fsz r + 1 ≤ fnn l + fnn r + 1; omega
 | .or l r => by have := fsz_le l; have := fsz_le r; show fsz l + fsz r + 1 ≤ fnn l + fnn r + 1; omega
 | .implies l r => by have := fsz_le l; have := fsz_le r; show fsz l + fsz r + 1 ≤ fnn l + fnn r + 1; omega
 | .iff l r => by have := fsz_le l; have := fsz_le r; show fsz l + fsz r + 1 ≤ fnn l + fnn r + 1; omega
 | .quant a n f => by have := fsz_le f; show fsz f + 1 ≤ fnn f + 1; omega
end Pr
end Go.Proofs.YteneobpacobpdaaGreatDoor
