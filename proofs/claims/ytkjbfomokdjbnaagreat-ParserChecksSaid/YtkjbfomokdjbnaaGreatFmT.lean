/-
  The reference's Is: whether a tree is that of a term, or of a formula.
-/
import Derived.Test.YtkjbfomokdjbnaaGreatFmL
import Derived.Lib.QuietBelow
import Derived.Lib.SlicesS
namespace Go.Proofs.YtkjbfomokdjbnaaGreat
open Go.RowKit
set_option linter.unusedSimpArgs false
set_option linter.unusedVariables false
namespace Fm

def termK (k : Int) : Bool := decide (1 ≤ k) && decide (k ≤ 7)
def badH (h : Hd) : Prop := (h.k = 7 ∧ h.exp < 0) ∨ (h.k = 9 ∧ (h.rel < 1 ∨ 6 < h.rel))
instance (h : Hd) : Decidable (badH h) := by unfold badH; infer_instance
mutual
def isF : Tr → Bool → Bool
  | .mk h ks, term => if (kidsN h.k).1 = (ks.length : Int) ∧ termK h.k = term ∧ ¬ badH h then isL ks (kidsN h.k).2 else false
def isL : List Tr → Bool → Bool
  | [], _ => true
  | k :: ks, ts => isF k ts && isL ks ts
end
theorem isF_no (h : Hd) (ks : List Tr) (term : Bool) (hn : ¬ ((kidsN h.k).1 = (ks.length : Int) ∧ termK h.k = term ∧ ¬ badH h)) : isF (.mk h ks) term = false := by unfold isF; rw [if_neg hn]
theorem isF_yes (h : Hd) (ks : List Tr) (term : Bool) (hn : (kidsN h.k).1 = (ks.length : Int) ∧ termK h.k = term ∧ ¬ badH h) : isF (.mk h ks) term = isL ks (kidsN h.k).2 := by
  conv => lhs; unfold isF
  rw [if_pos hn]
theorem isL_cons (k : Tr) (ks : List Tr) (ts : Bool) : isL (k :: ks) ts = (isF k ts && isL ks ts) := by conv => lhs; unfold isL
theorem isL_nil (ts : Bool) : isL [] ts = true := by unfold isL; rfl

end Fm
end Go.Proofs.YtkjbfomokdjbnaaGreat

/-
  The reference's Same: equality of trees.
-/
namespace Go.Proofs.YtkjbfomokdjbnaaGreat
open Go.RowKit
open Go.Sort
set_option linter.unusedSimpArgs false
set_option linter.unusedVariables false
namespace Fm

theorem drop_same {ks js : List Tr} {i : Nat} {a b : Tr} (h1 : ks[i]? = some a) (h2 : js[i]? = some b) : (ks.drop i = js.drop i) ↔ (a = b ∧ ks.drop (i + 1) = js.drop (i + 1)) := by
  rw [drop_at h1, drop_at h2]; simp

end Fm
end Go.Proofs.YtkjbfomokdjbnaaGreat
