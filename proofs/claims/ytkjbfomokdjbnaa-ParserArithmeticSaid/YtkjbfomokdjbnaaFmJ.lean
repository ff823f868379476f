/-
  The reference's integers: Int, SameInt.
-/
import Derived.Test.YtkjbfomokdjbnaaFmI
import Derived.Test.YtkjbfomokdjbnaaApp
import Derived.Deep.RegionLaw
namespace Go.Proofs.Ytkjbfomokdjbnaa
open Go.RowKit
set_option linter.unusedSimpArgs false
set_option linter.unusedVariables false
namespace Fm

theorem _root_.Go.RowKit.Below.drewN {B : Nat} {a w : World} (h : Below B a w) (n : Nat) : Below B a (w.drewN n) := ⟨h.os, h.tape, h.output, h.size, h.block⟩

theorem trim_stop {l : List Nat} {m : Nat} (hm : m ≤ l.length) (h1 : trimLen l m = trimLen l l.length) (h2 : m = 0 ∨ l.getD (m - 1) 1 ≠ 0) : m = trimLen l l.length := by
  have e : trimLen l m = m := by
    rcases h2 with rfl | h2
    · rfl
    · cases m with
      | zero => rfl
      | succ m => unfold trimLen; rw [if_neg (by simpa using h2)]
  rw [← h1, e]
theorem trim_step {l : List Nat} {m : Nat} (hm : m + 1 ≤ l.length) (h1 : trimLen l (m + 1) = trimLen l l.length) (h2 : l.getD m 1 = 0) : trimLen l m = trimLen l l.length := by
  rw [← h1]
  conv => rhs; unfold trimLen
  rw [if_pos h2]

theorem list_ne_at {a b : List Nat} (hl : a.length = b.length) (h : a ≠ b) : ∃ i, i < a.length ∧ a.getD i 0 ≠ b.getD i 0 := by
  apply Classical.byContradiction
  intro hn
  apply h
  apply List.ext_getElem hl
  intro i h1 h2
  apply Classical.byContradiction
  intro hne
  exact hn ⟨i, h1, by simp [List.getD, h1, h2]; exact hne⟩

end Fm
end Go.Proofs.Ytkjbfomokdjbnaa
