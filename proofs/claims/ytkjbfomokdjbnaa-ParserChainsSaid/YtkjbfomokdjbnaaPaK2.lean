/-
  What Parse gives for a chain.
-/
import Derived.Test.YtkjbfomokdjbnaaPaK1
import Derived.Test.YtkjbfomokdjbnaaPaX
namespace Go.Proofs.Ytkjbfomokdjbnaa
open Go.RowKit
set_option linter.unusedSimpArgs false
set_option linter.unusedVariables false
namespace Pa
open Lx Fm Dc
theorem chain_parse (ops : List Nat) (h4 : ∀ k ∈ ops, k < 4) (hl : ops.length ≤ 15) : ∃ x, ParseR (.iff false) fm (chS ops) (some (.fo x)) 0 0 ∧ Top x ops := by
  obtain ⟨T, hlx, hT⟩ := lex_chS ops hl
  obtain ⟨x, s', hb, hd, ho, ht⟩ := chain_all T ops s0 h4 hT
  refine ⟨x, ?_, ht⟩
  unfold ParseR
  rw [hlx, if_neg (by simp)]
  refine ⟨some (.fo x), s', hb, ?_, rfl⟩
  have h1 : ¬ s'.next < T.length := by have := List.drop_eq_nil_iff.1 hd; omega
  unfold verd
  rw [if_neg h1, if_neg (by simp [fm]), if_neg (by rw [ho]; simp [s0])]
/-- the tree of a chain -/
theorem mkC_tree (k : Nat) (l r : Fo) (hk : k < 4) : plainF (mkC k l r) = .mk (hd0 (11 + k)) [plainF l, plainF r] := by
  match k, hk with
  | 0, _ => rfl
  | 1, _ => rfl
  | 2, _ => rfl
  | 3, _ => rfl
end Pa
end Go.Proofs.Ytkjbfomokdjbnaa
