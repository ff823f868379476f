/-
  formula.Plain: the tree of a formula.
-/
import Derived.Test.YtkjbfomokdjbnaaDoorFmP
namespace Go.Proofs.YtkjbfomokdjbnaaDoor
open Go.RowKit
set_option linter.unusedSimpArgs false
set_option linter.unusedVariables false
namespace Fm
attribute [local go_sem] run_store taTruth_yes taTruth_no taTruth_nil taAtom_yes taAtom_no taAtom_nil taNot_yes taNot_no taNot_nil taAnd_yes taAnd_no taAnd_nil taOr_yes taOr_no taOr_nil taImplies_yes taImplies_no taImplies_nil taIff_yes taIff_no taIff_nil taQuant_yes taQuant_no taQuant_nil

def relR (r : Int) : Int := if r < 1 ∨ 6 < r then 3 else r
def plainF : Fo → Tr
  | .odd => .mk (hd0 8) []
  | .truth b => .mk { hd0 8 with truth := b } []
  | .atom l rel r => .mk { hd0 9 with rel := relR rel } [plainT l, plainT r]
  | .not f => .mk (hd0 10) [plainF f]
  | .and l r => .mk (hd0 11) [plainF l, plainF r]
  | .or l r => .mk (hd0 12) [plainF l, plainF r]
  | .implies l r => .mk (hd0 13) [plainF l, plainF r]
  | .iff l r => .mk (hd0 14) [plainF l, plainF r]
  | .quant all nm f => .mk { hd0 15 with all := all, name := nm } [plainF f]
/-- its numbers are short -/
def SmF : Fo → Prop
  | .odd => True
  | .truth _ => True
  | .atom l _ r => SmT l ∧ SmT r
  | .not f => SmF f
  | .and l r => SmF l ∧ SmF r
  | .or l r => SmF l ∧ SmF r
  | .implies l r => SmF l ∧ SmF r
  | .iff l r => SmF l ∧ SmF r
  | .quant _ _ f => SmF f

theorem relation_any (r q : Int) (w : World) (hq : q = relR r) : Calls Tryd.prog 37 #[.int .i64 r] w fun e w' => e = .returned (.int .i64 q) ∧ w' = w := by
  unfold relR at hq
  by_cases h1 : r < 1
  · rw [if_pos (.inl h1)] at hq
    subst hq
    go_enter Tryd.func37, Tryd.ntmps37
    go_wp2
    go_ret
    exact ⟨rfl, rfl⟩
  · by_cases h2 : 6 < r
    · rw [if_pos (.inr h2)] at hq
      subst hq
      go_enter Tryd.func37, Tryd.ntmps37
      go_wp2
      go_ret
      exact ⟨rfl, rfl⟩
    · rw [if_neg (by omega)] at hq
      subst hq
      go_enter Tryd.func37, Tryd.ntmps37
      go_wp2
      go_ret
      exact ⟨rfl, rfl⟩


end Fm
end Go.Proofs.YtkjbfomokdjbnaaDoor
