/-
  formula.fresh: a formula built anew from its canonical tree.
-/
import Derived.Test.YteneobpacobpdaaGreatDoorFmPF
import Derived.Test.YteneobpacobpdaaGreatDoorFmT2
import Derived.Test.YteneobpacobpdaaGreatDoorFmOf
namespace Go.Proofs.YteneobpacobpdaaGreatDoor
open Go.RowKit

set_option linter.unusedSimpArgs false
set_option linter.unusedVariables false
namespace Fm

theorem ofF_rf {t : Tr} {f : Fo} (h : RF t f) : ofF t = some f := by
  induction h with
  | truth h hk => unfold ofF; rw [if_pos (by simp [kidsF, hk])]; unfold ofFs; simp [mkF, hk]
  | atom h a b p q hk hr ha hb => unfold ofF; rw [if_pos (by simp [kidsF, hk]; omega)]; unfold ofTs ofTs ofTs; simp [mkA, hk, ofT_rt ha, ofT_rt hb]
  | not h a p hk ha ia => unfold ofF; rw [if_pos (by simp [kidsF, hk])]; unfold ofFs ofFs; simp [mkF, hk, ia]
  | and h a b p q hk ha hb ia ib => unfold ofF; rw [if_pos (by simp [kidsF, hk])]; unfold ofFs ofFs ofFs; simp [mkF, hk, ia, ib]
  | or h a b p q hk ha hb ia ib => unfold ofF; rw [if_pos (by simp [kidsF, hk])]; unfold ofFs ofFs ofFs; simp [mkF, hk, ia, ib]
  | implies h a b p q hk ha hb ia ib => unfold ofF; rw [if_pos (by simp [kidsF, hk])]; unfold ofFs ofFs ofFs; simp [mkF, hk, ia, ib]
  | iff h a b p q hk ha hb ia ib => unfold ofF; rw [if_pos (by simp [kidsF, hk])]; unfold ofFs ofFs ofFs; simp [mkF, hk, ia, ib]
  | quant h a p hk ha ia => unfold ofF; rw [if_pos (by simp [kidsF, hk])]; unfold ofFs ofFs; simp [mkF, hk, ia]

end Fm
end Go.Proofs.YteneobpacobpdaaGreatDoor
