/-
  formula.fresh: a formula built anew from its canonical tree.
-/
import Derived.Test.YtkjbfomokdjbnaaDoorFmPF
import Derived.Test.YtkjbfomokdjbnaaDoorFmT2
import Derived.Test.YtkjbfomokdjbnaaDoorFmOf
namespace Go.Proofs.YtkjbfomokdjbnaaDoor
open Go.RowKit

set_option linter.unusedSimpArgs false
set_option linter.unusedVariables false
namespace Fm

theorem ofF_rf {t : Tr} {f : Fo} (h : RF t f) : ofF t = some f := by
  induction h with
  | truth h hk => unfold ofF; rw [if_pos (by simp [kidsF, hk])]; unfold ofFs; simp [mkF, hk]
  | atom h a b p q hk hr ha hb => unfold ofF; rw [if_pos (by simp [kidsF, hk]; omega)]; unfold ofTs ofTs ofTs; simp [mkA, hk, ofT_rt ha, ofT_rt hb]
  | not h a p hk ha ia => unfold ofF; rw [if_pos (by simp [kidsF, hk])]; unfold ofFs ofFs; simp [mkF, hk, ia]
  | and h a b p q hk ha hb ia ib => unfold ofF; rw [if_pos (by simp [kidsF, hk])]; unfold ofFs ofFs ofFs; simp [mkF, hk, ia, ib]
  | or h a b p q hk ha hb ia ib => unfold ofF; rw [if_pos (by simp [kidsF, hk])]; unfold ofFs ofFs ofFs; simp [mkF, hk, ia, ib]
  | implies h a b p q hk ha hb ia ib => unfold ofF; rw [if_pos (by simp [kidsF, hk])]; unfold ofFs ofFs ofFs; simp [mkF, hk, ia, ib]
  | iff h a b p q hk ha hb ia ib => unfold ofF; rw [if_pos (by simp [kidsF, hk])]; unfold ofFs ofFs ofFs; simp [mkF, hk, ia, ib]
  | quant h a p hk ha ia => unfold ofF; rw [if_pos (by simp [kidsF, hk])]; unfold ofFs ofFs; simp [mkF, hk, ia]
theorem canonH_small (h : Hd) (h1 : h.abs.length ≤ 20) (h2 : h.name.size ≤ 40) : (canonH h).abs.length ≤ 20 ∧ (canonH h).name.size ≤ 40 := by
  have ht : (trimN h.abs).length ≤ 20 := by unfold trimN; rw [List.length_take]; omega
  have h0 : (⟨#[]⟩ : ByteArray).size = 0 := rfl
  unfold canonH
  split
  · exact ⟨ht, by simp [hd0, h0]⟩
  all_goals (try split)
  all_goals (try split)
  all_goals (try split)
  all_goals (try split)
  all_goals (try split)
  all_goals (simp [hd0, h0]; try omega)
mutual
theorem sm_canon : ∀ {t : Tr}, Sm t → Sm (canonT t)
  | .mk h ks, hs => by
    unfold Sm at hs
    rw [canonT_mk]; unfold Sm
    exact ⟨(canonH_small h hs.1 hs.2.1).1, (canonH_small h hs.1 hs.2.1).2, smL_canon hs.2.2⟩
theorem smL_canon : ∀ {ks : List Tr}, SmL ks → SmL (canonL ks)
  | [], _ => by unfold canonL SmL; trivial
  | k :: ks, hs => by
    unfold SmL at hs
    unfold canonL SmL
    exact ⟨sm_canon hs.1, smL_canon hs.2⟩
end

end Fm
end Go.Proofs.YtkjbfomokdjbnaaDoor
