/-
  formula.fresh: a formula built anew from its canonical tree.
-/
import Derived.Test.YtkjbfomokdjbnaaDoorFmPF
import Derived.Test.YtkjbfomokdjbnaaDoorFmV
import Derived.Test.YtkjbfomokdjbnaaDoorFmOf
namespace Go.Proofs.YtkjbfomokdjbnaaDoor
open Go.RowKit

set_option linter.unusedSimpArgs false
set_option linter.unusedVariables false
namespace Fm

theorem canonL_one' (a : Tr) : canonL [a] = [canonT a] := canonL_one a
theorem rt_canon {t : Tr} {p : Tm} (h : RT t p) : RT (canonT t) p := by
  induction h with
  | num h hk =>
    rw [canonT_mk, show canonH h = { hd0 1 with neg := normB h.neg h.abs, abs := trimN h.abs } by unfold canonH; simp [hk]]
    unfold canonL
    have hh := RT.num { hd0 1 with neg := normB h.neg h.abs, abs := trimN h.abs } rfl
    simp only [normB_idem, trimN_idem] at hh
    exact hh
  | name h hk =>
    rw [canonT_mk, show canonH h = { hd0 2 with name := h.name } by unfold canonH; simp [hk]]
    unfold canonL
    exact RT.name { hd0 2 with name := h.name } rfl
  | add h a b p q hk ha hb ia ib => rw [canonT_mk, show canonH h = hd0 3 by unfold canonH; simp [hk], canonL_two]; exact RT.add (hd0 3) _ _ p q rfl ia ib
  | sub h a b p q hk ha hb ia ib => rw [canonT_mk, show canonH h = hd0 4 by unfold canonH; simp [hk], canonL_two]; exact RT.sub (hd0 4) _ _ p q rfl ia ib
  | mul h a b p q hk ha hb ia ib => rw [canonT_mk, show canonH h = hd0 5 by unfold canonH; simp [hk], canonL_two]; exact RT.mul (hd0 5) _ _ p q rfl ia ib
  | neg h a p hk ha ia => rw [canonT_mk, show canonH h = hd0 6 by unfold canonH; simp [hk], canonL_one]; exact RT.neg (hd0 6) _ p rfl ia
  | pow h a p hk he ha ia => rw [canonT_mk, show canonH h = { hd0 7 with exp := h.exp } by unfold canonH; simp [hk], canonL_one]; exact RT.pow { hd0 7 with exp := h.exp } _ p rfl he ia
theorem rf_canon {t : Tr} {f : Fo} (h : RF t f) : RF (canonT t) f := by
  induction h with
  | truth h hk =>
    rw [canonT_mk, show canonH h = { hd0 8 with truth := h.truth } by unfold canonH; simp [hk]]
    unfold canonL
    exact RF.truth { hd0 8 with truth := h.truth } rfl
  | atom h a b p q hk hr ha hb => rw [canonT_mk, show canonH h = { hd0 9 with rel := h.rel } by unfold canonH; simp [hk], canonL_two]; exact RF.atom { hd0 9 with rel := h.rel } _ _ p q rfl hr (rt_canon ha) (rt_canon hb)
  | not h a p hk ha ia => rw [canonT_mk, show canonH h = hd0 10 by unfold canonH; simp [hk], canonL_one]; exact RF.not (hd0 10) _ p rfl ia
  | and h a b p q hk ha hb ia ib => rw [canonT_mk, show canonH h = hd0 11 by unfold canonH; simp [hk], canonL_two]; exact RF.and (hd0 11) _ _ p q rfl ia ib
  | or h a b p q hk ha hb ia ib => rw [canonT_mk, show canonH h = hd0 12 by unfold canonH; simp [hk], canonL_two]; exact RF.or (hd0 12) _ _ p q rfl ia ib
  | implies h a b p q hk ha hb ia ib => rw [canonT_mk, show canonH h = hd0 13 by unfold canonH; simp [hk], canonL_two]; exact RF.implies (hd0 13) _ _ p q rfl ia ib
  | iff h a b p q hk ha hb ia ib => rw [canonT_mk, show canonH h = hd0 14 by unfold canonH; simp [hk], canonL_two]; exact RF.iff (hd0 14) _ _ p q rfl ia ib
  | quant h a p hk ha ia => rw [canonT_mk, show canonH h = { hd0 15 with all := h.all, name := h.name } by unfold canonH; simp [hk], canonL_one]; exact RF.quant { hd0 15 with all := h.all, name := h.name } _ p rfl ia
theorem ofF_rf {t : Tr} {f : Fo} (h : RF t f) : ofF t = some f := by
  induction h with
  | truth h hk => unfold ofF; rw [if_pos (by simp [kidsF, hk])]; unfold ofFs; simp [mkF, hk]
  | atom h a b p q hk hr ha hb => unfold ofF; rw [if_pos (by simp [kidsF, hk]; omega)]; unfold ofTs ofTs ofTs; simp [mkA, hk, ofT_rt ha, ofT_rt hb]
  | not h a p hk ha ia => unfold ofF; rw [if_pos (by simp [kidsF, hk])]; unfold ofFs ofFs; simp [mkF, hk, ia]
  | and h a b p q hk ha hb ia ib => unfold ofF; rw [if_pos (by simp [kidsF, hk])]; unfold ofFs ofFs ofFs; simp [mkF, hk, ia, ib]
  | or h a b p q hk ha hb ia ib => unfold ofF; rw [if_pos (by simp [kidsF, hk])]; unfold ofFs ofFs ofFs; simp [mkF, hk, ia, ib]
  | implies h a b p q hk ha hb ia ib => unfold ofF; rw [if_pos (by simp [kidsF, hk])]; unfold ofFs ofFs ofFs; simp [mkF, hk, ia, ib]
  | iff h a b p q hk ha hb ia ib => unfold ofF; rw [if_pos (by simp [kidsF, hk])]; unfold ofFs ofFs ofFs; simp [mkF, hk, ia, ib]
  | quant h a p hk ha ia => unfold ofF; rw [if_pos (by simp [kidsF, hk])]; unfold ofFs ofFs; simp [mkF, hk, ia]
theorem canonH_small (h : Hd) (h1 : h.abs.length ≤ 20) (h2 : h.name.size ≤ 40) : (canonH h).abs.length ≤ 20 ∧ (canonH h).name.size ≤ 40 := by
  have ht : (trimN h.abs).length ≤ 20 := by unfold trimN; rw [List.length_take]; omega
  have h0 : (⟨#[]⟩ : ByteArray).size = 0 := rfl
  unfold canonH
  split
  · exact ⟨ht, by simp [hd0, h0]⟩
  all_goals (try split)
  all_goals (try split)
  all_goals (try split)
  all_goals (try split)
  all_goals (try split)
  all_goals (simp [hd0, h0]; try omega)
mutual
theorem sm_canon : ∀ {t : Tr}, Sm t → Sm (canonT t)
  | .mk h ks, hs => by
    unfold Sm at hs
    rw [canonT_mk]; unfold Sm
    exact ⟨(canonH_small h hs.1 hs.2.1).1, (canonH_small h hs.1 hs.2.1).2, smL_canon hs.2.2⟩
theorem smL_canon : ∀ {ks : List Tr}, SmL ks → SmL (canonL ks)
  | [], _ => by unfold canonL SmL; trivial
  | k :: ks, hs => by
    unfold SmL at hs
    unfold canonL SmL
    exact ⟨sm_canon hs.1, smL_canon hs.2⟩
end

end Fm
end Go.Proofs.YtkjbfomokdjbnaaDoor
