/-
  cylinderlaw37.awake.
-/
import Derived.Test.YtkjbfomokdjbnaaDoorPrG
namespace Go.Proofs.YtkjbfomokdjbnaaDoor
open Go.RowKit
set_option linter.unusedSimpArgs false
set_option linter.unusedVariables false
namespace Pr
open Fm Dc
attribute [local go_sem] run_store
abbrev xN : ByteArray := ⟨#[120]⟩
def awF : Fo := .not (.atom (.name xN) 1 (.name xN))
theorem awF_named : nmdT (plainF awF) = true := by kernel_rfl
theorem awF_text : txtF (prF awF) = [110, 111, 116, 32, 120, 32, 60, 32, 120] := by kernel_rfl
theorem awF_exp : expF (prF awF) = [] := by kernel_rfl
theorem xN_at (w : World) : TmAt w (fun _ => False) (.name xN) (.iface 47 (.agg #[.string xN])) := ⟨rfl, by decide⟩
theorem awF_at (w : World) : FoAt w (fun _ => False) awF (.iface 68 (.agg #[.iface 51 (.agg #[.iface 47 (.agg #[.string xN]), .int .i64 1, .iface 47 (.agg #[.string xN])])])) :=
  ⟨_, rfl, _, _, rfl, xN_at w, xN_at w⟩
mutual
def smB : Tr → Bool
  | .mk h ks => decide (h.abs.length ≤ 20) && (decide (h.name.size ≤ 40) && smBL ks)
def smBL : List Tr → Bool
  | [] => true
  | k :: ks => smB k && smBL ks
end
mutual
theorem smB_sm : ∀ t : Tr, smB t = true → Sm t
  | .mk h ks, e => by
    unfold smB at e
    simp only [Bool.and_eq_true, decide_eq_true_eq] at e
    unfold Sm
    exact ⟨e.1, e.2.1, smBL_sm ks e.2.2⟩
theorem smBL_sm : ∀ ks : List Tr, smBL ks = true → SmL ks
  | [], _ => by unfold SmL; trivial
  | k :: ks, e => by
    unfold smBL at e
    simp only [Bool.and_eq_true] at e
    unfold SmL
    exact ⟨smB_sm k e.1, smBL_sm ks e.2⟩
end
theorem awF_sm : Sm (plainF awF) := smB_sm _ (by kernel_rfl)
set_option maxHeartbeats 2000000 in
set_option maxRecDepth 100000 in
theorem awake_any (w : World) : Calls Tryd.prog 7 #[] w fun e w' => e = .returned (.bool true) ∧ Below w.heap.size w w' := by
  have HF := Lib.hid (fun w' => format_ok awF _ _ w' (fun b h => h.elim) (awF_at w') ⟨trivial, trivial⟩ awF_sm awF_named (by rw [awF_exp]; simp) (by rw [awF_text]; decide) ⟨#[110, 111, 116, 32, 120, 32, 60, 32, 120]⟩ (by rw [awF_text]; rfl))
  go_enter Tryd.func7, Tryd.ntmps7
  go_wp2_with fail
  refine (HF.out _).mono ?_
  rintro e w1 ⟨rfl, hb⟩
  have HB := Lib.hid hb
  clear hb
  go_wp2
  go_ret
  exact ⟨rfl, ((Below.refl _ w).alloc (Nat.le_refl _) _).trans (HB.out.mono (by simp))⟩
theorem itoa_zero (w0 : World) : ItW w0 0 := by
  intro w hb
  have he : fmtS false (0 : Int).toNat = ⟨#[48]⟩ := by kernel_rfl
  rw [he]
  clear he hb
  go_enter Tryd.func64, Tryd.ntmps64
  go_wp2
  go_ret
  exact ⟨rfl, Below.refl _ _⟩
end Pr
end Go.Proofs.YtkjbfomokdjbnaaDoor
