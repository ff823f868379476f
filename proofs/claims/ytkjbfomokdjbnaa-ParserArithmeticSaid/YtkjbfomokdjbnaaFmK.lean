/-
  formula.subterms, formula.parts: what a term, a formula consists of.
-/
import Derived.Test.YtkjbfomokdjbnaaTa
import Derived.Test.YtkjbfomokdjbnaaFmO
namespace Go.Proofs.Ytkjbfomokdjbnaa
open Go.RowKit
set_option linter.unusedSimpArgs false
set_option linter.unusedVariables false
namespace Fm
attribute [local go_sem] run_store taNum_yes taNum_no taNum_nil taName_yes taName_no taName_nil taAdd_yes taAdd_no taAdd_nil taSub_yes taSub_no taSub_nil taMul_yes taMul_no taMul_nil taNeg_yes taNeg_no taNeg_nil taPow_yes taPow_no taPow_nil taTruth_yes taTruth_no taTruth_nil taAtom_yes taAtom_no taAtom_nil taNot_yes taNot_no taNot_nil taAnd_yes taAnd_no taAnd_nil taOr_yes taOr_no taOr_nil taImplies_yes taImplies_no taImplies_nil taIff_yes taIff_no taIff_nil taQuant_yes taQuant_no taQuant_nil

theorem cells_one {v : Value} (h : v.oneCell' = true) : v.cells = #[v] := by
  cases v <;> first | rfl | (simp [Value.oneCell'] at h)
/-- a call that gives back a new list of these values -/
def SubPost (vs : List Value) (w : World) (e : Ending) (w' : World) : Prop :=
  ∃ A c, e = .returned (.slice A vs.length c) ∧ SS w' (Fr w w') 1 (.slice A vs.length c) vs.length vs ∧ Below w.heap.size w w'
theorem sub_nil (w : World) : SubPost [] w (.returned (.slice none 0 0)) w := ⟨none, 0, rfl, SS.nil, Below.refl _ w⟩
theorem sub_new {w W : World} (vs : List Value) (o : Obj) (e : TypeId) (ho : o = .cells vs.toArray e) (hb : Below w.heap.size w W) (hs : w.heap.size ≤ W.heap.size) : SubPost vs w (.returned (.slice (some ⟨W.heap.size, 0, none⟩) vs.length vs.length)) (W.alloc o) := by
  subst ho
  refine ⟨some ⟨W.heap.size, 0, none⟩, vs.length, rfl, ⟨_, _, rfl, Nat.le_refl _, by simp, fun _ => ⟨W.heap.size, 0, rfl, ⟨hs, by simp⟩, fun j u hj => ?_⟩⟩, hb.alloc hs _⟩
  rw [Nat.zero_add, cell_new]
  simpa using hj


def subT : Tm → List Tm
  | .add l r => [l, r]
  | .sub l r => [l, r]
  | .mul l r => [l, r]
  | .neg t => [t]
  | .pow t _ => [t]
  | _ => []
def subF : Fo → List Fo
  | .not f => [f]
  | .and l r => [l, r]
  | .or l r => [l, r]
  | .implies l r => [l, r]
  | .iff l r => [l, r]
  | .quant _ _ f => [f]
  | _ => []
/-- values of terms, of formulas -/
def TmsAt (w : World) (S : Nat → Prop) (ts : List Tm) (vs : List Value) : Prop := vs.length = ts.length ∧ ∀ (i : Nat) (t : Tm), ts[i]? = some t → ∃ v, vs[i]? = some v ∧ TmAt w S t v
def FosAt (w : World) (S : Nat → Prop) (ts : List Fo) (vs : List Value) : Prop := vs.length = ts.length ∧ ∀ (i : Nat) (t : Fo), ts[i]? = some t → ∃ v, vs[i]? = some v ∧ FoAt w S t v
theorem TmsAt.nil {w : World} {S : Nat → Prop} : TmsAt w S [] [] := ⟨rfl, fun i t h => by simp at h⟩
theorem TmsAt.one {w : World} {S : Nat → Prop} {t : Tm} {v : Value} (h : TmAt w S t v) : TmsAt w S [t] [v] := ⟨rfl, fun i t' h' => by
  match i with
  | 0 => simp at h'; subst h'; exact ⟨v, rfl, h⟩
  | i + 1 => simp at h'⟩
theorem TmsAt.two {w : World} {S : Nat → Prop} {t u : Tm} {v x : Value} (h : TmAt w S t v) (k : TmAt w S u x) : TmsAt w S [t, u] [v, x] := ⟨rfl, fun i t' h' => by
  match i with
  | 0 => simp at h'; subst h'; exact ⟨v, rfl, h⟩
  | 1 => simp at h'; subst h'; exact ⟨x, rfl, k⟩
  | i + 2 => simp at h'⟩
theorem FosAt.nil {w : World} {S : Nat → Prop} : FosAt w S [] [] := ⟨rfl, fun i t h => by simp at h⟩
theorem FosAt.one {w : World} {S : Nat → Prop} {t : Fo} {v : Value} (h : FoAt w S t v) : FosAt w S [t] [v] := ⟨rfl, fun i t' h' => by
  match i with
  | 0 => simp at h'; subst h'; exact ⟨v, rfl, h⟩
  | i + 1 => simp at h'⟩
theorem FosAt.two {w : World} {S : Nat → Prop} {t u : Fo} {v x : Value} (h : FoAt w S t v) (k : FoAt w S u x) : FosAt w S [t, u] [v, x] := ⟨rfl, fun i t' h' => by
  match i with
  | 0 => simp at h'; subst h'; exact ⟨v, rfl, h⟩
  | 1 => simp at h'; subst h'; exact ⟨x, rfl, k⟩
  | i + 2 => simp at h'⟩
end Fm
end Go.Proofs.Ytkjbfomokdjbnaa
