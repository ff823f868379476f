/-
  formula.walk: it calls use for each name of a formula, from left to right, with the counts of the quantifiers around it.
-/
import Derived.Test.YtkjbfomokdjbnaaDoorFmU
import Derived.Test.YtkjbfomokdjbnaaDoorFmM
import Derived.Lib.QuietBelow
namespace Go.Proofs.YtkjbfomokdjbnaaDoor
open Go.RowKit
set_option linter.unusedSimpArgs false
set_option linter.unusedVariables false
namespace Fm
attribute [local go_sem] run_store taAtom_yes taAtom_no taAtom_nil taQuant_yes taQuant_no taQuant_nil

/-- a function value that may be called with a name while the map at M counts the quantifiers around -/
structure WUse {σ : Type} (fid : FuncId) (caps : Array Value) (J : σ → (Nat → Prop) → World → Prop) (M : Nat) (step : σ → (ByteArray → Int) → ByteArray → σ) (cnt : σ → Nat) : Prop where
  le : ∀ s g nm, cnt (step s g nm) ≤ cnt s + 1
  lt : ∀ {s F W}, J s F W → ∀ b, F b → b < W.heap.size
  keep : ∀ {s F W W'}, J s F W → W.heap.size ≤ W'.heap.size → (∀ b, F b → W'.heap[b]? = W.heap[b]?) → J s F W'
  cf : ∀ args w, (callFunc fid args).run Tryd.prog w = .ok (.enter fid args) w
  call : ∀ s g k F W nm, nm.size ≤ 9223372036854775807 → cnt s < 900000 → J s F W → MapI W M k g → ¬ F M → Calls Tryd.prog fid (#[.string nm] ++ caps) W fun e W' => e = .returned (.tuple #[]) ∧ ∃ F', J (step s g nm) F' W' ∧ Owns W W' F F'

def addM (F : Nat → Prop) (M : Nat) : Nat → Prop := fun b => F b ∨ b = M
section
variable {σ : Type} {fid : FuncId} {caps : Array Value} {J : σ → (Nat → Prop) → World → Prop} {M : Nat} {step : σ → (ByteArray → Int) → ByteArray → σ} {cnt : σ → Nat}
/-- the state behind a piece of the walk -/
def WRel (J : σ → (Nat → Prop) → World → Prop) (M : Nat) (s' : σ) (g : ByteArray → Int) (kmax : Nat) (F : Nat → Prop) (W W' : World) : Prop :=
  ∃ F' k', J s' F' W' ∧ MapI W' M k' g ∧ k' ≤ kmax ∧ ¬ F' M ∧ Owns W W' (addM F M) (addM F' M)
theorem WRel.below {s' : σ} {g : ByteArray → Int} {kmax : Nat} {F : Nat → Prop} {W W' W2 : World} (U : WUse fid caps J M step cnt) (h : WRel J M s' g kmax F W W') (hb : Below W'.heap.size W' W2) : WRel J M s' g kmax F W W2 := by
  obtain ⟨F', k', hJ, hM, hk, hF, ho⟩ := h
  exact ⟨F', k', U.keep hJ hb.size (fun b hF => hb.block b (U.lt hJ b hF)), hM.keep (hb.block _ hM.lt), hk, hF, ho.trans (Owns.of_below hb _)⟩
theorem WRel.start {s : σ} {g : ByteArray → Int} {k : Nat} {F : Nat → Prop} {W : World} (hJ : J s F W) (hM : MapI W M k g) (hF : ¬ F M) : WRel J M s g k F W W := ⟨F, k, hJ, hM, Nat.le_refl _, hF, Owns.refl _ _⟩
theorem WRel.more {s : σ} {g : ByteArray → Int} {k k' : Nat} {F : Nat → Prop} {W W' : World} (h : WRel J M s g k F W W') (hk : k ≤ k') : WRel J M s g k' F W W' := by
  obtain ⟨F', k1, hJ, hM, h1, hF, ho⟩ := h
  exact ⟨F', k1, hJ, hM, Nat.le_trans h1 hk, hF, ho⟩
end
end Fm
end Go.Proofs.YtkjbfomokdjbnaaDoor

/-
  formula.termNodes, Nodes, Atoms: how many.
-/
namespace Go.Proofs.YtkjbfomokdjbnaaDoor
open Go.RowKit Go.Sort
set_option linter.unusedSimpArgs false
set_option linter.unusedVariables false
namespace Fm
attribute [local go_sem] run_store taAtom_yes taAtom_no taAtom_nil

def tn : Tm → Nat
  | .add l r => tn l + tn r + 1
  | .sub l r => tn l + tn r + 1
  | .mul l r => tn l + tn r + 1
  | .neg t => tn t + 1
  | .pow t _ => tn t + 1
  | _ => 1
/-- the nodes of a formula -/
def fnn : Fo → Nat
  | .atom l _ r => tn l + tn r + 1
  | .not f => fnn f + 1
  | .and l r => fnn l + fnn r + 1
  | .or l r => fnn l + fnn r + 1
  | .implies l r => fnn l + fnn r + 1
  | .iff l r => fnn l + fnn r + 1
  | .quant _ _ f => fnn f + 1
  | _ => 1
end Fm
end Go.Proofs.YtkjbfomokdjbnaaDoor

/-
  formula.Nodes at an atom.
-/
namespace Go.Proofs.YtkjbfomokdjbnaaDoor
open Go.RowKit Go.Sort
set_option linter.unusedSimpArgs false
set_option linter.unusedVariables false
namespace Fm
attribute [local go_sem] run_store taAtom_yes taAtom_no taAtom_nil

end Fm
end Go.Proofs.YtkjbfomokdjbnaaDoor
