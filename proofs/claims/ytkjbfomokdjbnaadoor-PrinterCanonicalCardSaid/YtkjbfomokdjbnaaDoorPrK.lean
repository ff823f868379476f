/-
  The canonical formula of the printer: the same names and atoms; made again it is the same. Plain Lean.
-/
import Derived.Test.YtkjbfomokdjbnaaDoorPrL
namespace Go.Proofs.YtkjbfomokdjbnaaDoor
open Go.RowKit
set_option linter.unusedSimpArgs false
set_option linter.unusedVariables false
namespace Pr
open Fm Dc
mutual
theorem pos_idem : ∀ t : Tr, posT (posT t) = posT t
  | .mk h ks => by
    by_cases hq : h.k = 1 ∧ normB h.neg h.abs = true
    · rw [posT_num hq.1 hq.2, posT_one _ (by simp [hd0]), posL_one, posT_mk (fun e => by have h2 := e.2; exact Bool.noConfusion (show false = true from h2))]
      unfold posL
      rfl
    · rw [posT_mk hq, posT_mk hq, posL_idem ks]
theorem posL_idem : ∀ ks : List Tr, posL (posL ks) = posL ks
  | [] => by unfold posL; unfold posL; rfl
  | k :: ks => by
    rw [show posL (k :: ks) = posT k :: posL ks by conv => lhs; unfold posL]
    rw [show posL (posT k :: posL ks) = posT (posT k) :: posL (posL ks) by conv => lhs; unfold posL]
    rw [pos_idem k, posL_idem ks]
end
theorem prF_twice (f : Fo) : plainF (prF (prF f)) = plainF (prF f) := by rw [plainF_pr (prF f), plainF_pr f, pos_idem]
theorem names_pr : ∀ t : Tm, namesT (prT t) = namesT t
  | .odd => rfl
  | .num n l => by
    show namesT (posTm (.num (normB n l) (trimN l))) = []
    cases normB n l <;> rfl
  | .name s => rfl
  | .add l r => by show namesT (prT l) ++ namesT (prT r) = namesT l ++ namesT r; rw [names_pr l, names_pr r]
  | .sub l r => by show namesT (prT l) ++ namesT (prT r) = namesT l ++ namesT r; rw [names_pr l, names_pr r]
  | .mul l r => by show namesT (prT l) ++ namesT (prT r) = namesT l ++ namesT r; rw [names_pr l, names_pr r]
  | .neg t => by show namesT (prT t) = namesT t; exact names_pr t
  | .pow t e => by show namesT (prT t) = namesT t; exact names_pr t
theorem walk_pr {σ : Type} (step : σ → (ByteArray → Int) → ByteArray → σ) : ∀ (f : Fo) (g : ByteArray → Int) (s : σ), walkS step (prF f) g s = walkS step f g s
  | .odd, g, s => rfl
  | .truth b, g, s => rfl
  | .atom l e r, g, s => by
    show (namesT (prT r)).foldl (fun s nm => step s g nm) ((namesT (prT l)).foldl (fun s nm => step s g nm) s) = _
    rw [names_pr l, names_pr r]; rfl
  | .not f, g, s => walk_pr step f g s
  | .and l r, g, s => by show walkS step (prF r) g (walkS step (prF l) g s) = _; rw [walk_pr step l, walk_pr step r]; rfl
  | .or l r, g, s => by show walkS step (prF r) g (walkS step (prF l) g s) = _; rw [walk_pr step l, walk_pr step r]; rfl
  | .implies l r, g, s => by show walkS step (prF r) g (walkS step (prF l) g s) = _; rw [walk_pr step l, walk_pr step r]; rfl
  | .iff l r, g, s => by show walkS step (prF r) g (walkS step (prF l) g s) = _; rw [walk_pr step l, walk_pr step r]; rfl
  | .quant a n f, g, s => walk_pr step f (incG g n) s
theorem free_pr (f : Fo) : freeN (prF f) = freeN f := walk_pr freeStep f _ _
theorem atoms_pr : ∀ f : Fo, atomsF (prF f) = atomsF f
  | .odd => rfl
  | .truth b => rfl
  | .atom l e r => rfl
  | .not f => atoms_pr f
  | .and l r => by show atomsF (prF l) + atomsF (prF r) = _; rw [atoms_pr l, atoms_pr r]; rfl
  | .or l r => by show atomsF (prF l) + atomsF (prF r) = _; rw [atoms_pr l, atoms_pr r]; rfl
  | .implies l r => by show atomsF (prF l) + atomsF (prF r) = _; rw [atoms_pr l, atoms_pr r]; rfl
  | .iff l r => by show atomsF (prF l) + atomsF (prF r) = _; rw [atoms_pr l, atoms_pr r]; rfl
  | .quant a n f => atoms_pr f
theorem namesT_le : ∀ t : Tm, (namesT t).length ≤ tn t
  | .odd => Nat.zero_le _
  | .num n l => Nat.zero_le _
  | .name s => Nat.le_refl _
  | .add l r => by have := namesT_le l; have := namesT_le r; show (namesT l ++ namesT r).length ≤ tn l + tn r + 1; rw [List.length_append]; omega
  | .sub l r => by have := namesT_le l; have := namesT_le r; show (namesT l ++ namesT r).length ≤ tn l + tn r + 1; rw [List.length_append]; omega
  | .mul l r => by have := namesT_le l; have := namesT_le r; show (namesT l ++ namesT r).length ≤ tn l + tn r + 1; rw [List.length_append]; omega
  | .neg t => by have := namesT_le t; show (namesT t).length ≤ tn t + 1; omega
  | .pow t e => by have := namesT_le t; show (namesT t).length ≤ tn t + 1; omega
theorem fsz_le : ∀ f : Fo, fsz f ≤ fnn f
  | .odd => Nat.le_refl _
  | .truth b => Nat.le_refl _
  | .atom l e r => by have := namesT_le l; have := namesT_le r; show (namesT l).length + (namesT r).length + 1 ≤ tn l + tn r + 1; omega
  | .not f => by have := fsz_le f; show fsz f + 1 ≤ fnn f + 1; omega
  | .and l r => by have := fsz_le l; have := fsz_le r; show fsz l + fsz r + 1 ≤ fnn l + fnn r + 1; omega
  | .or l r => by have := fsz_le l; have := fsz_le r; show fsz l + fsz r + 1 ≤ fnn l + fnn r + 1; omega
  | .implies l r => by have := fsz_le l; have := fsz_le r; show fsz l + fsz r + 1 ≤ fnn l + fnn r + 1; omega
  | .iff l r => by have := fsz_le l; have := fsz_le r; show fsz l + fsz r + 1 ≤ fnn l + fnn r + 1; omega
  | .quant a n f => by have := fsz_le f; show fsz f + 1 ≤ fnn f + 1; omega
theorem posT_lift {w w' : World} {S : Nat → Prop} {f : Fo} {v : Value} (h : FoAt w S f v) (hS : ∀ b, S b → b < w.heap.size) (hb : Below w.heap.size w w') : FoAt w' (fun b => b < w'.heap.size) f v :=
  FoAt.more (fun b h1 => Nat.lt_of_lt_of_le (hS b h1) hb.size) _ _ (h.below hS hb)
end Pr
end Go.Proofs.YtkjbfomokdjbnaaDoor
