/-
  The plain law of terms: what is accepted, and the canonical tree.
-/
import Derived.Test.YteneobpacobpdaaGreatDoorFmC
import Derived.Test.YteneobpacobpdaaGreatDoorFmT
namespace Go.Proofs.YteneobpacobpdaaGreatDoor
open Go.RowKit
set_option linter.unusedSimpArgs false
set_option linter.unusedVariables false
namespace Fm

theorem trimLen_take (l : List Nat) (n : Nat) : ∀ m, m ≤ n → trimLen (l.take n) m = trimLen l m
  | 0, _ => by unfold trimLen; rfl
  | m + 1, h => by
    unfold trimLen
    have : (l.take n).getD m 1 = l.getD m 1 := by simp [List.getD, List.getElem?_take, show m < n by omega]
    rw [this, trimLen_take l n m (by omega)]
theorem trimLen_idem (l : List Nat) : ∀ n, trimLen l (trimLen l n) = trimLen l n
  | 0 => by unfold trimLen; rfl
  | n + 1 => by
    by_cases h : l.getD n 1 = 0
    · have e : trimLen l (n + 1) = trimLen l n := by conv => lhs; unfold trimLen; rw [if_pos h]
      rw [e]; exact trimLen_idem l n
    · have e : trimLen l (n + 1) = n + 1 := by conv => lhs; unfold trimLen; rw [if_neg h]
      rw [e, e]
theorem trimN_idem (l : List Nat) : trimN (trimN l) = trimN l := by
  have e : trimLen (trimN l) (trimN l).length = trimLen l l.length := by
    rw [trimN_len]
    conv => lhs; arg 1; unfold trimN
    rw [trimLen_take _ _ _ (Nat.le_refl _), trimLen_idem]
  show (trimN l).take (trimLen (trimN l) (trimN l).length) = trimN l
  rw [e]
  exact List.take_of_length_le (by rw [trimN_len]; exact Nat.le_refl _)
theorem normB_idem (neg : Bool) (l : List Nat) : normB (normB neg l) (trimN l) = normB neg l := by
  unfold normB; rw [trimN_idem]; cases neg <;> simp

/-! ### who is accepted -/
end Fm
end Go.Proofs.YteneobpacobpdaaGreatDoor
